/- A part of the proofs of this seat: YC. No condition is set. -/
import Derived.Test.YthjjpbcmimpjbaaXR
import Derived.Test.YthjjpbcmimpjbaaYA
import Derived.Test.YthjjpbcmimpjbaaYB
set_option linter.unusedVariables false
set_option linter.unusedSimpArgs false
set_option maxRecDepth 20000
/-! ### comparisons that scaling asks for -/
namespace Go.Sx
open Ieee
theorem cmp_self (a : Int) : compare a a = .eq := Int.compare_eq_eq.2 rfl
theorem feq_self {x : Nat} (h : pK x = 0) : feq x x = true := by
  unfold feq Ieee.Format.order
  rw [read_fin h]
  simp only [Ieee.Datum.order, cmp_self]
  rfl
theorem read_0 : Ieee.double.read 0 = .number false 0 (-1074) := by decide
theorem signed_zero (s : Bool) (m k : Nat) : Ieee.signed s m k = 0 ↔ m = 0 := by
  unfold Ieee.signed
  rw [Nat.shiftLeft_eq]
  have hp := Nat.two_pow_pos k
  have key : m * 2 ^ k = 0 ↔ m = 0 := by
    constructor
    · intro h
      rcases Nat.mul_eq_zero.1 h with h | h
      · exact h
      · omega
    · intro h; rw [h, Nat.zero_mul]
  rw [← key]
  generalize m * 2 ^ k = v
  cases s
  · simp only [Bool.false_eq_true, if_false]; omega
  · simp only [if_true]; omega
theorem feq_0 {x : Nat} (h : pK x = 0) : feq x 0 = decide (pM x = 0) := by
  unfold feq Ieee.Format.order
  rw [read_fin h, read_0]
  simp only [Ieee.Datum.order]
  have he := (pE_rng (x := x)).1
  have hm := (pM_rng (x := x)).1
  have e1 : min (pE x) (-1074) = -1074 := by omega
  rw [e1]
  have e2 : Ieee.signed false 0 (-1074 - -1074 : Int).toNat = 0 := by decide
  rw [e2]
  by_cases h0 : pM x = 0
  · have : (pM x).toNat = 0 := by omega
    rw [decide_eq_true h0, this, (signed_zero _ 0 _).2 rfl, cmp_self]; rfl
  · have hne : Ieee.signed (sNeg x) (pM x).toNat (pE x - -1074).toNat ≠ 0 := fun h => by have := (signed_zero _ _ _).1 h; omega
    rw [decide_eq_false h0]
    generalize Ieee.signed (sNeg x) (pM x).toNat (pE x - -1074).toNat = v at *
    rcases Int.lt_or_lt_of_ne hne with h1 | h1
    · rw [Int.compare_eq_lt.2 h1]; rfl
    · rw [Int.compare_eq_gt.2 h1]; rfl
theorem flt_0 {x : Nat} (h : pK x = 0) (h0 : pM x ≠ 0) : flt x 0 = sNeg x := by
  unfold flt Ieee.Format.order
  rw [read_fin h, read_0]
  simp only [Ieee.Datum.order]
  have he := (pE_rng (x := x)).1
  have hm := (pM_rng (x := x)).1
  have e1 : min (pE x) (-1074) = -1074 := by omega
  rw [e1]
  have e2 : Ieee.signed false 0 (-1074 - -1074 : Int).toNat = 0 := by decide
  rw [e2]
  have hp : 0 < (pM x).toNat <<< (pE x - -1074).toNat := by rw [Nat.shiftLeft_eq]; exact Nat.mul_pos (by omega) (Nat.two_pow_pos _)
  unfold Ieee.signed
  generalize (pM x).toNat <<< (pE x - -1074).toNat = v at *
  cases sNeg x
  · simp only [Bool.false_eq_true, if_false]
    rw [Int.compare_eq_gt.2 (by omega)]; rfl
  · simp only [if_true]
    rw [Int.compare_eq_lt.2 (by omega)]; rfl
theorem flt_max {x : Nat} (h : pK x = 0) : flt 9218868437227405311 (absF x) = false := by
  have hb := (abs_fin h).2
  rw [flt_pos (by decide) (by unfold fInf; omega)]
  exact decide_eq_false (by omega)
theorem flt_min {x : Nat} (h : pK x = 0) : flt (absF x) 4503599627370496 = decide (absF x < 4503599627370496) := by
  have hb := (abs_fin h).2
  exact flt_pos (by unfold fInf; omega) (by decide)
/-- those that aren't finite: the two infinite ones, and the one that is none -/
theorem inf_cases {x : Nat} (h : pK x ≠ 0) (h64 : x < 2 ^ 64) (hc : cn x = x) : x = 9218868437227405312 ∨ x = 18442240474082181120 ∨ x = qn := by
  rcases cn_cases x with ⟨h1, h2⟩ | ⟨h1, h2⟩
  · right; right; rw [← hc, h2]
  · have hE : pE₀ x = 2047 := by
      apply Classical.byContradiction; intro hE
      apply h; unfold pK; rw [if_neg (fun hh => hE hh.1), if_neg hE]
    have hM : pM₀ x = 0 := by
      apply Classical.byContradiction; intro hM
      unfold isNaN Ieee.Format.read at h1
      simp only [e_sw, e_bn, e_ir] at h1
      unfold pE₀ at hE; unfold pM₀ at hM
      rw [if_neg (by omega), if_neg (by omega), if_neg (by omega)] at h1
      cases h1
    unfold pE₀ at hE; unfold pM₀ at hM
    omega
theorem scale_zero {x : Nat} (h : pK x = 0) (h0 : pM x = 0) (h64 : x < 2 ^ 64) (k : Int) : scaleF x k = x := by
  unfold scaleF
  rw [if_pos h, h0]
  have : rungF (0 : Int).toNat (pE x + k) = 0 := by show rungF 0 _ = 0; unfold rungF; rw [if_pos rfl]
  rw [this]
  have hE : pE₀ x = 0 ∧ pM₀ x = 0 := by
    have h2 : pE₀ x ≠ 2047 := by intro hE; unfold pK at h; rw [if_pos hE] at h; split at h <;> cases h
    unfold pM at h0
    rw [if_neg h2] at h0
    split at h0
    · rename_i h3; exact ⟨h3, h0⟩
    · have : 0 ≤ pM₀ x := by unfold pM₀; omega
      omega
    
  obtain ⟨a, b⟩ := hE
  unfold pE₀ at a; unfold pM₀ at b
  unfold Ieee.Format.word
  rw [e_sw]
  unfold sNeg
  have : x / 9223372036854775808 = 0 ∨ x / 9223372036854775808 = 1 := by omega
  rcases this with hs | hs <;> rw [hs] <;> simp <;> omega
end Go.Sx
namespace Go.Sx
open Ieee
theorem rung_high {m : Nat} (hm : 4503599627370496 ≤ m) {e : Int} (he : 972 ≤ e) : rungF m e = 9218868437227405312 := by
  rcases Nat.lt_or_ge (rungF m e) 9218868437227405312 with h | h
  · exfalso
    obtain ⟨q, c, hr, hc, hq, hl, _⟩ := rung_kept (by omega : m ≠ 0) h
    have h52 : 52 ≤ m.log2 := by
      rw [Nat.le_log2 (by omega)]
      have : 2 ^ 52 = 4503599627370496 := by decide
      omega
    have h0 : q ≠ 0 := by omega
    have := hq h0
    omega
  · have := rungF_le m e; omega
theorem log2_53 {F : Nat} (hF : F < 4503599627370496) : (4503599627370496 + F).log2 = 52 := by
  apply log2_of
  · have : 2 ^ 52 = 4503599627370496 := by decide
    omega
  · have : 2 ^ (52 + 1) = 9007199254740992 := by decide
    omega
/-- a word made of a sign, an exponent and digits -/
theorem read_made {s : Bool} {a F : Nat} (ha : 1 ≤ a) (ha2 : a ≤ 2046) (hF : F < 4503599627370496) : (if s then 9223372036854775808 else 0) + a * 4503599627370496 + F < 2 ^ 64 ∧ cn ((if s then 9223372036854775808 else 0) + a * 4503599627370496 + F) = (if s then 9223372036854775808 else 0) + a * 4503599627370496 + F ∧
    Ieee.double.read ((if s then 9223372036854775808 else 0) + a * 4503599627370496 + F) = .number s (4503599627370496 + F) ((a : Int) - 1075) := by
  have e1 : (if s then 9223372036854775808 else 0) + a * 4503599627370496 + F = Ieee.double.word s (a * 4503599627370496 + F) := by
    unfold Ieee.Format.word; rw [e_sw]; cases s <;> simp <;> omega
  have hk : a * 4503599627370496 + F < 9218868437227405312 := by omega
  refine ⟨by cases s <;> simp <;> omega, ?_, ?_⟩
  · rw [e1]; exact word_cn (Nat.le_of_lt hk)
  · rw [e1, read_word _ _ (Nat.le_of_lt hk)]
    have hr : Ieee.double.read (a * 4503599627370496 + F) = .number false (4503599627370496 + F) ((a : Int) - 1075) := by
      generalize hR : a * 4503599627370496 + F = R at hk
      unfold Ieee.Format.read
      simp only [e_sw, e_bn, e_ir, e_lp]
      have h1 : R % 9223372036854775808 = R := Nat.mod_eq_of_lt (by omega)
      have h2 : (R / 9223372036854775808 % 2 == 1) = false := by rw [Nat.div_eq_of_lt (by omega)]; rfl
      have h3 : R % 4503599627370496 = F := by omega
      have h4 : R / 4503599627370496 = a := by omega
      rw [h1, h2, if_neg (by omega), if_pos hk, h3, h4]
      congr 1; omega
    rw [hr]; cases s <;> rfl
end Go.Sx
namespace Go.Sx
open Ieee
/-- the two loops of 'Make', told by their numbers alone -/
theorem mk_all {m : Nat} {e : Int} (h0 : 1 ≤ m) (hm : m < 4611686018427387904) (he : -1200 ≤ e ∧ e ≤ 2000) :
    ∃ (N1 N2 : Nat) (P Q : Nat → Nat) (hb lb : Nat → Bool), N1 ≤ 52 ∧ N2 ≤ 400 ∧ P 0 = m ∧ (∀ k, P (k + 1) = 2 * P k) ∧ (∀ k : Nat, k < N1 → P k < 4503599627370496 ∧ -1074 < e - k) ∧ ¬ (P N1 < 4503599627370496 ∧ -1074 < e - N1) ∧
      Q 0 = P N1 ∧ (∀ t, Q (t + 1) = Q t / 2) ∧ (∀ t, Q t < 4611686018427387904) ∧ (∀ t : Nat, t < N2 → 9007199254740992 ≤ Q t ∨ e - N1 + t < -1074) ∧ Q N2 < 9007199254740992 ∧ -1074 ≤ e - N1 + N2 ∧
      hb 0 = false ∧ lb 0 = false ∧ (∀ t, hb (t + 1) = decide (Q t % 2 = 1)) ∧ (∀ t, lb (t + 1) = (lb t || hb t)) ∧
      rungF m e = min ((e - N1 + N2 + 1074).toNat * 4503599627370496 + (Q N2 + (if hb N2 = true ∧ (lb N2 = true ∨ Q N2 % 2 = 1) then 1 else 0))) 9218868437227405312 ∧ (Q N2 < 4503599627370496 → e - N1 + N2 = -1074) := by
  obtain ⟨N1, hN1, h1, h1'⟩ := mk1 h0 e
  have hM62 : m * 2 ^ N1 < 2 ^ 62 := by
    cases N1 with
    | zero => simpa using hm
    | succ n => have := (h1 n (by omega)).1; rw [Nat.pow_succ, ← Nat.mul_assoc]; omega
  obtain ⟨N2, hN2, h2, h3, h4⟩ := mk2 hM62 (e := e - N1) (by omega)
  have hk := mk_end h0 h1 h1' h2 h3 h4
  refine ⟨N1, N2, fun k => m * 2 ^ k, fun t => m * 2 ^ N1 / 2 ^ t, fun t => hfB (m * 2 ^ N1) t, fun t => loB (m * 2 ^ N1) t, hN1, hN2, by simp, fun k => ?_, h1, h1', by simp, fun t => (div_two _ t).symm, fun t => Nat.lt_of_le_of_lt (Nat.div_le_self _ _) hM62, h2, h3, h4, rfl, rfl, fun t => rfl, fun t => rfl, hk.1, hk.2⟩
  show m * 2 ^ (k + 1) = 2 * (m * 2 ^ k)
  rw [Nat.pow_succ, ← Nat.mul_assoc, Nat.mul_comm]
end Go.Sx

set_option linter.unusedVariables false
set_option linter.unusedSimpArgs false
set_option maxRecDepth 20000
namespace Go.Sx
open Go.Proofs

theorem bits_f (H : List (List AV)) (x : Nat) (hx : pK x = 0) : CSpec Try.prog 49 [.flt x] H (.int .u64 (x : Int)) H := by
  refine .inr ⟨rfl, fun w g cargs h => ?_⟩
  simp only [LRep] at h
  obtain ⟨v, r, hv, h1, rfl⟩ := h
  simp only [VRep] at h1
  obtain ⟨b, rfl, h2, h3⟩ := h1
  have : cargs = #[.float .f64 b] := Array.ext' hv
  subst this
  have hb := cn_fin hx h3
  subst hb
  exact ⟨_, bits_run b w, by simp [VRep]⟩
theorem v_shl52 {e : List (Nat × EV)} {L : List (Nat × List AV)} {H : List (List AV)} {K : St → Prop} {dd : Nat} {a : Int} (h : 0 ≤ a ∧ a ≤ 2047) (hk : K ⟨(dd, .val (.int .u64 (a * 4503599627370496))) :: e, L, H⟩) : valK dd K ⟨e, L, H⟩ (some (0 ≤ (52 : Int), .int .u64 (IntKind.u64.wrap (a * 2 ^ (min (52 : Int).toNat IntKind.u64.bits))))) := by
  have : (2 : Int) ^ (min (52 : Int).toNat IntKind.u64.bits) = 4503599627370496 := by decide
  rw [this, wrapU (by omega)]
  exact ⟨by decide, hk⟩
theorem v_eqI {e : List (Nat × EV)} {L : List (Nat × List AV)} {H : List (List AV)} {K : St → Prop} {dd : Nat} {k : IntKind} {n m : Int} (h : n = m) (hk : K ⟨(dd, .val (.int k m)) :: e, L, H⟩) : valK dd K ⟨e, L, H⟩ (some (True, .int k n)) := by
  subst h; exact ⟨trivial, hk⟩
attribute [local irreducible] Ex exOps exD opX opE thenX blkX RetQ Spec CSpec Fr condK guardK guardD ckK valK pickK loadK faK callK argK gK fK rK RetV lpX prK
set_option maxHeartbeats 4000000 in
theorem isinf_c (H : List (List AV)) (x : Nat) :
    CSpec Try.prog 149 [.flt x, .int .i64 0] H (.bool (flt 9218868437227405311 (absF x))) H := by
  refine .mk (fun args w => Try.call149 args w) (Spec.intro' (fn := Try.f149) Try.func149 rfl (by kernel_rfl) (by simp) false [] (draw := drawX Try.prog ⟨false, _, []⟩) dOk ?_)
  simp only [argE, Nat.reduceAdd]
  repeat' (first
    | (refine gateE ?_; (first | refine b_c0 ?_ | refine b_nil ?_ | fail))
    | (refine gateO ?_; (first | refine m14 ?_ | (refine m45 ?_; (first | refine v_bbT (by exact rfl) ?_ | refine v_k ?_ | fail)) | (refine m00 ?_; (first | refine m52 ?_ | refine m53 ?_ | refine v_eP ?_ | refine m47 ?_ | refine m48 ?_ | refine m49 ?_ | refine m50 ?_ | refine v_k ?_ | refine m51 ?_ | fail)) | refine m42 ?_ | refine b_assignI ?_ | refine b_assignN ?_ | refine m08 ?_ | (refine m20 ?_; (first | refine m52 ?_ | refine m53 ?_ | refine v_eP ?_ | refine m47 ?_ | refine m48 ?_ | refine m49 ?_ | refine m50 ?_ | refine v_k ?_ | refine m51 ?_ | fail)) | refine b_callB ?_ | fail))
    | (refine gateT ?_; (first | refine b_thn ?_ | refine b_thr ?_ | refine b_the ?_ | fail))
    | (refine gateX ?_; (first | refine b_seq ?_ | refine b_region ?_ | (refine m06 ?_; (first | refine c_T ?_ | refine c_F ?_ | refine c_P ?_ ?_ | refine c_B ?_ ?_ | fail)) | refine b_ret ?_ | refine b_skip ?_ | refine b_block ?_ | refine b_exit ?_ | fail))
    | refine m21 ?_
    | refine a_nil ?_
    | (refine gateK ?_; (first | refine c_call (mabs_c _ x) (OldOk.app (by simp)) ?_ | fail))
    | (refine gateQ ?_; refine m05 ?_)
    | (refine gateR ?_; (first | refine m04 ?_ | refine m02 ?_ | refine m03 ?_ | refine rk_nil ?_ | fail))
    | intro _)
  all_goals first
    | (exfalso; omega)
    | (refine rv_fr rfl ?_; exact Fr.raw _)
    | (refine rv_old rfl (by simp [mx, mxL, resOne, aOf, aOf1]) ?_; exact rfl)
    | (refine rv_old rfl (by simp [mx, mxL, resOne, aOf, aOf1]) ?_; simp only [show cn 4841369599423283200 = 4841369599423283200 from by decide]; exact rfl)

set_option maxHeartbeats 4000000 in
theorem isnan_c (H : List (List AV)) (x : Nat) :
    CSpec Try.prog 150 [.flt x] H (.bool (!feq x x)) H := by
  refine .mk (fun args w => Try.call150 args w) (Spec.intro' (fn := Try.f150) Try.func150 rfl (by kernel_rfl) (by simp) false [] (draw := drawX Try.prog ⟨false, _, []⟩) dOk ?_)
  simp only [argE, Nat.reduceAdd]
  repeat' (first
    | (refine gateE ?_; (first | refine b_c0 ?_ | refine b_nil ?_ | fail))
    | (refine gateO ?_; (first | refine m14 ?_ | (refine m00 ?_; (first | refine m54 ?_ | refine m55 ?_ | refine v_neP ?_ | refine m49 ?_ | refine m50 ?_ | refine v_k ?_ | refine m51 ?_ | fail)) | refine m42 ?_ | refine b_assignI ?_ | refine b_assignN ?_ | refine m08 ?_ | fail))
    | (refine gateT ?_; (first | refine b_thn ?_ | refine b_thr ?_ | refine b_the ?_ | fail))
    | (refine gateX ?_; (first | refine b_seq ?_ | refine b_region ?_ | (refine m06 ?_; (first | refine c_T ?_ | refine c_F ?_ | refine c_P ?_ ?_ | refine c_B ?_ ?_ | fail)) | refine b_ret ?_ | refine b_skip ?_ | refine b_block ?_ | refine b_exit ?_ | fail))
    | (refine gateQ ?_; refine m05 ?_)
    | (refine gateR ?_; (first | refine m04 ?_ | refine m02 ?_ | refine m03 ?_ | refine rk_nil ?_ | fail))
    | intro _)
  all_goals first
    | (exfalso; omega)
    | (refine rv_fr rfl ?_; exact Fr.raw _)
    | (refine rv_old rfl (by simp [mx, mxL, resOne, aOf, aOf1]) ?_; exact rfl)
    | (refine rv_old rfl (by simp [mx, mxL, resOne, aOf, aOf1]) ?_; simp only [show cn 4841369599423283200 = 4841369599423283200 from by decide]; exact rfl)

set_option maxHeartbeats 4000000 in
theorem minf_1 (H : List (List AV)) :
    CSpec Try.prog 153 [.int .i64 1] H (.flt 9218868437227405312) H := by
  refine .mk (fun args w => Try.call153 args w) (Spec.intro' (fn := Try.f153) Try.func153 rfl (by kernel_rfl) (by simp) false [] (draw := drawX Try.prog ⟨false, _, []⟩) dOk ?_)
  simp only [argE, Nat.reduceAdd]
  repeat' (first
    | (refine gateE ?_; (first | refine b_c0 ?_ | refine b_nil ?_ | fail))
    | (refine gateO ?_; (first | refine m14 ?_ | (refine m00 ?_; (first | refine m47 ?_ | refine m48 ?_ | refine m49 ?_ | refine m50 ?_ | refine v_k ?_ | refine m51 ?_ | fail)) | refine m42 ?_ | refine b_assignI ?_ | refine b_assignN ?_ | refine m08 ?_ | refine b_callB ?_ | fail))
    | (refine gateT ?_; (first | refine b_thn ?_ | refine b_thr ?_ | refine b_the ?_ | fail))
    | (refine gateX ?_; (first | refine b_seq ?_ | refine b_region ?_ | (refine m06 ?_; (first | refine c_T ?_ | refine c_F ?_ | refine c_P ?_ ?_ | refine c_B ?_ ?_ | fail)) | refine b_ret ?_ | refine b_skip ?_ | refine b_block ?_ | refine b_exit ?_ | fail))
    | refine m21 ?_
    | refine a_nil ?_
    | (refine gateK ?_; (first | refine c_call (frombits_c _ _ (by omega)) (OldOk.app (by simp)) ?_ | fail))
    | (refine gateQ ?_; refine m05 ?_)
    | (refine gateR ?_; (first | refine m04 ?_ | refine m02 ?_ | refine m03 ?_ | refine rk_nil ?_ | fail))
    | intro _)
  all_goals first
    | (exfalso; omega)
    | (refine rv_fr rfl ?_; exact (show cn 9218868437227405312 = 9218868437227405312 by decide) ▸ Fr.raw 9218868437227405312)
    | (refine rv_old rfl (by simp [mx, mxL, resOne, aOf, aOf1]) ?_; exact rfl)
    | (refine rv_old rfl (by simp [mx, mxL, resOne, aOf, aOf1]) ?_; simp only [show cn 4841369599423283200 = 4841369599423283200 from by decide]; exact rfl)

set_option maxHeartbeats 4000000 in
theorem minf_n (H : List (List AV)) :
    CSpec Try.prog 153 [.int .i64 (-1)] H (.flt 18442240474082181120) H := by
  refine .mk (fun args w => Try.call153 args w) (Spec.intro' (fn := Try.f153) Try.func153 rfl (by kernel_rfl) (by simp) false [] (draw := drawX Try.prog ⟨false, _, []⟩) dOk ?_)
  simp only [argE, Nat.reduceAdd]
  repeat' (first
    | (refine gateE ?_; (first | refine b_c0 ?_ | refine b_nil ?_ | fail))
    | (refine gateO ?_; (first | refine m14 ?_ | (refine m00 ?_; (first | refine m47 ?_ | refine m48 ?_ | refine m49 ?_ | refine m50 ?_ | refine v_k ?_ | refine m51 ?_ | fail)) | refine m42 ?_ | refine b_assignI ?_ | refine b_assignN ?_ | refine m08 ?_ | refine b_callB ?_ | fail))
    | (refine gateT ?_; (first | refine b_thn ?_ | refine b_thr ?_ | refine b_the ?_ | fail))
    | (refine gateX ?_; (first | refine b_seq ?_ | refine b_region ?_ | (refine m06 ?_; (first | refine c_T ?_ | refine c_F ?_ | refine c_P ?_ ?_ | refine c_B ?_ ?_ | fail)) | refine b_ret ?_ | refine b_skip ?_ | refine b_block ?_ | refine b_exit ?_ | fail))
    | refine m21 ?_
    | refine a_nil ?_
    | (refine gateK ?_; (first | refine c_call (frombits_c _ _ (by omega)) (OldOk.app (by simp)) ?_ | fail))
    | (refine gateQ ?_; refine m05 ?_)
    | (refine gateR ?_; (first | refine m04 ?_ | refine m02 ?_ | refine m03 ?_ | refine rk_nil ?_ | fail))
    | intro _)
  all_goals first
    | (exfalso; omega)
    | (refine rv_fr rfl ?_; exact (show cn 18442240474082181120 = 18442240474082181120 by decide) ▸ Fr.raw 18442240474082181120)
    | (refine rv_old rfl (by simp [mx, mxL, resOne, aOf, aOf1]) ?_; exact rfl)
    | (refine rv_old rfl (by simp [mx, mxL, resOne, aOf, aOf1]) ?_; simp only [show cn 4841369599423283200 = 4841369599423283200 from by decide]; exact rfl)


theorem bits_0 (H : List (List AV)) : CSpec Try.prog 49 [.flt 0] H (.int .u64 0) H := bits_f H 0 (by decide)
theorem csign_eq {x : Nat} (h64 : x < 2 ^ 64) : bitsI .or .u64 0 (bitsI .and .u64 (x : Int) 9223372036854775808) = ((Ieee.double.word (sNeg x) 0 : Nat) : Int) := by
  rw [show (9223372036854775808 : Int) = ((9223372036854775808 : Nat) : Int) from rfl, bits_andU h64 (by decide), and63 h64]
  have hw : x / 9223372036854775808 * 9223372036854775808 = Ieee.double.word (sNeg x) 0 := by
    unfold Ieee.Format.word sNeg
    rw [e_sw]
    have : x / 9223372036854775808 = 0 ∨ x / 9223372036854775808 = 1 := by omega
    rcases this with h | h <;> rw [h] <;> rfl
  rw [hw]
  have hl : Ieee.double.word (sNeg x) 0 < 2 ^ 64 := by cases sNeg x <;> decide
  have := bits_orU (x := 0) (y := Ieee.double.word (sNeg x) 0) (by decide) hl
  rw [Nat.zero_or] at this
  exact this
set_option maxHeartbeats 4000000 in
theorem csign_c (H : List (List AV)) (x : Nat) (hx : pK x = 0) (h64 : x < 2 ^ 64) :
    CSpec Try.prog 152 [.flt 0, .flt x] H (.flt (Ieee.double.word (sNeg x) 0)) H := by
  refine .mk (fun args w => Try.call152 args w) (Spec.intro' (fn := Try.f152) Try.func152 rfl (by kernel_rfl) (by simp) false [] (draw := drawX Try.prog ⟨false, _, []⟩) dOk ?_)
  simp only [argE, Nat.reduceAdd]
  repeat' (first
    | (refine gateE ?_; (first | refine b_c0 ?_ | refine b_nil ?_ | fail))
    | (refine gateO ?_; (first | refine m14 ?_ | (refine m00 ?_; (first | refine v_eqI (show bitsI .andNot .u64 0 9223372036854775808 = 0 by decide) ?_ | refine v_eqI (csign_eq h64) ?_ | refine m49 ?_ | refine m50 ?_ | refine v_k ?_ | refine m51 ?_ | fail)) | refine m42 ?_ | refine b_assignI ?_ | refine b_assignN ?_ | refine m08 ?_ | refine b_callB ?_ | fail))
    | (refine gateT ?_; (first | refine b_thn ?_ | refine b_thr ?_ | refine b_the ?_ | fail))
    | (refine gateX ?_; (first | refine b_seq ?_ | refine b_region ?_ | (refine m06 ?_; (first | refine c_T ?_ | refine c_F ?_ | refine c_P ?_ ?_ | refine c_B ?_ ?_ | fail)) | refine b_ret ?_ | refine b_skip ?_ | refine b_block ?_ | refine b_exit ?_ | fail))
    | refine m21 ?_
    | refine a_nil ?_
    | (refine gateK ?_; (first | refine c_call (bits_0 _) (OldOk.app (by simp)) ?_ | refine c_call (bits_f _ x hx) (OldOk.app (by simp)) ?_ | refine c_call (frombits_c _ _ (by have : Ieee.double.word (sNeg x) 0 < 2 ^ 64 := (by cases sNeg x <;> decide); omega)) (OldOk.app (by simp)) ?_ | fail))
    | (refine gateQ ?_; refine m05 ?_)
    | (refine gateR ?_; (first | refine m04 ?_ | refine m02 ?_ | refine m03 ?_ | refine rk_nil ?_ | fail))
    | intro _)
  all_goals first
    | (rw [Int.toNat_natCast]; refine rv_fr rfl ?_; have hh := Fr.raw (n₀ := H.length) (keep := []) (H := H ++ []) (Ieee.double.word (sNeg x) 0); rw [word_cn (by decide)] at hh; exact hh)

set_option maxHeartbeats 4000000 in
theorem norm_s (H : List (List AV)) (x : Nat) (hx : pK x = 0) (hs : absF x < 4503599627370496) :
    CSpec Try.prog 151 [.flt x] H (.tup [.flt (fmul x 4841369599423283200), .int .i64 (-52)]) H := by
  refine .mk (fun args w => Try.call151 args w) (Spec.intro' (fn := Try.f151) Try.func151 rfl (by kernel_rfl) (by simp) false [] (draw := drawX Try.prog ⟨false, _, []⟩) dOk ?_)
  simp only [argE, Nat.reduceAdd]
  repeat' (first
    | (refine gateE ?_; (first | refine b_c0 ?_ | refine b_nil ?_ | fail))
    | (refine gateO ?_; (first | refine m14 ?_ | (refine m00 ?_; (first | refine v_bT (by rw [show cn 4503599627370496 = 4503599627370496 from by decide, flt_min hx]; exact decide_eq_true hs) ?_ | refine m47 ?_ | refine m48 ?_ | refine m49 ?_ | refine m50 ?_ | refine v_k ?_ | refine m51 ?_ | fail)) | refine m42 ?_ | refine b_assignI ?_ | refine b_assignN ?_ | refine m08 ?_ | refine b_callB ?_ | fail))
    | (refine gateT ?_; (first | refine b_thn ?_ | refine b_thr ?_ | refine b_the ?_ | fail))
    | (refine gateX ?_; (first | refine b_seq ?_ | refine b_region ?_ | (refine m06 ?_; (first | refine c_T ?_ | refine c_F ?_ | refine c_P ?_ ?_ | refine c_B ?_ ?_ | fail)) | refine b_ret ?_ | refine b_skip ?_ | refine b_block ?_ | refine b_exit ?_ | fail))
    | refine m21 ?_
    | refine a_nil ?_
    | (refine gateK ?_; (first | refine c_call (mabs_c _ x) (OldOk.app (by simp)) ?_ | fail))
    | (refine gateQ ?_; refine m05 ?_)
    | (refine gateR ?_; (first | refine m04 ?_ | refine m02 ?_ | refine m03 ?_ | refine rk_nil ?_ | fail))
    | intro _)
  all_goals first
    | (exfalso; omega)
    | (refine rv_fr rfl ?_; exact Fr.raw _)
    | (refine rv_old rfl (by simp [mx, mxL, resOne, aOf, aOf1]) ?_; exact rfl)
    | (refine rv_old rfl (by simp [mx, mxL, resOne, aOf, aOf1]) ?_; simp only [show cn 4841369599423283200 = 4841369599423283200 from by decide]; exact rfl)

set_option maxHeartbeats 4000000 in
theorem norm_n (H : List (List AV)) (x : Nat) (hx : pK x = 0) (hs : ¬ absF x < 4503599627370496) :
    CSpec Try.prog 151 [.flt x] H (.tup [.flt x, .int .i64 0]) H := by
  refine .mk (fun args w => Try.call151 args w) (Spec.intro' (fn := Try.f151) Try.func151 rfl (by kernel_rfl) (by simp) false [] (draw := drawX Try.prog ⟨false, _, []⟩) dOk ?_)
  simp only [argE, Nat.reduceAdd]
  repeat' (first
    | (refine gateE ?_; (first | refine b_c0 ?_ | refine b_nil ?_ | fail))
    | (refine gateO ?_; (first | refine m14 ?_ | (refine m00 ?_; (first | refine v_bF (by rw [show cn 4503599627370496 = 4503599627370496 from by decide, flt_min hx]; exact decide_eq_false hs) ?_ | refine m47 ?_ | refine m48 ?_ | refine m49 ?_ | refine m50 ?_ | refine v_k ?_ | refine m51 ?_ | fail)) | refine m42 ?_ | refine b_assignI ?_ | refine b_assignN ?_ | refine m08 ?_ | refine b_callB ?_ | fail))
    | (refine gateT ?_; (first | refine b_thn ?_ | refine b_thr ?_ | refine b_the ?_ | fail))
    | (refine gateX ?_; (first | refine b_seq ?_ | refine b_region ?_ | (refine m06 ?_; (first | refine c_T ?_ | refine c_F ?_ | refine c_P ?_ ?_ | refine c_B ?_ ?_ | fail)) | refine b_ret ?_ | refine b_skip ?_ | refine b_block ?_ | refine b_exit ?_ | fail))
    | refine m21 ?_
    | refine a_nil ?_
    | (refine gateK ?_; (first | refine c_call (mabs_c _ x) (OldOk.app (by simp)) ?_ | fail))
    | (refine gateQ ?_; refine m05 ?_)
    | (refine gateR ?_; (first | refine m04 ?_ | refine m02 ?_ | refine m03 ?_ | refine rk_nil ?_ | fail))
    | intro _)
  all_goals first
    | (exfalso; omega)
    | (refine rv_fr rfl ?_; exact Fr.raw _)
    | (refine rv_old rfl (by simp [mx, mxL, resOne, aOf, aOf1]) ?_; exact rfl)
    | (refine rv_old rfl (by simp [mx, mxL, resOne, aOf, aOf1]) ?_; simp only [show cn 4841369599423283200 = 4841369599423283200 from by decide]; exact rfl)


theorem norm_c (H : List (List AV)) (x : Nat) (hx : pK x = 0) (y : Nat) (en : Int) (hy : y = (if absF x < 4503599627370496 then fmul x 4841369599423283200 else x)) (he : en = (if absF x < 4503599627370496 then -52 else 0)) : CSpec Try.prog 151 [.flt x] H (.tup [.flt y, .int .i64 en]) H := by
  by_cases hs : absF x < 4503599627370496
  · rw [if_pos hs] at hy he; rw [hy, he]; exact norm_s H x hx hs
  · rw [if_neg hs] at hy he; rw [hy, he]; exact norm_n H x hx hs
set_option maxHeartbeats 4000000 in
theorem ldexp_i (H : List (List AV)) (x : Nat) (h0 : feq x 0 = false) (hi : flt 9218868437227405311 (absF x) = true ∨ feq x x = false) (k : Int) (hk1 : -5000 ≤ k) (hk2 : k ≤ 5000) :
    CSpec Try.prog 142 [.flt x, .int .i64 k] H (.flt x) H := by
  refine .mk (fun args w => Try.call142 args w) (Spec.intro' (fn := Try.f142) Try.func142 rfl (by kernel_rfl) (by simp) false [] (draw := drawX Try.prog ⟨false, _, []⟩) dOk ?_)
  simp only [argE, Nat.reduceAdd]
  repeat' (first
    | (refine gateE ?_; (first | refine b_c0 ?_ | refine b_nil ?_ | refine m13 ?_ | refine m12 ?_ | refine m11 ?_ | (refine m10 ?_; (first | refine g_TT ?_ | refine g_FF ?_ | refine g_TF ?_ | refine g_FT ?_ | refine g_PT ?_ ?_ | refine g_PF ?_ ?_ | refine g_BT ?_ ?_ | refine g_BF ?_ ?_ | fail)) | (refine m09 ?_; (first | refine g_TT ?_ | refine g_FF ?_ | refine g_TF ?_ | refine g_FT ?_ | refine g_PT ?_ ?_ | refine g_PF ?_ ?_ | refine g_BT ?_ ?_ | refine g_BF ?_ ?_ | fail)) | refine m38 ?_ | fail))
    | (refine gateO ?_; (first | refine m14 ?_ | (refine m45 ?_; (first | refine v_bbT (by exact rfl) ?_ | refine v_k ?_ | fail)) | (refine m00 ?_; (first | refine m52 ?_ | refine m53 ?_ | refine v_eP ?_ | refine m47 ?_ | refine m48 ?_ | refine m49 ?_ | refine m50 ?_ | refine v_shr (by omega) (by decide) (by (conv => {lhs; simp [IntKind.bits]}); done) ?_ | refine v_k ?_ | refine m51 ?_ | fail)) | (refine m22 ?_; (first | refine m26 ?_ | refine m27 ?_ | fail)) | refine m42 ?_ | refine b_assignI ?_ | refine b_assignN ?_ | refine m08 ?_ | refine b_callB ?_ | refine m23 ?_ | (refine m46 ?_; (first | refine m52 ?_ | refine m53 ?_ | refine v_eP ?_ | refine m47 ?_ | refine m48 ?_ | refine m49 ?_ | refine m50 ?_ | refine v_shr (by omega) (by decide) (by (conv => {lhs; simp [IntKind.bits]}); done) ?_ | refine v_k ?_ | refine m51 ?_ | fail)) | refine b_cnvF (by (conv => {lhs; whnf}); done) (by exact rfl) ?_ | refine b_cnvIF (by (conv => {lhs; whnf}); done) ?_ | fail))
    | (refine gateT ?_; (first | refine b_thn ?_ | refine b_thr ?_ | refine b_the ?_ | fail))
    | (refine gateX ?_; (first | refine b_seq ?_ | refine b_region ?_ | (refine m06 ?_; (first | refine c_T ?_ | refine c_F ?_ | refine c_P ?_ ?_ | refine c_B ?_ ?_ | fail)) | refine b_ret ?_ | refine b_skip ?_ | refine b_block ?_ | refine b_exit ?_ | fail))
    | refine m43 ?_
    | refine a_consI ?_
    | refine m21 ?_
    | refine a_nil ?_
    | (refine gateK ?_; (first | refine c_call (isinf_c _ x) (OldOk.app (by simp)) ?_ | refine c_call (isnan_c _ x) (OldOk.app (by simp)) ?_ | fail))
    | (refine gateB ?_; (first | refine b_bln ?_ | refine b_blr ?_ | refine b_ble ?_ | refine m57 ?_ | fail))
    | (refine gateQ ?_; refine m05 ?_)
    | (refine gateR ?_; (first | refine m04 ?_ | refine m02 ?_ | refine m03 ?_ | refine rk_nil ?_ | fail))
    | intro _)
  all_goals first
    | (refine rv_old rfl (by simp [mx, mxL, resOne, aOf, aOf1]) ?_; exact rfl)
    | (exfalso; simp only [show cn 0 = 0 from by decide] at *; simp_all; done)

set_option maxHeartbeats 4000000 in
theorem ldexp_z (H : List (List AV)) (x : Nat) (h0 : feq x 0 = true) (k : Int) (hk1 : -5000 ≤ k) (hk2 : k ≤ 5000) :
    CSpec Try.prog 142 [.flt x, .int .i64 k] H (.flt x) H := by
  refine .mk (fun args w => Try.call142 args w) (Spec.intro' (fn := Try.f142) Try.func142 rfl (by kernel_rfl) (by simp) false [] (draw := drawX Try.prog ⟨false, _, []⟩) dOk ?_)
  simp only [argE, Nat.reduceAdd]
  repeat' (first
    | (refine gateE ?_; (first | refine b_c0 ?_ | refine b_nil ?_ | refine m13 ?_ | refine m12 ?_ | refine m11 ?_ | (refine m10 ?_; (first | refine g_TT ?_ | refine g_FF ?_ | refine g_TF ?_ | refine g_FT ?_ | refine g_PT ?_ ?_ | refine g_PF ?_ ?_ | refine g_BT ?_ ?_ | refine g_BF ?_ ?_ | fail)) | (refine m09 ?_; (first | refine g_TT ?_ | refine g_FF ?_ | refine g_TF ?_ | refine g_FT ?_ | refine g_PT ?_ ?_ | refine g_PF ?_ ?_ | refine g_BT ?_ ?_ | refine g_BF ?_ ?_ | fail)) | refine m38 ?_ | fail))
    | (refine gateO ?_; (first | refine m14 ?_ | (refine m45 ?_; (first | refine v_bT (by rw [show cn 0 = 0 from by decide]; exact h0) ?_ | refine v_bbT (by exact rfl) ?_ | refine v_k ?_ | fail)) | (refine m00 ?_; (first | refine v_bT (by rw [show cn 0 = 0 from by decide]; exact h0) ?_ | refine m52 ?_ | refine m53 ?_ | refine v_eP ?_ | refine m47 ?_ | refine m48 ?_ | refine m49 ?_ | refine m50 ?_ | refine v_shr (by omega) (by decide) (by (conv => {lhs; simp [IntKind.bits]}); done) ?_ | refine v_k ?_ | refine m51 ?_ | fail)) | (refine m22 ?_; (first | refine m26 ?_ | refine m27 ?_ | fail)) | refine m42 ?_ | refine b_assignI ?_ | refine b_assignN ?_ | refine m08 ?_ | refine b_callB ?_ | refine m23 ?_ | (refine m46 ?_; (first | refine v_bT (by rw [show cn 0 = 0 from by decide]; exact h0) ?_ | refine m52 ?_ | refine m53 ?_ | refine v_eP ?_ | refine m47 ?_ | refine m48 ?_ | refine m49 ?_ | refine m50 ?_ | refine v_shr (by omega) (by decide) (by (conv => {lhs; simp [IntKind.bits]}); done) ?_ | refine v_k ?_ | refine m51 ?_ | fail)) | refine b_cnvF (by (conv => {lhs; whnf}); done) (by exact rfl) ?_ | refine b_cnvIF (by (conv => {lhs; whnf}); done) ?_ | fail))
    | (refine gateT ?_; (first | refine b_thn ?_ | refine b_thr ?_ | refine b_the ?_ | fail))
    | (refine gateX ?_; (first | refine b_seq ?_ | refine b_region ?_ | (refine m06 ?_; (first | refine c_T ?_ | refine c_F ?_ | refine c_P ?_ ?_ | refine c_B ?_ ?_ | fail)) | refine b_ret ?_ | refine b_skip ?_ | refine b_block ?_ | refine b_exit ?_ | fail))
    | refine m43 ?_
    | refine a_consI ?_
    | refine m21 ?_
    | refine a_nil ?_
    | (refine gateB ?_; (first | refine b_bln ?_ | refine b_blr ?_ | refine b_ble ?_ | refine m57 ?_ | fail))
    | (refine gateQ ?_; refine m05 ?_)
    | (refine gateR ?_; (first | refine m04 ?_ | refine m02 ?_ | refine m03 ?_ | refine rk_nil ?_ | fail))
    | intro _)
  all_goals first
    | (refine rv_old rfl (by simp [mx, mxL, resOne, aOf, aOf1]) ?_; exact rfl)
    | (exfalso; simp only [show cn 0 = 0 from by decide] at *; simp_all; done)

set_option maxHeartbeats 4000000 in
theorem ldexp_n (H : List (List AV)) (x : Nat) (hx : pK x = 0) (h0 : pM x ≠ 0) (h64 : x < 2 ^ 64) (k : Int) (hk1 : -5000 ≤ k) (hk2 : k ≤ 5000) :
    CSpec Try.prog 142 [.flt x, .int .i64 k] H (.flt (scaleF x k)) H := by
  obtain ⟨y, E, F, en, hy, hen, hyv, hE1, hE2, hF, hyK, hsh⟩ := norm_fin hx h0 h64
  have hen2 : en = -52 ∨ en = 0 := by rw [hen]; split; exact .inl rfl; exact .inr rfl
  obtain ⟨s, hs⟩ : ∃ s, sNeg x = s := ⟨_, rfl⟩
  have hsc : scaleF x k = Ieee.double.word s (rungF (4503599627370496 + F) ((E : Int) - 1075 + en + k)) := by unfold scaleF; rw [if_pos hx, hsh, hs]
  rw [hs] at hyv
  obtain ⟨hy64, hycn, hyr⟩ := read_made (s := s) hE1 (by omega) hF
  rw [← hyv] at hy64 hycn hyr
  have hys : sNeg y = s := by have := read_fin hyK; rw [hyr] at this; injection this with a b c; exact a.symm
  have hyM : pM y ≠ 0 := by have := read_fin hyK; rw [hyr] at this; injection this with a b c; omega
  have hand : bitsI .and .i64 ((y : Int) / 4503599627370496) 2047 = (E : Int) := by
    have h1 := bits_andI (x := y / 4503599627370496) (by omega)
    have h2 : y / 4503599627370496 % 2048 = E := by rw [hyv]; cases s <;> simp <;> omega
    rw [h2] at h1; rw [← h1]; rfl
  have handn : bitsI .andNot .u64 (y : Int) 9218868437227405312 = (((if s then 1 else 0) * 9223372036854775808 + F : Nat) : Int) := by
    have h1 : y / 9223372036854775808 * 9223372036854775808 + y % 4503599627370496 = (if s then 1 else 0) * 9223372036854775808 + F := by rw [hyv]; cases s <;> simp <;> omega
    rw [bits_andnU hy64, h1]
  have hor : ∀ a : Int, 1 ≤ a ∧ a ≤ 2046 → bitsI .or .u64 (((if s then 1 else 0) * 9223372036854775808 + F : Nat) : Int) (a * 4503599627370496) = (((if s then 9223372036854775808 else 0) + a.toNat * 4503599627370496 + F : Nat) : Int) := fun a ha => by
    have h1 : a * 4503599627370496 = ((a.toNat * 4503599627370496 : Nat) : Int) := by omega
    rw [h1, bits_orU (by cases s <;> simp <;> omega) (by omega), or_exp hF (by omega)]
    have h2 : (if s then 1 else 0) * 9223372036854775808 + a.toNat * 4503599627370496 + F = (if s then 9223372036854775808 else 0) + a.toNat * 4503599627370496 + F := by cases s <;> simp
    rw [h2]
  have hmul : ∀ (c : Nat) (d : Int) (a : Int), Ieee.double.read c = .number false 4503599627370496 d → 1 ≤ a ∧ a ≤ 2046 → fmul c ((if s then 9223372036854775808 else 0) + a.toNat * 4503599627370496 + F) = Ieee.double.word s (rungF (4503599627370496 + F) (d + (a - 1075) + 52)) := fun c d a hc ha => by
    obtain ⟨_, _, hr⟩ := read_made (s := s) (a := a.toNat) (F := F) (by omega) (by omega) hF
    rw [fmul_num hc hr, Bool.false_xor]
    have h1 := rungF_shift (4503599627370496 + F) 52 (d + ((a.toNat : Int) - 1075))
    have c52 : (2 : Nat) ^ 52 = 4503599627370496 := by decide
    rw [c52, Nat.mul_comm] at h1
    rw [h1]; congr 2; omega
  have hc1 : Ieee.double.read 4607182418800017408 = .number false 4503599627370496 (-52) := by decide
  have hc2 : Ieee.double.read 4368491638549381120 = .number false 4503599627370496 (-105) := by decide
  have hfl : flt y (cn 0) = s := by rw [show cn 0 = 0 from by decide, flt_0 hyK hyM, hys]
  have hcn : ∀ a : Int, 1 ≤ a ∧ a ≤ 2046 → cn ((if s then 9223372036854775808 else 0) + a.toNat * 4503599627370496 + F) = (if s then 9223372036854775808 else 0) + a.toNat * 4503599627370496 + F := fun a ha => (read_made (s := s) (a := a.toNat) (F := F) (by omega) (by omega) hF).2.1
  have hlt : ∀ a : Int, 1 ≤ a ∧ a ≤ 2046 → (if s then 9223372036854775808 else 0) + a.toNat * 4503599627370496 + F < 2 ^ 64 := fun a ha => (read_made (s := s) (a := a.toNat) (F := F) (by omega) (by omega) hF).1
  have hf0 : feq x (cn 0) = false := by rw [show cn 0 = 0 from by decide, feq_0 hx]; exact decide_eq_false h0
  have hfi := flt_max hx
  have hfn : (!feq x x) = false := by rw [feq_self hx]; rfl
  have hnc := fun H => norm_c H x hx y en hy hen
  clear hsh hy hen
  refine .mk (fun args w => Try.call142 args w) (Spec.intro' (fn := Try.f142) Try.func142 rfl (by kernel_rfl) (by simp) false [] (draw := drawX Try.prog ⟨false, _, []⟩) dOk ?_)
  simp only [argE, Nat.reduceAdd]
  repeat' (first
    | (refine gateE ?_; (first | refine b_c0 ?_ | refine b_nil ?_ | refine m13 ?_ | refine m12 ?_ | refine m11 ?_ | (refine m10 ?_; (first | refine g_TT ?_ | refine g_FF ?_ | refine g_TF ?_ | refine g_FT ?_ | refine g_PT ?_ ?_ | refine g_PF ?_ ?_ | refine g_BT ?_ ?_ | refine g_BF ?_ ?_ | fail)) | (refine m09 ?_; (first | refine g_TT ?_ | refine g_FF ?_ | refine g_TF ?_ | refine g_FT ?_ | refine g_PT ?_ ?_ | refine g_PF ?_ ?_ | refine g_BT ?_ ?_ | refine g_BF ?_ ?_ | fail)) | refine m38 ?_ | fail))
    | (refine gateO ?_; (first | refine m14 ?_ | (refine m45 ?_; (first | refine v_bF hf0 ?_ | refine v_bF hfi ?_ | refine v_bF hfn ?_ | refine v_eqI hand ?_ | refine v_eqI handn ?_ | refine v_shl52 (by omega) ?_ | refine v_eqI (hor _ (by omega)) ?_ | refine v_bbT (by exact rfl) ?_ | refine v_k ?_ | fail)) | (refine m00 ?_; (first | refine v_bF hf0 ?_ | refine v_bF hfi ?_ | refine v_bF hfn ?_ | refine v_eqI hand ?_ | refine v_eqI handn ?_ | refine v_shl52 (by omega) ?_ | refine v_eqI (hor _ (by omega)) ?_ | refine m52 ?_ | refine m53 ?_ | refine v_eP ?_ | refine m47 ?_ | refine m48 ?_ | refine m49 ?_ | refine m50 ?_ | refine v_shr (by omega) (by decide) (by (conv => {lhs; simp [IntKind.bits]}); done) ?_ | refine v_k ?_ | refine m51 ?_ | fail)) | (refine m22 ?_; (first | refine m26 ?_ | refine m27 ?_ | fail)) | refine m42 ?_ | refine b_assignI ?_ | refine b_assignN ?_ | refine m08 ?_ | refine b_callB ?_ | refine m23 ?_ | (refine m46 ?_; (first | refine v_bF hf0 ?_ | refine v_bF hfi ?_ | refine v_bF hfn ?_ | refine v_eqI hand ?_ | refine v_eqI handn ?_ | refine v_shl52 (by omega) ?_ | refine v_eqI (hor _ (by omega)) ?_ | refine m52 ?_ | refine m53 ?_ | refine v_eP ?_ | refine m47 ?_ | refine m48 ?_ | refine m49 ?_ | refine m50 ?_ | refine v_shr (by omega) (by decide) (by (conv => {lhs; simp [IntKind.bits]}); done) ?_ | refine v_k ?_ | refine m51 ?_ | fail)) | refine b_cnvF (by (conv => {lhs; whnf}); done) (by exact rfl) ?_ | refine b_cnvIF (by (conv => {lhs; whnf}); done) ?_ | fail))
    | (refine gateT ?_; (first | refine b_thn ?_ | refine b_thr ?_ | refine b_the ?_ | fail))
    | (refine gateX ?_; (first | refine b_seq ?_ | refine b_region ?_ | (refine m06 ?_; (first | refine c_T ?_ | refine c_F ?_ | refine c_P ?_ ?_ | refine c_B ?_ ?_ | fail)) | refine b_ret ?_ | refine b_skip ?_ | refine b_block ?_ | refine b_exit ?_ | fail))
    | refine m43 ?_
    | refine a_consI ?_
    | refine m21 ?_
    | refine a_nil ?_
    | (refine gateK ?_; (first | refine c_call (isinf_c _ x) (OldOk.app (by simp)) ?_ | refine c_call (isnan_c _ x) (OldOk.app (by simp)) ?_ | refine c_call (hnc _) (OldOk.app (by simp)) ?_ | refine c_call (bits_f _ y hyK) (OldOk.app (by simp)) ?_ | refine c_call (csign_c _ y hyK hy64) (OldOk.app (by simp)) ?_ | refine c_call (minf_1 _) (OldOk.app (by simp)) ?_ | refine c_call (minf_n _) (OldOk.app (by simp)) ?_ | refine c_call (frombits_c _ _ (by have := hlt (k + en + ((E : Int) - 1023) + 1023) (by omega); omega)) (OldOk.app (by simp)) ?_ | refine c_call (frombits_c _ _ (by have := hlt (k + en + ((E : Int) - 1023) + 53 + 1023) (by omega); omega)) (OldOk.app (by simp)) ?_ | fail))
    | (refine gateB ?_; (first | refine b_bln ?_ | refine b_blr ?_ | refine b_ble ?_ | refine m57 ?_ | fail))
    | (refine gateQ ?_; refine m05 ?_)
    | (refine gateR ?_; (first | refine m04 ?_ | refine m02 ?_ | refine m03 ?_ | refine rk_nil ?_ | fail))
    | intro _)
  all_goals first
    | (rw [hys, hsc, rung_low (by rw [log2_53 hF]; omega)]; refine rv_old rfl (by simp [mx, mxL, resOne, aOf, aOf1]) ?_; exact rfl)
    | (rw [Int.toNat_natCast, hcn _ (by omega)]; first | rw [hmul _ _ _ hc1 (by omega)] | rw [hmul _ _ _ hc2 (by omega)]
       rw [hsc]; refine rv_old rfl (by simp [mx, mxL, resOne, aOf, aOf1]) ?_; simp only [resOne, List.nil_append]; refine congrArg (fun t => AV.flt (Ieee.double.word s (rungF (4503599627370496 + F) t))) ?_; omega)
    | (rw [hsc, rung_high (by omega) (by omega)]; cases s <;> first | (refine rv_old rfl (by simp [mx, mxL, resOne, aOf, aOf1]) ?_; exact rfl) | (exfalso; simp_all; done))
    | (exfalso; simp_all; done)


theorem ldexp_c (H : List (List AV)) (x : Nat) (k : Int) (hk1 : -5000 ≤ k) (hk2 : k ≤ 5000) : CSpec Try.prog 142 [.flt x, .int .i64 k] H (.flt (scaleF x k)) H := by
  refine .mk (fun args w => Try.call142 args w) (Spec.can fun h64 hc => CSpec.spec (fun args w => Try.call142 args w) ?_)
  by_cases hx : pK x = 0
  · by_cases h0 : pM x = 0
    · rw [scale_zero hx h0 h64]
      exact ldexp_z H x (by rw [feq_0 hx]; exact decide_eq_true h0) k hk1 hk2
    · exact ldexp_n H x hx h0 h64 k hk1 hk2
  · rw [scaleF_inf hx]
    rcases inf_cases hx h64 hc with h | h | h <;> subst h
    · exact ldexp_i H _ (by decide) (.inl (by decide)) k hk1 hk2
    · exact ldexp_i H _ (by decide) (.inl (by decide)) k hk1 hk2
    · exact ldexp_i H _ (by decide) (.inr (by decide)) k hk1 hk2
set_option maxHeartbeats 4000000 in
theorem Ldexp_c (H : List (List AV)) (x : Nat) (k : Int) (hk1 : -5000 ≤ k) (hk2 : k ≤ 5000) :
    CSpec Try.prog 129 [.flt x, .int .i64 k] H (.flt (scaleF x k)) H := by
  refine .mk (fun args w => Try.call129 args w) (Spec.intro' (fn := Try.f129) Try.func129 rfl (by kernel_rfl) (by simp) false [] (draw := drawX Try.prog ⟨false, _, []⟩) dOk ?_)
  simp only [argE, Nat.reduceAdd]
  repeat' (first
    | (refine gateE ?_; (first | refine b_c0 ?_ | refine b_nil ?_ | fail))
    | (refine gateO ?_; (first | refine m14 ?_ | refine m42 ?_ | refine b_assignI ?_ | refine b_assignN ?_ | refine m08 ?_ | refine b_callB ?_ | fail))
    | (refine gateT ?_; (first | refine b_thn ?_ | refine b_thr ?_ | refine b_the ?_ | fail))
    | (refine gateX ?_; (first | refine b_seq ?_ | refine b_region ?_ | (refine m06 ?_; (first | refine c_T ?_ | refine c_F ?_ | refine c_P ?_ ?_ | refine c_B ?_ ?_ | fail)) | refine b_ret ?_ | refine b_skip ?_ | refine b_block ?_ | refine b_exit ?_ | fail))
    | refine m21 ?_
    | refine a_nil ?_
    | (refine gateK ?_; (first | refine c_call (ldexp_c _ x k hk1 hk2) (OldOk.app (by simp)) ?_ | fail))
    | (refine gateQ ?_; refine m05 ?_)
    | (refine gateR ?_; (first | refine m04 ?_ | refine m02 ?_ | refine m03 ?_ | refine rk_nil ?_ | fail))
    | intro _)
  all_goals first
    | (refine rv_old rfl (by simp [mx, mxL, resOne, aOf, aOf1]) ?_; exact rfl)
    | (exfalso; simp_all; done)

set_option maxHeartbeats 4000000 in
theorem scale_c (H : List (List AV)) (x : Nat) (k : Int) :
    CSpec Try.prog 112 [.flt x, .int .i64 k] H (.flt (scaleF x (clK k))) H := by
  refine .mk (fun args w => Try.call112 args w) (Spec.intro' (fn := Try.f112) Try.func112 rfl (by kernel_rfl) (by simp) false [] (draw := drawX Try.prog ⟨false, _, []⟩) dOk ?_)
  simp only [argE, Nat.reduceAdd]
  repeat' (first
    | (refine gateE ?_; (first | refine b_c0 ?_ | refine b_nil ?_ | fail))
    | (refine gateO ?_; (first | refine m14 ?_ | refine m42 ?_ | refine b_assignI ?_ | refine b_assignN ?_ | refine m08 ?_ | refine b_callB ?_ | refine b_max2 (by first | (conv => {lhs; whnf}; done) | exact (by exact rfl) | fail) (by first | (conv => {lhs; whnf}; done) | exact (by exact rfl) | fail) (by first | assumption | exact rfl) ?_ | refine b_min2 (by first | (conv => {lhs; whnf}; done) | exact (by exact rfl) | fail) (by first | (conv => {lhs; whnf}; done) | exact (by exact rfl) | fail) (by first | assumption | exact rfl) ?_ | fail))
    | (refine gateT ?_; (first | refine b_thn ?_ | refine b_thr ?_ | refine b_the ?_ | fail))
    | (refine gateX ?_; (first | refine b_seq ?_ | refine b_region ?_ | (refine m06 ?_; (first | refine c_T ?_ | refine c_F ?_ | refine c_P ?_ ?_ | refine c_B ?_ ?_ | fail)) | refine b_ret ?_ | refine b_skip ?_ | refine b_block ?_ | refine b_exit ?_ | fail))
    | refine m21 ?_
    | refine a_nil ?_
    | (refine gateK ?_; (first | refine c_call (Ldexp_c _ x (clK k) (by unfold clK; omega) (by unfold clK; omega)) (OldOk.app (by simp)) ?_ | fail))
    | (refine gateQ ?_; refine m05 ?_)
    | (refine gateR ?_; (first | refine m04 ?_ | refine m02 ?_ | refine m03 ?_ | refine rk_nil ?_ | fail))
    | intro _)
  all_goals first
    | (refine rv_old rfl (by simp [mx, mxL, resOne, aOf, aOf1]) ?_; exact rfl)
    | (exfalso; simp_all; done)

set_option maxHeartbeats 4000000 in
theorem two_c (H : List (List AV)) (k : Int) :
    CSpec Try.prog 97 [.int .i64 k] H (.flt (scaleF 4607182418800017408 (clK k))) H := by
  refine .mk (fun args w => Try.call97 args w) (Spec.intro' (fn := Try.f97) Try.func97 rfl (by kernel_rfl) (by simp) false [] (draw := drawX Try.prog ⟨false, _, []⟩) dOk ?_)
  simp only [argE, Nat.reduceAdd]
  repeat' (first
    | (refine gateE ?_; (first | refine b_c0 ?_ | refine b_nil ?_ | fail))
    | (refine gateO ?_; (first | refine m14 ?_ | refine m42 ?_ | refine b_assignI ?_ | refine b_assignN ?_ | refine m08 ?_ | refine b_callB ?_ | fail))
    | (refine gateT ?_; (first | refine b_thn ?_ | refine b_thr ?_ | refine b_the ?_ | fail))
    | (refine gateX ?_; (first | refine b_seq ?_ | refine b_region ?_ | (refine m06 ?_; (first | refine c_T ?_ | refine c_F ?_ | refine c_P ?_ ?_ | refine c_B ?_ ?_ | fail)) | refine b_ret ?_ | refine b_skip ?_ | refine b_block ?_ | refine b_exit ?_ | fail))
    | refine m43 ?_
    | refine a_consI ?_
    | refine m21 ?_
    | refine a_nil ?_
    | (refine gateK ?_; (first | refine c_call (scale_c _ 4607182418800017408 k) (OldOk.app (by simp)) ?_ | fail))
    | (refine gateQ ?_; refine m05 ?_)
    | (refine gateR ?_; (first | refine m04 ?_ | refine m02 ?_ | refine m03 ?_ | refine rk_nil ?_ | fail))
    | intro _)
  all_goals first
    | (refine rv_old rfl (by simp [mx, mxL, resOne, aOf, aOf1]) ?_; exact rfl)
    | (exfalso; simp_all; done)


theorem word_fr {n₀ : Nat} {H : List (List AV)} {s : Bool} {k : Nat} (hk : k ≤ 9218868437227405312) {v : Nat} (hv : v = Ieee.double.word s k) : Fr n₀ [] H (.fraw v) (.flt (Ieee.double.word s k)) := by
  have hh := Fr.raw (n₀ := n₀) (keep := []) (H := H) v
  rw [hv, word_cn hk] at hh
  rw [hv]; exact hh
set_option maxHeartbeats 4000000 in
theorem make_z (H : List (List AV)) (neg : Bool) (m : Nat) (hm : m < 4611686018427387904) (e : Int) (he : -100000 ≤ e ∧ e ≤ 100000) (h0 : m = 0 ∨ e < -1200) :
    CSpec Try.prog 89 [.bool neg, .int .u64 (m : Int), .int .i64 e] H (.flt (Ieee.double.word neg (rungF m e))) H := by
  have hz : rungF m e = 0 := by
    rcases h0 with h | h
    · subst h; unfold rungF; rw [if_pos rfl]
    · have := log2_62 (m := m) (by omega); exact rung_low (by omega)
  refine .mk (fun args w => Try.call89 args w) (Spec.intro' (fn := Try.f89) Try.func89 rfl (by kernel_rfl) (by simp) false [] (draw := drawX Try.prog ⟨false, _, []⟩) dOk ?_)
  simp only [argE, Nat.reduceAdd]
  repeat' (first
    | (refine gateE ?_; (first | refine b_c0 ?_ | refine b_nil ?_ | refine m13 ?_ | refine m12 ?_ | refine m11 ?_ | (refine m10 ?_; (first | refine g_TT ?_ | refine g_FF ?_ | refine g_TF ?_ | refine g_FT ?_ | refine g_PT ?_ ?_ | refine g_PF ?_ ?_ | refine g_BT ?_ ?_ | refine g_BF ?_ ?_ | fail)) | (refine m09 ?_; (first | refine g_TT ?_ | refine g_FF ?_ | refine g_TF ?_ | refine g_FT ?_ | refine g_PT ?_ ?_ | refine g_PF ?_ ?_ | refine g_BT ?_ ?_ | refine g_BF ?_ ?_ | fail)) | refine m38 ?_ | fail))
    | (refine gateO ?_; (first | refine m14 ?_ | (refine m45 ?_; (first | refine v_bbT (by exact rfl) ?_ | refine v_k ?_ | fail)) | (refine m00 ?_; (first | refine m52 ?_ | refine m53 ?_ | refine v_eP ?_ | refine m47 ?_ | refine m48 ?_ | refine m49 ?_ | refine m50 ?_ | refine v_mod (by omega) (by omega) ?_ | refine v_qc (by omega) (by omega) ?_ | refine v_k ?_ | refine m51 ?_ | fail)) | (refine m22 ?_; (first | refine m26 ?_ | refine m27 ?_ | fail)) | refine m42 ?_ | refine b_assignI ?_ | refine b_assignN ?_ | refine m08 ?_ | refine b_callB ?_ | (refine m46 ?_; (first | refine m52 ?_ | refine m53 ?_ | refine v_eP ?_ | refine m47 ?_ | refine m48 ?_ | refine m49 ?_ | refine m50 ?_ | refine v_mod (by omega) (by omega) ?_ | refine v_qc (by omega) (by omega) ?_ | refine v_k ?_ | refine m51 ?_ | fail)) | refine b_cnvF (by (conv => {lhs; whnf}); done) (by exact rfl) ?_ | refine b_cnvIF (by (conv => {lhs; whnf}); done) ?_ | fail))
    | (refine gateT ?_; (first | refine b_thn ?_ | refine b_thr ?_ | refine b_the ?_ | fail))
    | (refine gateX ?_; (first | refine b_seq ?_ | refine b_region ?_ | (refine m06 ?_; (first | refine c_T ?_ | refine c_F ?_ | refine c_P ?_ ?_ | refine c_B ?_ ?_ | fail)) | refine b_ret ?_ | refine b_skip ?_ | refine b_block ?_ | refine b_exit ?_ | fail))
    | refine m21 ?_
    | refine a_nil ?_
    | (refine gateK ?_; (first | refine c_call (frombits_c _ _ (by omega)) (OldOk.app (by simp)) ?_ | fail))
    | (refine gateB ?_; (first | refine b_bln ?_ | refine b_blr ?_ | refine b_ble ?_ | refine m57 ?_ | fail))
    | (refine gateL ?_; (first | refine lp_n ?_ | refine lp_r ?_ | refine lp_e ?_ | fail))
    | (refine pr_k (by exact rfl) ?_; first | exact hK | (exfalso; first | omega | (simp_all; done) | (simp_all; omega)))
    | (refine gateQ ?_; refine m05 ?_)
    | (refine gateR ?_; (first | refine m04 ?_ | refine m02 ?_ | refine m03 ?_ | refine rk_nil ?_ | fail))
    | intro _)
  all_goals first
    | (rw [hz]; refine rv_fr rfl (word_fr (by omega) ?_); unfold Ieee.Format.word; rw [e_sw]; simp_all; done)
    | (exfalso; simp_all; done)
    | (exfalso; omega)

set_option maxHeartbeats 4000000 in
theorem make_i (H : List (List AV)) (neg : Bool) (m : Nat) (hm : m < 4611686018427387904) (e : Int) (he : -100000 ≤ e ∧ e ≤ 100000) (h0 : 1 ≤ m) (h1 : 2000 < e) :
    CSpec Try.prog 89 [.bool neg, .int .u64 (m : Int), .int .i64 e] H (.flt (Ieee.double.word neg (rungF m e))) H := by
  refine .mk (fun args w => Try.call89 args w) (Spec.intro' (fn := Try.f89) Try.func89 rfl (by kernel_rfl) (by simp) false [] (draw := drawX Try.prog ⟨false, _, []⟩) dOk ?_)
  simp only [argE, Nat.reduceAdd]
  repeat' (first
    | (refine gateE ?_; (first | refine b_c0 ?_ | refine b_nil ?_ | refine m13 ?_ | refine m12 ?_ | refine m11 ?_ | (refine m10 ?_; (first | refine g_TT ?_ | refine g_FF ?_ | refine g_TF ?_ | refine g_FT ?_ | refine g_PT ?_ ?_ | refine g_PF ?_ ?_ | refine g_BT ?_ ?_ | refine g_BF ?_ ?_ | fail)) | (refine m09 ?_; (first | refine g_TT ?_ | refine g_FF ?_ | refine g_TF ?_ | refine g_FT ?_ | refine g_PT ?_ ?_ | refine g_PF ?_ ?_ | refine g_BT ?_ ?_ | refine g_BF ?_ ?_ | fail)) | refine m38 ?_ | fail))
    | (refine gateO ?_; (first | refine m14 ?_ | (refine m45 ?_; (first | refine v_bbT (by exact rfl) ?_ | refine v_k ?_ | fail)) | (refine m00 ?_; (first | refine m52 ?_ | refine m53 ?_ | refine v_eP ?_ | refine m47 ?_ | refine m48 ?_ | refine m49 ?_ | refine m50 ?_ | refine v_mod (by omega) (by omega) ?_ | refine v_qc (by omega) (by omega) ?_ | refine v_k ?_ | refine m51 ?_ | fail)) | (refine m22 ?_; (first | refine m26 ?_ | refine m27 ?_ | fail)) | refine m42 ?_ | refine b_assignI ?_ | refine b_assignN ?_ | refine m08 ?_ | refine b_callB ?_ | (refine m46 ?_; (first | refine m52 ?_ | refine m53 ?_ | refine v_eP ?_ | refine m47 ?_ | refine m48 ?_ | refine m49 ?_ | refine m50 ?_ | refine v_mod (by omega) (by omega) ?_ | refine v_qc (by omega) (by omega) ?_ | refine v_k ?_ | refine m51 ?_ | fail)) | refine b_cnvF (by (conv => {lhs; whnf}); done) (by exact rfl) ?_ | refine b_cnvIF (by (conv => {lhs; whnf}); done) ?_ | fail))
    | (refine gateT ?_; (first | refine b_thn ?_ | refine b_thr ?_ | refine b_the ?_ | fail))
    | (refine gateX ?_; (first | refine b_seq ?_ | refine b_region ?_ | (refine m06 ?_; (first | refine c_T ?_ | refine c_F ?_ | refine c_P ?_ ?_ | refine c_B ?_ ?_ | fail)) | refine b_ret ?_ | refine b_skip ?_ | refine b_block ?_ | refine b_exit ?_ | fail))
    | refine m21 ?_
    | refine a_nil ?_
    | (refine gateK ?_; (first | refine c_call (frombits_c _ _ (by omega)) (OldOk.app (by simp)) ?_ | fail))
    | (refine gateB ?_; (first | refine b_bln ?_ | refine b_blr ?_ | refine b_ble ?_ | refine m57 ?_ | fail))
    | (refine gateL ?_; (first | refine lp_n ?_ | refine lp_r ?_ | refine lp_e ?_ | fail))
    | (refine pr_k (by exact rfl) ?_; first | exact hK | (exfalso; first | omega | (simp_all; done) | (simp_all; omega)))
    | (refine gateQ ?_; refine m05 ?_)
    | (refine gateR ?_; (first | refine m04 ?_ | refine m02 ?_ | refine m03 ?_ | refine rk_nil ?_ | fail))
    | intro _)
  all_goals first
    | (rw [rung_far h0 (by omega)]; refine rv_fr rfl (word_fr (by omega) ?_); unfold Ieee.Format.word; rw [e_sw]; simp_all; done)
    | (exfalso; simp_all; done)
    | (exfalso; omega)


end Go.Sx

set_option linter.unusedVariables false
set_option linter.unusedSimpArgs false
set_option maxRecDepth 20000
namespace Go.Sx
open Go.Proofs

theorem v_toU {e : List (Nat × EV)} {L : List (Nat × List AV)} {H : List (List AV)} {K : St → Prop} {dd : Nat} {n m : Int} (h : n = m) (hw : 0 ≤ m ∧ m ≤ 18446744073709551615) (hk : K ⟨(dd, .val (.int .u64 m)) :: e, L, H⟩) : valK dd K ⟨e, L, H⟩ (some (True, .int .u64 (IntKind.u64.wrap n))) := by
  subst h; exact v_wu hw hk
theorem v_hfb {e : List (Nat × EV)} {L : List (Nat × List AV)} {H : List (List AV)} {K : St → Prop} {dd : Nat} {q : Nat} {b : Bool} (hb : b = decide (q % 2 = 1)) (hk : K ⟨(dd, .val (.bool b)) :: e, L, H⟩) : valK dd K ⟨e, L, H⟩ (some (True, .bool (((q : Nat) : Int) % 2 == 1))) := by
  have : (((q : Nat) : Int) % 2 == 1) = b := by
    rw [hb, Bool.eq_iff_iff, beq_iff_eq, decide_eq_true_eq]; omega
  rw [this]; exact v_k hk
theorem v_sp {e : List (Nat × EV)} {L : List (Nat × List AV)} {H : List (List AV)} {K : St → Prop} {dd : Nat} {p : Prop} [Decidable p] (h1 : p → K ⟨(dd, .val (.bool true)) :: e, L, H⟩) (h2 : ¬ p → K ⟨(dd, .val (.bool false)) :: e, L, H⟩) : valK dd K ⟨e, L, H⟩ (some (True, .bool (decide p))) := by
  by_cases h : p
  · exact v_T h (h1 h)
  · exact v_F h (h2 h)
theorem v_quU {e : List (Nat × EV)} {L : List (Nat × List AV)} {H : List (List AV)} {K : St → Prop} {dd : Nat} {x q : Int} (h0 : 0 ≤ x ∧ x ≤ 18446744073709551615) (hq : x / 2 = q) (hk : K ⟨(dd, .val (.int .u64 q)) :: e, L, H⟩) : valK dd K ⟨e, L, H⟩ (some ((2 : Int) ≠ 0, .int .u64 (IntKind.u64.wrap (x.tdiv 2)))) := by
  subst hq
  rw [Int.tdiv_eq_ediv_of_nonneg h0.1]
  exact v_c (by decide) (v_wu (by omega) hk)
attribute [local irreducible] Ex exOps exD opX opE thenX blkX RetQ Spec CSpec Fr condK guardK guardD ckK valK pickK loadK faK callK argK gK fK rK RetV lpX prK
set_option maxHeartbeats 4000000 in
theorem make_t (H : List (List AV)) (m : Nat) (hm : m < 4611686018427387904) (e : Int) (h0 : 1 ≤ m) (he : -1200 ≤ e ∧ e ≤ 2000) :
    CSpec Try.prog 89 [.bool true, .int .u64 (m : Int), .int .i64 e] H (.flt (Ieee.double.word true (rungF m e))) H := by
  obtain ⟨N1, N2, P, Q, hb, lb, hN1, hN2, hP0, hP, h1, h1', hQ0, hQs, hQ62, h2, h3, h4, hb0, lb0, hbs, lbs, hk, hlow⟩ := mk_all h0 hm he
  have hQN := hQ62 N2
  have h1a : ∀ k : Nat, k < N1 → (P k : Int) < 4503599627370496 := fun k hk => by have := (h1 k hk).1; omega
  have hkT : Unit → hb N2 = true → (lb N2 = true ∨ Q N2 % 2 = 1) → rungF m e = min ((e - N1 + N2 + 1074).toNat * 4503599627370496 + (Q N2 + 1)) 9218868437227405312 := fun _ a b => by rw [hk, if_pos ⟨a, b⟩]
  have hkF : Unit → ¬ (hb N2 = true ∧ (lb N2 = true ∨ Q N2 % 2 = 1)) → rungF m e = min ((e - N1 + N2 + 1074).toNat * 4503599627370496 + Q N2) 9218868437227405312 := fun _ a => by rw [hk, if_neg a, Nat.add_zero]
  have hlw : Unit → Q N2 < 4503599627370496 → e - N1 + N2 = -1074 := fun _ => hlow
  have hE2 : e - (N1 : Int) + (N2 : Int) ≤ 2400 := by omega
  clear hk hlow
  refine .mk (fun args w => Try.call89 args w) (Spec.intro' (fn := Try.f89) Try.func89 rfl (by kernel_rfl) (by simp) false [] (draw := drawX Try.prog ⟨false, _, []⟩) dOk ?_)
  simp only [argE, Nat.reduceAdd]
  repeat' (first
    | (refine gateE ?_; (first | refine b_c0 ?_ | refine b_nil ?_ | refine m13 ?_ | refine m12 ?_ | refine m11 ?_ | (refine m10 ?_; (first | refine g_TT ?_ | refine g_FF ?_ | refine g_TF ?_ | refine g_FT ?_ | refine g_PT ?_ ?_ | refine g_PF ?_ ?_ | refine g_BT ?_ ?_ | refine g_BF ?_ ?_ | fail)) | (refine m09 ?_; (first | refine g_TT ?_ | refine g_FF ?_ | refine g_TF ?_ | refine g_FT ?_ | refine g_PT ?_ ?_ | refine g_PF ?_ ?_ | refine g_BT ?_ ?_ | refine g_BF ?_ ?_ | fail)) | refine m38 ?_ | fail))
    | (refine gateO ?_; (first | refine m14 ?_ | (refine m45 ?_; (first | refine v_T (by have h9 := (h1 k hk').2; omega) ?_ | refine v_T (by have h9 := (h1 k hk').1; omega) ?_ | with_reducible refine v_toU (m := (P (k + 1) : Int)) (by rw [hP]; omega) (by have := (h1 k hk').1; rw [hP]; omega) ?_ | refine v_to (e - ((k + 1 : Nat) : Int)) (by omega) (by omega) ?_ | with_reducible refine v_hfb (b := hb (t + 1)) (by exact hbs t) ?_ | with_reducible refine v_quU (q := (Q (t + 1) : Int)) (by have := hQ62 t; omega) (by rw [hQs]; omega) ?_ | with_reducible refine v_quU (by omega) (by exact rfl) ?_ | refine v_to (e - (N1 : Int) + ((t + 1 : Nat) : Int)) (by omega) (by omega) ?_ | with_reducible refine v_shl52 (by omega) ?_ | refine v_T (by have h9 := h2 t ht; omega) ?_ | refine m47 ?_ | refine m48 ?_ | with_reducible refine v_sp ?_ ?_ | refine v_bbT (by exact rfl) ?_ | refine v_k ?_ | fail)) | (refine m00 ?_; (first | refine v_T (by have h9 := (h1 k hk').2; omega) ?_ | refine v_T (by have h9 := (h1 k hk').1; omega) ?_ | with_reducible refine v_toU (m := (P (k + 1) : Int)) (by rw [hP]; omega) (by have := (h1 k hk').1; rw [hP]; omega) ?_ | refine v_to (e - ((k + 1 : Nat) : Int)) (by omega) (by omega) ?_ | with_reducible refine v_hfb (b := hb (t + 1)) (by exact hbs t) ?_ | with_reducible refine v_quU (q := (Q (t + 1) : Int)) (by have := hQ62 t; omega) (by rw [hQs]; omega) ?_ | with_reducible refine v_quU (by omega) (by exact rfl) ?_ | refine v_to (e - (N1 : Int) + ((t + 1 : Nat) : Int)) (by omega) (by omega) ?_ | with_reducible refine v_shl52 (by omega) ?_ | refine v_T (by have h9 := h2 t ht; omega) ?_ | refine m47 ?_ | refine m48 ?_ | with_reducible refine v_sp ?_ ?_ | refine m52 ?_ | refine m53 ?_ | refine v_eP ?_ | refine m47 ?_ | refine m48 ?_ | refine m49 ?_ | refine m50 ?_ | refine v_mod (by omega) (by omega) ?_ | refine v_qc (by omega) (by omega) ?_ | refine v_k ?_ | refine m51 ?_ | fail)) | (refine m22 ?_; (first | refine m26 ?_ | refine m27 ?_ | fail)) | refine m42 ?_ | refine b_assignI ?_ | refine b_assignN ?_ | refine m08 ?_ | refine b_callB ?_ | (refine m46 ?_; (first | refine v_T (by have h9 := (h1 k hk').2; omega) ?_ | refine v_T (by have h9 := (h1 k hk').1; omega) ?_ | with_reducible refine v_toU (m := (P (k + 1) : Int)) (by rw [hP]; omega) (by have := (h1 k hk').1; rw [hP]; omega) ?_ | refine v_to (e - ((k + 1 : Nat) : Int)) (by omega) (by omega) ?_ | with_reducible refine v_hfb (b := hb (t + 1)) (by exact hbs t) ?_ | with_reducible refine v_quU (q := (Q (t + 1) : Int)) (by have := hQ62 t; omega) (by rw [hQs]; omega) ?_ | with_reducible refine v_quU (by omega) (by exact rfl) ?_ | refine v_to (e - (N1 : Int) + ((t + 1 : Nat) : Int)) (by omega) (by omega) ?_ | with_reducible refine v_shl52 (by omega) ?_ | refine v_T (by have h9 := h2 t ht; omega) ?_ | refine m47 ?_ | refine m48 ?_ | with_reducible refine v_sp ?_ ?_ | refine m52 ?_ | refine m53 ?_ | refine v_eP ?_ | refine m47 ?_ | refine m48 ?_ | refine m49 ?_ | refine m50 ?_ | refine v_mod (by omega) (by omega) ?_ | refine v_qc (by omega) (by omega) ?_ | refine v_k ?_ | refine m51 ?_ | fail)) | refine b_cnvF (by (conv => {lhs; whnf}); done) (by exact rfl) ?_ | refine b_cnvIF (by (conv => {lhs; whnf}); done) ?_ | fail))
    | (refine gateT ?_; (first | refine b_thn ?_ | refine b_thr ?_ | refine b_the ?_ | fail))
    | (refine gateX ?_; (first | refine b_seq ?_ | refine b_region ?_ | (refine m06 ?_; (first | refine c_T ?_ | refine c_F ?_ | refine c_P ?_ ?_ | refine c_B ?_ ?_ | fail)) | refine b_ret ?_ | refine b_skip ?_ | refine b_block ?_ | refine b_exit ?_ | (refine b_loop [1, 2, 7, 8, 9] N2 (fun t => ⟨[(1, .val (.int .u64 (Q t : Int))), (2, .val (.int .i64 (e - (N1 : Int) + (t : Int)))), (7, .val (.int .u64 9223372036854775808)), (8, .val (.bool (lb t))), (9, .val (.bool (hb t)))], [], H ++ []⟩) (by simp only [hQ0, hb0, lb0, Int.natCast_zero, Int.add_zero]; exact rfl) ?_ ?_ <;> (first | intro t ht K hK | intro K) <;> (try dsimp only at *)) | (refine b_loop [1, 2, 7] N1 (fun k => ⟨[(1, .val (.int .u64 (P k : Int))), (2, .val (.int .i64 (e - (k : Int)))), (7, .val (.int .u64 9223372036854775808))], [], H ++ []⟩) (by simp only [hP0, Int.natCast_zero, Int.sub_zero]; exact rfl) ?_ ?_ <;> (first | intro k hk' K hK | intro K) <;> (try dsimp only at *)) | fail))
    | refine m21 ?_
    | refine a_nil ?_
    | (refine gateK ?_; (first | refine c_call (frombits_c _ _ (by omega)) (OldOk.app (by simp)) ?_ | fail))
    | (refine gateB ?_; (first | refine b_bln ?_ | refine b_blr ?_ | refine b_ble ?_ | refine m57 ?_ | fail))
    | (refine gateL ?_; (first | refine lp_n ?_ | refine lp_r ?_ | refine lp_e ?_ | fail))
    | (refine pr_k (by exact rfl) ?_; first | exact hK | (simp only [lbs, *, Bool.true_or, Bool.false_or] at hK ⊢; exact hK) | (exfalso; have := h2 t ht; omega) | (exfalso; first | omega | (simp_all; done) | (simp_all; omega)))
    | (refine gateQ ?_; refine m05 ?_)
    | (refine gateR ?_; (first | refine m04 ?_ | refine m02 ?_ | refine m03 ?_ | refine rk_nil ?_ | fail))
    | intro _)
  all_goals first
    | (exfalso; omega)
    | (rw [hkT () (by assumption) (by first | (left; assumption) | (right; omega))]; refine rv_fr rfl (word_fr (Nat.min_le_right _ _) ?_); unfold Ieee.Format.word; rw [e_sw]; simp only [if_true, Bool.false_eq_true, if_false]; have hlow := hlw (); (first | have hE8 : e - (N1 : Int) + (N2 : Int) + 1 + 1075 < 2047 := (by omega) | have hE8 : e - (N1 : Int) + (N2 : Int) + 1075 < 2047 := (by omega) | skip); clear hkT hkF h1 h1' h2 hP hQs hQ62 hbs lbs h1a hlw hQ0 hP0 hQN hb0 lb0 he hN1 hN2 h0 hm; generalize e - (N1 : Int) + (N2 : Int) = E2 at *; generalize Q N2 = q at *; obtain ⟨z, rfl⟩ : ∃ z : Nat, E2 = (z : Int) - 1074 := ⟨(E2 + 1074).toNat, by omega⟩; rw [show ((z : Int) - 1074 + 1074).toNat = z by omega]; by_cases hq : q < 4503599627370496 <;> (first | have hlow := hlow hq | skip) <;> omega)
    | (rw [hkF () (by rintro ⟨h8, h9⟩; first | (rw [show hb N2 = false by assumption] at h8; cases h8) | (rcases h9 with h9 | h9; (rw [show lb N2 = false by assumption] at h9; cases h9); omega))]; refine rv_fr rfl (word_fr (Nat.min_le_right _ _) ?_); unfold Ieee.Format.word; rw [e_sw]; simp only [if_true, Bool.false_eq_true, if_false]; have hlow := hlw (); (first | have hE8 : e - (N1 : Int) + (N2 : Int) + 1 + 1075 < 2047 := (by omega) | have hE8 : e - (N1 : Int) + (N2 : Int) + 1075 < 2047 := (by omega) | skip); clear hkT hkF h1 h1' h2 hP hQs hQ62 hbs lbs h1a hlw hQ0 hP0 hQN hb0 lb0 he hN1 hN2 h0 hm; generalize e - (N1 : Int) + (N2 : Int) = E2 at *; generalize Q N2 = q at *; obtain ⟨z, rfl⟩ : ∃ z : Nat, E2 = (z : Int) - 1074 := ⟨(E2 + 1074).toNat, by omega⟩; rw [show ((z : Int) - 1074 + 1074).toNat = z by omega]; by_cases hq : q < 4503599627370496 <;> (first | have hlow := hlow hq | skip) <;> omega)

set_option maxHeartbeats 4000000 in
theorem make_f (H : List (List AV)) (m : Nat) (hm : m < 4611686018427387904) (e : Int) (h0 : 1 ≤ m) (he : -1200 ≤ e ∧ e ≤ 2000) :
    CSpec Try.prog 89 [.bool false, .int .u64 (m : Int), .int .i64 e] H (.flt (Ieee.double.word false (rungF m e))) H := by
  obtain ⟨N1, N2, P, Q, hb, lb, hN1, hN2, hP0, hP, h1, h1', hQ0, hQs, hQ62, h2, h3, h4, hb0, lb0, hbs, lbs, hk, hlow⟩ := mk_all h0 hm he
  have hQN := hQ62 N2
  have h1a : ∀ k : Nat, k < N1 → (P k : Int) < 4503599627370496 := fun k hk => by have := (h1 k hk).1; omega
  have hkT : Unit → hb N2 = true → (lb N2 = true ∨ Q N2 % 2 = 1) → rungF m e = min ((e - N1 + N2 + 1074).toNat * 4503599627370496 + (Q N2 + 1)) 9218868437227405312 := fun _ a b => by rw [hk, if_pos ⟨a, b⟩]
  have hkF : Unit → ¬ (hb N2 = true ∧ (lb N2 = true ∨ Q N2 % 2 = 1)) → rungF m e = min ((e - N1 + N2 + 1074).toNat * 4503599627370496 + Q N2) 9218868437227405312 := fun _ a => by rw [hk, if_neg a, Nat.add_zero]
  have hlw : Unit → Q N2 < 4503599627370496 → e - N1 + N2 = -1074 := fun _ => hlow
  have hE2 : e - (N1 : Int) + (N2 : Int) ≤ 2400 := by omega
  clear hk hlow
  refine .mk (fun args w => Try.call89 args w) (Spec.intro' (fn := Try.f89) Try.func89 rfl (by kernel_rfl) (by simp) false [] (draw := drawX Try.prog ⟨false, _, []⟩) dOk ?_)
  simp only [argE, Nat.reduceAdd]
  repeat' (first
    | (refine gateE ?_; (first | refine b_c0 ?_ | refine b_nil ?_ | refine m13 ?_ | refine m12 ?_ | refine m11 ?_ | (refine m10 ?_; (first | refine g_TT ?_ | refine g_FF ?_ | refine g_TF ?_ | refine g_FT ?_ | refine g_PT ?_ ?_ | refine g_PF ?_ ?_ | refine g_BT ?_ ?_ | refine g_BF ?_ ?_ | fail)) | (refine m09 ?_; (first | refine g_TT ?_ | refine g_FF ?_ | refine g_TF ?_ | refine g_FT ?_ | refine g_PT ?_ ?_ | refine g_PF ?_ ?_ | refine g_BT ?_ ?_ | refine g_BF ?_ ?_ | fail)) | refine m38 ?_ | fail))
    | (refine gateO ?_; (first | refine m14 ?_ | (refine m45 ?_; (first | refine v_T (by have h9 := (h1 k hk').2; omega) ?_ | refine v_T (by have h9 := (h1 k hk').1; omega) ?_ | with_reducible refine v_toU (m := (P (k + 1) : Int)) (by rw [hP]; omega) (by have := (h1 k hk').1; rw [hP]; omega) ?_ | refine v_to (e - ((k + 1 : Nat) : Int)) (by omega) (by omega) ?_ | with_reducible refine v_hfb (b := hb (t + 1)) (by exact hbs t) ?_ | with_reducible refine v_quU (q := (Q (t + 1) : Int)) (by have := hQ62 t; omega) (by rw [hQs]; omega) ?_ | with_reducible refine v_quU (by omega) (by exact rfl) ?_ | refine v_to (e - (N1 : Int) + ((t + 1 : Nat) : Int)) (by omega) (by omega) ?_ | with_reducible refine v_shl52 (by omega) ?_ | refine v_T (by have h9 := h2 t ht; omega) ?_ | refine m47 ?_ | refine m48 ?_ | with_reducible refine v_sp ?_ ?_ | refine v_bbT (by exact rfl) ?_ | refine v_k ?_ | fail)) | (refine m00 ?_; (first | refine v_T (by have h9 := (h1 k hk').2; omega) ?_ | refine v_T (by have h9 := (h1 k hk').1; omega) ?_ | with_reducible refine v_toU (m := (P (k + 1) : Int)) (by rw [hP]; omega) (by have := (h1 k hk').1; rw [hP]; omega) ?_ | refine v_to (e - ((k + 1 : Nat) : Int)) (by omega) (by omega) ?_ | with_reducible refine v_hfb (b := hb (t + 1)) (by exact hbs t) ?_ | with_reducible refine v_quU (q := (Q (t + 1) : Int)) (by have := hQ62 t; omega) (by rw [hQs]; omega) ?_ | with_reducible refine v_quU (by omega) (by exact rfl) ?_ | refine v_to (e - (N1 : Int) + ((t + 1 : Nat) : Int)) (by omega) (by omega) ?_ | with_reducible refine v_shl52 (by omega) ?_ | refine v_T (by have h9 := h2 t ht; omega) ?_ | refine m47 ?_ | refine m48 ?_ | with_reducible refine v_sp ?_ ?_ | refine m52 ?_ | refine m53 ?_ | refine v_eP ?_ | refine m47 ?_ | refine m48 ?_ | refine m49 ?_ | refine m50 ?_ | refine v_mod (by omega) (by omega) ?_ | refine v_qc (by omega) (by omega) ?_ | refine v_k ?_ | refine m51 ?_ | fail)) | (refine m22 ?_; (first | refine m26 ?_ | refine m27 ?_ | fail)) | refine m42 ?_ | refine b_assignI ?_ | refine b_assignN ?_ | refine m08 ?_ | refine b_callB ?_ | (refine m46 ?_; (first | refine v_T (by have h9 := (h1 k hk').2; omega) ?_ | refine v_T (by have h9 := (h1 k hk').1; omega) ?_ | with_reducible refine v_toU (m := (P (k + 1) : Int)) (by rw [hP]; omega) (by have := (h1 k hk').1; rw [hP]; omega) ?_ | refine v_to (e - ((k + 1 : Nat) : Int)) (by omega) (by omega) ?_ | with_reducible refine v_hfb (b := hb (t + 1)) (by exact hbs t) ?_ | with_reducible refine v_quU (q := (Q (t + 1) : Int)) (by have := hQ62 t; omega) (by rw [hQs]; omega) ?_ | with_reducible refine v_quU (by omega) (by exact rfl) ?_ | refine v_to (e - (N1 : Int) + ((t + 1 : Nat) : Int)) (by omega) (by omega) ?_ | with_reducible refine v_shl52 (by omega) ?_ | refine v_T (by have h9 := h2 t ht; omega) ?_ | refine m47 ?_ | refine m48 ?_ | with_reducible refine v_sp ?_ ?_ | refine m52 ?_ | refine m53 ?_ | refine v_eP ?_ | refine m47 ?_ | refine m48 ?_ | refine m49 ?_ | refine m50 ?_ | refine v_mod (by omega) (by omega) ?_ | refine v_qc (by omega) (by omega) ?_ | refine v_k ?_ | refine m51 ?_ | fail)) | refine b_cnvF (by (conv => {lhs; whnf}); done) (by exact rfl) ?_ | refine b_cnvIF (by (conv => {lhs; whnf}); done) ?_ | fail))
    | (refine gateT ?_; (first | refine b_thn ?_ | refine b_thr ?_ | refine b_the ?_ | fail))
    | (refine gateX ?_; (first | refine b_seq ?_ | refine b_region ?_ | (refine m06 ?_; (first | refine c_T ?_ | refine c_F ?_ | refine c_P ?_ ?_ | refine c_B ?_ ?_ | fail)) | refine b_ret ?_ | refine b_skip ?_ | refine b_block ?_ | refine b_exit ?_ | (refine b_loop [1, 2, 7, 8, 9] N2 (fun t => ⟨[(1, .val (.int .u64 (Q t : Int))), (2, .val (.int .i64 (e - (N1 : Int) + (t : Int)))), (7, .val (.int .u64 0)), (8, .val (.bool (lb t))), (9, .val (.bool (hb t)))], [], H ++ []⟩) (by simp only [hQ0, hb0, lb0, Int.natCast_zero, Int.add_zero]; exact rfl) ?_ ?_ <;> (first | intro t ht K hK | intro K) <;> (try dsimp only at *)) | (refine b_loop [1, 2, 7] N1 (fun k => ⟨[(1, .val (.int .u64 (P k : Int))), (2, .val (.int .i64 (e - (k : Int)))), (7, .val (.int .u64 0))], [], H ++ []⟩) (by simp only [hP0, Int.natCast_zero, Int.sub_zero]; exact rfl) ?_ ?_ <;> (first | intro k hk' K hK | intro K) <;> (try dsimp only at *)) | fail))
    | refine m21 ?_
    | refine a_nil ?_
    | (refine gateK ?_; (first | refine c_call (frombits_c _ _ (by omega)) (OldOk.app (by simp)) ?_ | fail))
    | (refine gateB ?_; (first | refine b_bln ?_ | refine b_blr ?_ | refine b_ble ?_ | refine m57 ?_ | fail))
    | (refine gateL ?_; (first | refine lp_n ?_ | refine lp_r ?_ | refine lp_e ?_ | fail))
    | (refine pr_k (by exact rfl) ?_; first | exact hK | (simp only [lbs, *, Bool.true_or, Bool.false_or] at hK ⊢; exact hK) | (exfalso; have := h2 t ht; omega) | (exfalso; first | omega | (simp_all; done) | (simp_all; omega)))
    | (refine gateQ ?_; refine m05 ?_)
    | (refine gateR ?_; (first | refine m04 ?_ | refine m02 ?_ | refine m03 ?_ | refine rk_nil ?_ | fail))
    | intro _)
  all_goals first
    | (exfalso; omega)
    | (rw [hkT () (by assumption) (by first | (left; assumption) | (right; omega))]; refine rv_fr rfl (word_fr (Nat.min_le_right _ _) ?_); unfold Ieee.Format.word; rw [e_sw]; simp only [if_true, Bool.false_eq_true, if_false]; have hlow := hlw (); (first | have hE8 : e - (N1 : Int) + (N2 : Int) + 1 + 1075 < 2047 := (by omega) | have hE8 : e - (N1 : Int) + (N2 : Int) + 1075 < 2047 := (by omega) | skip); clear hkT hkF h1 h1' h2 hP hQs hQ62 hbs lbs h1a hlw hQ0 hP0 hQN hb0 lb0 he hN1 hN2 h0 hm; generalize e - (N1 : Int) + (N2 : Int) = E2 at *; generalize Q N2 = q at *; obtain ⟨z, rfl⟩ : ∃ z : Nat, E2 = (z : Int) - 1074 := ⟨(E2 + 1074).toNat, by omega⟩; rw [show ((z : Int) - 1074 + 1074).toNat = z by omega]; by_cases hq : q < 4503599627370496 <;> (first | have hlow := hlow hq | skip) <;> omega)
    | (rw [hkF () (by rintro ⟨h8, h9⟩; first | (rw [show hb N2 = false by assumption] at h8; cases h8) | (rcases h9 with h9 | h9; (rw [show lb N2 = false by assumption] at h9; cases h9); omega))]; refine rv_fr rfl (word_fr (Nat.min_le_right _ _) ?_); unfold Ieee.Format.word; rw [e_sw]; simp only [if_true, Bool.false_eq_true, if_false]; have hlow := hlw (); (first | have hE8 : e - (N1 : Int) + (N2 : Int) + 1 + 1075 < 2047 := (by omega) | have hE8 : e - (N1 : Int) + (N2 : Int) + 1075 < 2047 := (by omega) | skip); clear hkT hkF h1 h1' h2 hP hQs hQ62 hbs lbs h1a hlw hQ0 hP0 hQN hb0 lb0 he hN1 hN2 h0 hm; generalize e - (N1 : Int) + (N2 : Int) = E2 at *; generalize Q N2 = q at *; obtain ⟨z, rfl⟩ : ∃ z : Nat, E2 = (z : Int) - 1074 := ⟨(E2 + 1074).toNat, by omega⟩; rw [show ((z : Int) - 1074 + 1074).toNat = z by omega]; by_cases hq : q < 4503599627370496 <;> (first | have hlow := hlow hq | skip) <;> omega)


theorem make_c (H : List (List AV)) (neg : Bool) (m : Nat) (hm : m < 4611686018427387904) (e : Int) (he : -100000 ≤ e ∧ e ≤ 100000) : CSpec Try.prog 89 [.bool neg, .int .u64 (m : Int), .int .i64 e] H (.flt (Ieee.double.word neg (rungF m e))) H := by
  by_cases h0 : m = 0 ∨ e < -1200
  · exact make_z H neg m hm e he h0
  · by_cases h1 : 2000 < e
    · exact make_i H neg m hm e he (by omega) h1
    · cases neg
      · exact make_f H m hm e (by omega) (by omega)
      · exact make_t H m hm e (by omega) (by omega)
set_option maxHeartbeats 4000000 in
theorem rscale_i (H : List (List AV)) (x : Nat) (k : Int) (hx : pK x ≠ 0) :
    CSpec Try.prog 54 [.flt x, .int .i64 k] H (.flt x) H := by
  refine .mk (fun args w => Try.call54 args w) (Spec.intro' (fn := Try.f54) Try.func54 rfl (by kernel_rfl) (by simp) false [] (draw := drawX Try.prog ⟨false, _, []⟩) dOk ?_)
  simp only [argE, Nat.reduceAdd]
  repeat' (first
    | (refine gateE ?_; (first | refine b_c0 ?_ | refine b_nil ?_ | fail))
    | (refine gateO ?_; (first | refine m14 ?_ | (refine m00 ?_; (first | refine m54 ?_ | refine m55 ?_ | refine v_neP ?_ | refine m47 ?_ | refine m48 ?_ | refine m49 ?_ | refine m50 ?_ | refine v_k ?_ | refine m51 ?_ | fail)) | refine m42 ?_ | refine b_assignI ?_ | refine b_assignN ?_ | refine m08 ?_ | refine b_callB ?_ | refine m23 ?_ | fail))
    | (refine gateT ?_; (first | refine b_thn ?_ | refine b_thr ?_ | refine b_the ?_ | fail))
    | (refine gateX ?_; (first | refine b_seq ?_ | refine b_region ?_ | (refine m06 ?_; (first | refine c_T ?_ | refine c_F ?_ | refine c_P ?_ ?_ | refine c_B ?_ ?_ | fail)) | refine b_ret ?_ | refine b_skip ?_ | refine b_block ?_ | refine b_exit ?_ | fail))
    | refine m21 ?_
    | refine a_nil ?_
    | (refine gateK ?_; (first | refine c_call (parts_f _ x) (OldOk.app (by simp)) ?_ | fail))
    | (refine gateQ ?_; refine m05 ?_)
    | (refine gateR ?_; (first | refine m04 ?_ | refine m02 ?_ | refine m03 ?_ | refine rk_nil ?_ | fail))
    | intro _)
  all_goals first
    | (refine rv_old rfl (by simp [mx, mxL, resOne, aOf, aOf1]) ?_; exact rfl)
    | (exfalso; simp_all; done)

set_option maxHeartbeats 4000000 in
theorem make_k (H : List (List AV)) (neg : Bool) (m : Int) (hm : 0 ≤ m ∧ m < 4611686018427387904) (e : Int) (he : -100000 ≤ e ∧ e ≤ 100000) : CSpec Try.prog 89 [.bool neg, .int .u64 m, .int .i64 e] H (.flt (Ieee.double.word neg (rungF m.toNat e))) H := by
  obtain ⟨n, rfl⟩ : ∃ n : Nat, m = n := ⟨m.toNat, by omega⟩
  exact make_c H neg n (by omega) e he
set_option maxHeartbeats 4000000 in
theorem rscale_n (H : List (List AV)) (x : Nat) (k : Int) (hx : pK x = 0) (hp : ∀ H', CSpec Try.prog 48 [.flt x] H' (.tup [.bool (sNeg x), .int .u64 (pM x), .int .i64 (pE x), .int .i64 0]) H') :
    CSpec Try.prog 54 [.flt x, .int .i64 k] H (.flt (scaleF x (clK k))) H := by
  have hpM : 0 ≤ pM x ∧ pM x < 4611686018427387904 := by have := pM_rng (x := x); omega
  have hpE := pE_rng (x := x)
  refine .mk (fun args w => Try.call54 args w) (Spec.intro' (fn := Try.f54) Try.func54 rfl (by kernel_rfl) (by simp) false [] (draw := drawX Try.prog ⟨false, _, []⟩) dOk ?_)
  simp only [argE, Nat.reduceAdd]
  repeat' (first
    | (refine gateE ?_; (first | refine b_c0 ?_ | refine b_nil ?_ | fail))
    | (refine gateO ?_; (first | refine m14 ?_ | (refine m00 ?_; (first | refine m54 ?_ | refine m55 ?_ | refine v_neP ?_ | refine m47 ?_ | refine m48 ?_ | refine m49 ?_ | refine m50 ?_ | refine v_k ?_ | refine m51 ?_ | fail)) | refine m42 ?_ | refine b_assignI ?_ | refine b_assignN ?_ | refine m08 ?_ | refine b_callB ?_ | refine m23 ?_ | fail))
    | (refine gateT ?_; (first | refine b_thn ?_ | refine b_thr ?_ | refine b_the ?_ | fail))
    | (refine gateX ?_; (first | refine b_seq ?_ | refine b_region ?_ | (refine m06 ?_; (first | refine c_T ?_ | refine c_F ?_ | refine c_P ?_ ?_ | refine c_B ?_ ?_ | fail)) | refine b_ret ?_ | refine b_skip ?_ | refine b_block ?_ | refine b_exit ?_ | fail))
    | refine m21 ?_
    | refine a_nil ?_
    | (refine gateK ?_; (first | refine c_call (hp _) (OldOk.app (by simp)) ?_ | refine c_call (make_k _ (sNeg x) (pM x) hpM _ (by omega)) (OldOk.app (by simp)) ?_ | fail))
    | (refine gateQ ?_; refine m05 ?_)
    | (refine gateR ?_; (first | refine m04 ?_ | refine m02 ?_ | refine m03 ?_ | refine rk_nil ?_ | fail))
    | intro _)
  all_goals first
    | (refine rv_old rfl (by simp [mx, mxL, resOne, aOf, aOf1]) ?_; simp only [resOne, List.nil_append]; unfold scaleF clK; rw [if_pos hx]; refine congrArg (fun t => AV.flt (Ieee.double.word (sNeg x) (rungF (pM x).toNat t))) ?_; omega)
    | (exfalso; omega)


theorem rscale_c (H : List (List AV)) (x : Nat) (k : Int) : CSpec Try.prog 54 [.flt x, .int .i64 k] H (.flt (scaleF x (clK k))) H := by
  by_cases hx : pK x = 0
  · refine rscale_n H x k hx fun H' => ?_
    refine .mk (fun args w => Try.call48 args w) (Spec.raw1 fun b hb hbx => ?_)
    have hbb := cn_fin hx hbx
    subst hbb
    have h := CSpec.spec (fun args w => Try.call48 args w) (parts_c H' b hb)
    rw [hx, sNeg_p hb] at h
    exact h
  · rw [scaleF_inf hx]; exact rscale_i H x k hx

end Go.Sx

set_option linter.unusedVariables false
set_option linter.unusedSimpArgs false
set_option maxRecDepth 20000
namespace Go.Sx
open Go.Proofs

/-! ### shifted, number by number -/
def shF (f : Nat → Nat) (k : List Int) (n : Nat) : Nat → Nat := fun i => if i < n then scaleF (f i) (clK (k.getD i 0)) else f i
theorem shF_zero (f : Nat → Nat) (k : List Int) : shF f k 0 = f := by funext i; unfold shF; rw [if_neg (by omega)]
theorem shF_at {f : Nat → Nat} {k : List Int} {n : Nat} : shF f k n n = f n := by unfold shF; rw [if_neg (by omega)]
theorem shF_step {f : Nat → Nat} {k : List Int} {n : Nat} (t : Nat) : updV (shF f k n) n (scaleF (f n) (clK (k.getD n 0))) t = shF f k (n + 1) t := by
  unfold updV shF
  by_cases h : t = n
  · subst h; rw [if_pos rfl, if_pos (by omega)]
  · rw [if_neg h]
    by_cases h1 : t < n
    · rw [if_pos h1, if_pos (by omega)]
    · rw [if_neg h1, if_neg (by omega)]
theorem isSl_of {P : Program} {t el : TypeId} (h : telem P t = some el) : isSl P t = true := by
  unfold telem at h; unfold isSl
  split at h
  · rfl
  · cases h
/-- a list that isn't nil for sure -/
def NN (X : AV) : Prop := (∃ tg n c cs, X = .sl tg n (c :: cs)) ∨ ∃ a b c d e, X = .slm a b c d e
theorem NN.slm (a b c d e : Nat) : NN (.slm a b c d e) := .inr ⟨a, b, c, d, e, rfl⟩
theorem NN.sl {tg : Option (Nat × Nat)} {n : Nat} {l : List Nat} (h : 0 < l.length) : NN (.sl tg n (fl l)) := by
  cases l with
  | nil => simp at h
  | cons x l => exact .inl ⟨tg, n, .flt x, fl l, rfl⟩
theorem b_nilF {P : Program} {cfg : Cfg} {e : List (Nat × EV)} {L : List (Nat × List AV)} {H : List (List AV)} {K : St → Prop} {ty : TypeId} {pos : String} {aft : Array Edge} {gd : Option (Nat × Bool)} {dd : Nat} {t t' : TypeId} {el z : Nat} [si : SlI P t el z] {x y : Operand} {X : AV} (hX : NN X) (hx : St.ev ⟨e, L, H⟩ x = .val X) (hy : St.ev ⟨e, L, H⟩ y = .val .slnil)
    (h : K ⟨(dd, .val (.bool false)) :: e, L, H⟩) : opX P cfg ⟨some dd, .binOp .eql t x y t', ty, pos, aft, gd⟩ K ⟨e, L, H⟩ := by
  refine b_bin hx hy (r := some (True, .bool false)) ?_ (v_k h)
  rcases hX with ⟨tg, n, c, cs, rfl⟩ | ⟨a, b, c, d, e, rfl⟩ <;> simp [binV, AV.asF, othV, nilEq, isSl_of si.h]
attribute [local irreducible] Ex exOps exD opX opE thenX blkX RetQ Spec CSpec Fr condK guardK guardD ckK valK pickK loadK faK callK argK gK fK rK RetV lpX prK
set_option maxHeartbeats 4000000 in
theorem index_c (H : List (List AV)) (D : AV) (l : List Nat) (hF : FL H D l) (hB : l.length ≤ 2 ^ 30) (x : Nat) (N : Nat) (hN1 : N ≤ l.length) (hN2 : ∀ k, k < N → feq x (l.getD k 0) = false) (hN3 : N < l.length → ¬ feq x (l.getD N 0) = false) :
    CSpec Try.prog 73 [D, .flt x] H (.int .i64 (if N < l.length then (N : Int) else -1)) H := by
  refine .mk (fun args w => Try.call73 args w) (Spec.intro' (fn := Try.f73) Try.func73 rfl (by kernel_rfl) (by simp) false [] (draw := drawX Try.prog ⟨false, _, []⟩) dOk ?_)
  simp only [argE, Nat.reduceAdd]
  repeat' (first
    | (refine gateE ?_; (first | refine b_c0 ?_ | refine b_nil ?_ | fail))
    | (refine gateO ?_; (first | refine m41 ?_ | refine b_moveI ?_ | refine m14 ?_ | (refine m07 ?_; (first | refine m15 ?_ | refine m16 ?_ | refine l_FL (FL.app hF _) (by omega) ?_ | fail)) | refine b_lenA (by (conv => {lhs; whnf}); done) (by exact hF.len) ?_ | refine b_iaN (by (conv => {lhs; whnf}); done) (by (conv => {lhs; whnf}); done) (by exact hF.len) (by omega) ?_ | (refine m45 ?_; (first | refine v_to ((k + 1 : Nat) : Int) (by omega) (by omega) ?_ | refine v_bbT (by exact rfl) ?_ | refine v_k ?_ | fail)) | (refine m00 ?_; (first | refine v_to ((k + 1 : Nat) : Int) (by omega) (by omega) ?_ | refine m52 ?_ | refine m53 ?_ | refine v_eP ?_ | refine m47 ?_ | refine m48 ?_ | refine m49 ?_ | refine m50 ?_ | refine v_k ?_ | refine m51 ?_ | fail)) | refine m42 ?_ | refine b_assignI ?_ | refine b_assignN ?_ | refine m08 ?_ | refine b_lenA (by (conv => {lhs; whnf}); done) (by first | rfl | assumption) ?_ | fail))
    | (refine gateT ?_; (first | refine b_thn ?_ | refine b_thr ?_ | refine b_the ?_ | fail))
    | (refine gateX ?_; (first | refine b_seq ?_ | refine b_region ?_ | (refine m06 ?_; (first | refine c_T ?_ | refine c_F ?_ | refine c_P ?_ ?_ | refine c_B ?_ ?_ | fail)) | refine b_ret ?_ | refine b_skip ?_ | refine b_block ?_ | refine b_exit ?_ | (refine b_loop [0, 1, 7, 8] N (fun k => ⟨[(0, .val D), (1, .val (.flt x)), (7, .val (.int .i64 (l.length : Int))), (8, .val (.int .i64 ((k : Nat) : Int)))], [], H ++ []⟩) (by exact rfl) ?_ ?_ <;> (first | intro k hk K hK | intro K) <;> (try dsimp only at *)) | fail))
    | (refine gateB ?_; (first | refine b_bln ?_ | refine b_blr ?_ | refine b_ble ?_ | refine m57 ?_ | fail))
    | (refine gateL ?_; (first | refine lp_n ?_ | refine lp_r ?_ | refine lp_e ?_ | fail))
    | (refine pr_k (by exact rfl) ?_; first | exact hK | (exfalso; have := hN2 k (by omega); simp_all; done) | (exfalso; first | omega | (simp_all; done) | (simp_all; omega)))
    | (refine gateQ ?_; refine m05 ?_)
    | (refine gateR ?_; (first | refine m04 ?_ | refine m02 ?_ | refine m03 ?_ | refine rk_nil ?_ | fail))
    | intro _)
  all_goals first
    | (exfalso; omega)
    | (rw [if_pos (by omega)]; refine rv_old rfl (by simp [mx, mxL, resOne, aOf, aOf1]) ?_; exact rfl)
    | (rw [if_neg (by omega)]; refine rv_old rfl (by simp [mx, mxL, resOne, aOf, aOf1]) ?_; exact rfl)
    | (exfalso; simp_all; done)


theorem ord_comm (a b : Ieee.Datum) : (a.order b == some Ordering.eq) = (b.order a == some Ordering.eq) := by
  have hc : ∀ a b : Int, (some (compare a b) == some Ordering.eq) = (some (compare b a) == some Ordering.eq) := fun a b => by
    rcases Int.lt_trichotomy a b with h | h | h
    · rw [Int.compare_eq_lt.2 h, Int.compare_eq_gt.2 h]; rfl
    · subst h; rfl
    · rw [Int.compare_eq_gt.2 h, Int.compare_eq_lt.2 h]; rfl
  cases a with
  | number s m i =>
    cases b with
    | number t n j => simp only [Ieee.Datum.order]; rw [Int.min_comm, hc]
    | infinity t => cases t <;> rfl
    | nan t u => rfl
  | infinity s =>
    cases b with
    | number t n j => cases s <;> rfl
    | infinity t => cases s <;> cases t <;> decide
    | nan t u => rfl
  | nan s u => cases b <;> rfl
theorem feq_comm (x y : Nat) : feq x y = feq y x := ord_comm _ _
theorem index_f (H : List (List AV)) (D : AV) (l : List Nat) (hF : FL H D l) (hB : l.length ≤ 2 ^ 30) (h : ∀ k, k < l.length → feq (l.getD k 0) 0 = false) : CSpec Try.prog 73 [D, .flt 0] H (.int .i64 (-1)) H := by
  have := index_c H D l hF hB 0 l.length (Nat.le_refl _) (fun k hk => by rw [feq_comm]; exact h k hk) (fun hh => absurd hh (Nat.lt_irrefl _))
  rwa [if_neg (Nat.lt_irrefl _)] at this
theorem index_t (H : List (List AV)) (D : AV) (l : List Nat) (hF : FL H D l) (hB : l.length ≤ 2 ^ 30) (z : Nat) (hz : z < l.length) (h : ∀ k, k < z → feq (l.getD k 0) 0 = false) (h1 : feq (l.getD z 0) 0 = true) : CSpec Try.prog 73 [D, .flt 0] H (.int .i64 (z : Int)) H := by
  have := index_c H D l hF hB 0 z (by omega) (fun k hk => by rw [feq_comm]; exact h k hk) (fun _ => by rw [feq_comm, h1]; simp)
  rwa [if_pos hz] at this
set_option maxHeartbeats 4000000 in
theorem has_f (H : List (List AV)) (D : AV) (l : List Nat) (hF : FL H D l) (hB : l.length ≤ 2 ^ 30) (h : ∀ k, k < l.length → feq (l.getD k 0) 0 = false) :
    CSpec Try.prog 38 [D, .flt 0] H (.bool false) H := by
  refine .mk (fun args w => Try.call38 args w) (Spec.intro' (fn := Try.f38) Try.func38 rfl (by kernel_rfl) (by simp) false [] (draw := drawX Try.prog ⟨false, _, []⟩) dOk ?_)
  simp only [argE, Nat.reduceAdd]
  repeat' (first
    | (refine gateE ?_; (first | refine b_c0 ?_ | refine b_nil ?_ | fail))
    | (refine gateO ?_; (first | refine m14 ?_ | (refine m00 ?_; (first | refine m47 ?_ | refine m48 ?_ | refine m49 ?_ | refine m50 ?_ | refine v_k ?_ | refine m51 ?_ | fail)) | refine m42 ?_ | refine b_assignI ?_ | refine b_assignN ?_ | refine m08 ?_ | refine b_callB ?_ | fail))
    | (refine gateT ?_; (first | refine b_thn ?_ | refine b_thr ?_ | refine b_the ?_ | fail))
    | (refine gateX ?_; (first | refine b_seq ?_ | refine b_region ?_ | (refine m06 ?_; (first | refine c_T ?_ | refine c_F ?_ | refine c_P ?_ ?_ | refine c_B ?_ ?_ | fail)) | refine b_ret ?_ | refine b_skip ?_ | refine b_block ?_ | refine b_exit ?_ | fail))
    | refine m21 ?_
    | refine a_nil ?_
    | (refine gateK ?_; (first | refine c_call (index_f _ D l (FL.app hF _) hB h) (OldOk.app (by simp)) ?_ | fail))
    | (refine gateQ ?_; refine m05 ?_)
    | (refine gateR ?_; (first | refine m04 ?_ | refine m02 ?_ | refine m03 ?_ | refine rk_nil ?_ | fail))
    | intro _)
  all_goals first
    | (exfalso; omega)
    | (refine rv_old rfl (by simp [mx, mxL, resOne, aOf, aOf1]) ?_; exact rfl)
    | (exfalso; simp_all; done)

set_option maxHeartbeats 4000000 in
theorem has_t (H : List (List AV)) (D : AV) (l : List Nat) (hF : FL H D l) (hB : l.length ≤ 2 ^ 30) (z : Nat) (hz : z < l.length) (h : ∀ k, k < z → feq (l.getD k 0) 0 = false) (h1 : feq (l.getD z 0) 0 = true) :
    CSpec Try.prog 38 [D, .flt 0] H (.bool true) H := by
  refine .mk (fun args w => Try.call38 args w) (Spec.intro' (fn := Try.f38) Try.func38 rfl (by kernel_rfl) (by simp) false [] (draw := drawX Try.prog ⟨false, _, []⟩) dOk ?_)
  simp only [argE, Nat.reduceAdd]
  repeat' (first
    | (refine gateE ?_; (first | refine b_c0 ?_ | refine b_nil ?_ | fail))
    | (refine gateO ?_; (first | refine m14 ?_ | (refine m00 ?_; (first | refine m47 ?_ | refine m48 ?_ | refine m49 ?_ | refine m50 ?_ | refine v_k ?_ | refine m51 ?_ | fail)) | refine m42 ?_ | refine b_assignI ?_ | refine b_assignN ?_ | refine m08 ?_ | refine b_callB ?_ | fail))
    | (refine gateT ?_; (first | refine b_thn ?_ | refine b_thr ?_ | refine b_the ?_ | fail))
    | (refine gateX ?_; (first | refine b_seq ?_ | refine b_region ?_ | (refine m06 ?_; (first | refine c_T ?_ | refine c_F ?_ | refine c_P ?_ ?_ | refine c_B ?_ ?_ | fail)) | refine b_ret ?_ | refine b_skip ?_ | refine b_block ?_ | refine b_exit ?_ | fail))
    | refine m21 ?_
    | refine a_nil ?_
    | (refine gateK ?_; (first | refine c_call (index_t _ D l (FL.app hF _) hB z hz h h1) (OldOk.app (by simp)) ?_ | fail))
    | (refine gateQ ?_; refine m05 ?_)
    | (refine gateR ?_; (first | refine m04 ?_ | refine m02 ?_ | refine m03 ?_ | refine rk_nil ?_ | fail))
    | intro _)
  all_goals first
    | (exfalso; omega)
    | (refine rv_old rfl (by simp [mx, mxL, resOne, aOf, aOf1]) ?_; exact rfl)
    | (exfalso; simp_all; done)

set_option maxHeartbeats 4000000 in
theorem clone_k (H H' : List (List AV)) (D : AV) (l : List Nat) (hF : FL H D l) (hB : l.length ≤ 2 ^ 30) (hN : NN D) (m : Nat) (hm : H.length = m) (hH : H ++ [fl l] = H') :
    CSpec Try.prog 42 [D] H (.slm m l.length 0 l.length 1) H' := by
  subst hH hm
  refine .mk (fun args w => Try.call42 args w) (Spec.intro' (fn := Try.f42) Try.func42 rfl (by kernel_rfl) (by simp) false [] (draw := drawX Try.prog ⟨false, _, []⟩) dOk ?_)
  simp only [argE, Nat.reduceAdd]
  repeat' (first
    | (refine gateE ?_; (first | refine b_c0 ?_ | refine b_nil ?_ | fail))
    | (refine gateO ?_; (first | refine m14 ?_ | refine b_nilF hN (by (conv => {lhs; whnf}); done) (by exact rfl) ?_ | refine b_bslN (by exact rfl) (by exact rfl) (by decide) (by exact rfl) (by (conv => {lhs; whnf}); done) ?_ | refine b_appN (by (conv => {lhs; whnf}); done) (by (conv => {lhs; whnf}); done) (by exact rfl) (by exact rfl) (by exact src_fl' hF) (by simp) (by exact rfl) (by simp; omega) (.inl (Nat.le_refl _)) (by exact rfl) (by (conv => {lhs; simp only [List.nil_append, fl_app, il_app]}); done) (by (conv => {lhs; simp only [List.set_cons_zero, List.set_cons_succ]}); done) (by (conv => {lhs; simp only [fl_len, il_len, List.length_append, List.length_nil, Nat.zero_add]}); done) (by (conv => {lhs; simp only [Nat.zero_add]}); done) ?_ | (refine m45 ?_; (first | refine v_bbT (by exact rfl) ?_ | refine v_k ?_ | fail)) | (refine m00 ?_; (first | refine m52 ?_ | refine m53 ?_ | refine v_eP ?_ | refine m49 ?_ | refine m50 ?_ | refine v_k ?_ | refine m51 ?_ | fail)) | refine m42 ?_ | refine b_assignI ?_ | refine b_assignN ?_ | refine m08 ?_ | refine b_bslZ (by exact rfl) (by exact rfl) (by decide) ?_ | fail))
    | (refine gateT ?_; (first | refine b_thn ?_ | refine b_thr ?_ | refine b_the ?_ | fail))
    | (refine gateX ?_; (first | refine b_seq ?_ | refine b_region ?_ | (refine m06 ?_; (first | refine c_T ?_ | refine c_F ?_ | refine c_P ?_ ?_ | refine c_B ?_ ?_ | fail)) | refine b_ret ?_ | refine b_skip ?_ | refine b_block ?_ | refine b_exit ?_ | fail))
    | refine m44 ?_
    | refine m40 ?_
    | (refine gk_nilN (by (conv => {lhs; simp only [List.nil_append, List.cons_append]}); done) ?_; first | refine ⟨by exact rfl, ?_⟩ | skip)
    | refine gk_nil ?_
    | (intro N' hN'; simp only [List.nil_append, List.cons_append] at hN'; subst hN')
    | (refine gateQ ?_; refine m05 ?_)
    | (refine gateR ?_; (first | refine m04 ?_ | refine m02 ?_ | refine m03 ?_ | refine rk_nil ?_ | fail))
    | (refine ⟨by simp [oneC], fun N' hN' => ?_⟩; simp only [List.nil_append, List.cons_append] at hN'; subst hN')
    | intro _)
  all_goals first
    | exact rv_kp (j := 0) (cs := fl l) rfl rfl (by rw [mxL_fl]; exact Nat.zero_le _) (Fr.kp (j := 0) (cs := fl l) rfl (hg_new rfl rfl) (fl_len l))

set_option maxHeartbeats 4000000 in
theorem sh1_c (H H' : List (List AV)) (b : Nat) (l : List Nat) (hb : H[b]? = some (fl l)) (p : Nat) (hp : p < l.length) (bk : Nat) (Kv : AV) (hbk : H[bk]? = some [Kv]) (kl : List Int) (hK : IL H Kv kl) (i : Nat) (hi : i < kl.length) (hH : H.set b (fl (l.set p (scaleF (l.getD p 0) (clK (kl.getD i 0))))) = H') :
    CSpec Try.prog 111 [.int .i64 (i : Int), .eptr (.slm b l.length 0 l.length 1) p, .eptr (.slm bk 1 0 1 1) 0] H (.tup []) H' := by
  subst hH
  have hbl : b < H.length := (List.getElem?_eq_some_iff.1 hb).1
  refine .mk (fun args w => Try.call111 args w) (Spec.intro' (fn := Try.f111) Try.func111 rfl (by kernel_rfl) (by simp) false [] (draw := drawX Try.prog ⟨false, _, []⟩) dOk ?_)
  simp only [argE, Nat.reduceAdd]
  repeat' (first
    | (refine gateE ?_; (first | refine b_c0 ?_ | refine b_nil ?_ | fail))
    | (refine gateO ?_; (first | refine m14 ?_ | (refine m07 ?_; (first | refine m15 ?_ | refine m16 ?_ | refine l_IL (IL.app hK _) hi ?_ | refine l_o1 hbk (by exact rfl) (by exact rfl) ?_ | refine l_o1 hb (by simp) (by rw [Nat.zero_add]; exact fl_get hp) ?_ | fail)) | refine b_nilC (by (conv => {lhs; whnf}); done) ?_ | refine b_iaN (by (conv => {lhs; whnf}); done) (by (conv => {lhs; whnf}); done) (by exact hK.len) (by omega) ?_ | refine b_stF (by (conv => {lhs; whnf}); done) (by (conv => {lhs; whnf}); done) hb (by exact rfl) (by omega) (m' := l.set p (scaleF (l.getD p 0) (clK (kl.getD i 0)))) (by rw [Nat.zero_add]) ?_ | refine b_callB ?_ | refine m25 ?_ | fail))
    | (refine gateD ?_; (first | refine m36 ?_ | refine d_nil ?_ | fail))
    | (refine gateC ?_; (first | refine k_lt ?_ | refine k_fz ?_ | refine k_lb (by (conv => {lhs; whnf}); done) ?_ | refine k_ms ?_ | refine k_bx (by exact rfl) (by exact rfl) ?_ | refine m34 ?_ | refine m35 ?_ | refine m33 ?_ | refine k_mn ?_ | refine m56 ?_ | refine k_mnF ?_ | refine k_mnL (by exact rfl) ?_ | fail))
    | (refine gateT ?_; (first | refine b_thn ?_ | refine b_thr ?_ | refine b_the ?_ | fail))
    | (refine gateX ?_; (first | refine b_seq ?_ | refine b_region ?_ | (refine m06 ?_; (first | refine c_T ?_ | refine c_F ?_ | refine c_P ?_ ?_ | refine c_B ?_ ?_ | fail)) | refine b_ret ?_ | refine b_skip ?_ | refine b_block ?_ | refine b_exit ?_ | refine b_draw (id := 0) [] [10] [(0, .lt), (1, .lt), (2, .lt), (3, .ld true), (4, .ld true), (5, .lt), (6, .lt), (7, .ld true), (8, .mn true), (9, .lt), (10, .mn false)] (by kernel_rfl) ?_ | fail))
    | refine m21 ?_
    | refine a_nil ?_
    | (refine gateK ?_; (first | refine c_call (scale_c _ _ _) (OldOk.app (by simp)) ?_ | fail))
    | (refine gateQ ?_; refine m05 ?_)
    | (refine gateR ?_; (first | refine m04 ?_ | refine m02 ?_ | refine m03 ?_ | refine rk_nil ?_ | fail))
    | intro _)
  all_goals first
    | (refine rv_old (by simp) (by simp [mx, mxL, resOne]) ?_; exact rfl)

set_option maxHeartbeats 4000000 in
theorem aeach_c (S : Nat → List (List AV)) (Lf : Nat → List Nat) (D : AV) (hF : ∀ t, FL (S t) D (Lf t)) (m : Nat) (hl : ∀ t, (Lf t).length = m) (off inc : Int) (n : Nat) (hI : VI m off n inc) (hR : RightP m off n inc) (fid : Nat) (caps : List AV) (hSl : ∀ t, (S t).length = (S 0).length) (hO : ∀ t N N', OldOk (S 0).length (S t ++ N) (S (t + 1) ++ N')) (hS : ∀ i N, i < n → CSpec Try.prog fid ([.int .i64 (i : Int), .eptr D (pos off inc 0 i)] ++ caps) (S i ++ N) (.tup []) (S (i + 1) ++ N)) :
    CSpec Try.prog 110 [vt D off (n : Int) inc, .func fid [] caps] (S 0) (.tup []) (S n) := by
  obtain ⟨vn, vo1, vo2, vn1, vn2, vi1, vi2⟩ := id hI
  have hlen : slen D = some m := by (have h9 := (hF 0).len; rwa [hl] at h9)
  refine .mk (fun args w => Try.call110 args w) (Spec.intro' (fn := Try.f110) Try.func110 rfl (by kernel_rfl) (by simp) false [] (draw := drawX Try.prog ⟨false, _, []⟩) dOk ?_)
  simp only [argE, Nat.reduceAdd]
  repeat' (first
    | (refine gateE ?_; (first | refine b_c0 ?_ | refine b_nil ?_ | fail))
    | (refine gateO ?_; (first | refine m41 ?_ | refine b_moveI ?_ | refine m14 ?_ | (refine m17 ?_; first | refine m19 ?_ | refine m18 ?_) | (refine m07 ?_; (first | refine m15 ?_ | refine m16 ?_ | fail)) | refine b_iaM (m := pos off inc 0 i) (by (conv => {lhs; whnf}); done) (by (conv => {lhs; whnf}); done) (by exact hlen) (by exact vpos_eq (l := Lf i) (by rw [hl]; exact hR) hi) (by have h9 := vpos_lt (l := Lf i) (off := off) (inc := inc) (n := n) (by rw [hl]; exact hR) hi; rwa [hl] at h9) ?_ | (refine m00 ?_; (first | refine v_to ((i + 1 : Nat) : Int) (by omega) (by omega) ?_ | refine v_w (by first | omega | (have h1 := right_at hR (i := (i : Int)) (by omega) (by omega); omega) | fail) ?_ | refine m47 ?_ | refine m48 ?_ | refine m49 ?_ | refine m50 ?_ | refine v_k ?_ | refine m51 ?_ | fail)) | refine m08 ?_ | refine b_callB ?_ | refine m39 ?_ | refine m01 ?_ | fail))
    | (refine gateT ?_; (first | refine b_thn ?_ | refine b_thr ?_ | refine b_the ?_ | fail))
    | (refine gateX ?_; (first | refine b_seq ?_ | refine b_region ?_ | (refine m06 ?_; (first | refine c_T ?_ | refine c_F ?_ | refine c_P ?_ ?_ | refine c_B ?_ ?_ | fail)) | refine b_ret ?_ | refine b_skip ?_ | refine b_block ?_ | refine b_exit ?_ | (refine b_loop [1, 2, 6, 7] n (fun i => ⟨[(1, .val (.func fid [] caps)), (2, .loc 2 0), (6, .val (.int .i64 ((n : Nat) : Int))), (7, .val (.int .i64 ((i : Nat) : Int)))], [(2, [D, .int .i64 off, .int .i64 (n : Int), .int .i64 inc])], S i ++ []⟩) (by exact rfl) ?_ ?_ <;> (first | intro i hi K hK | intro K) <;> (try dsimp only at *)) | fail))
    | refine m21 ?_
    | refine a_nil ?_
    | (refine gateK ?_; (first | refine c_call (hS i [] hi) (hO _ _ _) ?_ | fail))
    | refine m44 ?_
    | refine m40 ?_
    | (refine gk_nilN (by (conv => {lhs; simp only [List.nil_append, List.cons_append]}); done) ?_; first | refine ⟨by exact rfl, ?_⟩ | skip)
    | refine gk_nil ?_
    | (intro N' hN'; simp only [List.nil_append, List.cons_append] at hN'; subst hN')
    | (refine gateB ?_; (first | refine b_bln ?_ | refine b_blr ?_ | refine b_ble ?_ | refine m57 ?_ | fail))
    | (refine gateL ?_; (first | refine lp_n ?_ | refine lp_r ?_ | refine lp_e ?_ | fail))
    | (refine pr_k (by exact rfl) ?_; first | exact hK | fail | (exfalso; first | omega | (simp_all; done) | (simp_all; omega)))
    | (refine gateQ ?_; refine m05 ?_)
    | (refine gateR ?_; (first | refine m04 ?_ | refine m02 ?_ | refine m03 ?_ | refine rk_nil ?_ | fail))
    | intro _)
  all_goals first
    | (refine rv_old (hSl _) (by simp [mx, mxL, resOne]) ?_; exact rfl)


theorem sh_each (H : List (List AV)) (b : Nat) (l : List Nat) (hbl : b < H.length) (xo xi : Int) (n : Nat) (hI : VI l.length xo n xi) (hR : RightP l.length xo n xi) (Kv : AV) (kl : List Int) (hK : ∀ H', IL H' Kv kl) (hKm : mx Kv ≤ H.length) (hn : kl.length = n) (f : Nat → Nat) : CSpec Try.prog 110 [vt (.slm b l.length 0 l.length 1) xo (n : Int) xi, .func 111 [] [.eptr (.slm (H.length + 1) 1 0 1 1) 0]] (H.set b (fl (setV l xo xi n (f))) ++ [[(.slm b l.length 0 l.length 1), .int .i64 xo, .int .i64 (n : Int), .int .i64 xi], [Kv]]) (.tup []) (H.set b (fl (setV l xo xi n (shF f kl n))) ++ [[(.slm b l.length 0 l.length 1), .int .i64 xo, .int .i64 (n : Int), .int .i64 xi], [Kv]]) := by
  have hlen : ∀ g, (H.set b g).length = H.length := fun g => by simp
  have h := aeach_c (fun t => H.set b (fl (setV l xo xi n (shF f kl t))) ++ [[(.slm b l.length 0 l.length 1), .int .i64 xo, .int .i64 (n : Int), .int .i64 xi], [Kv]]) (fun t => setV l xo xi n (shF f kl t)) (.slm b l.length 0 l.length 1) (fun t => FL.set hbl (by simp) (by simp)) l.length (by simp) xo xi n hI hR 111 [.eptr (.slm (H.length + 1) 1 0 1 1) 0] (by simp) (fun t N N' => ?_) (fun i N hi => ?_)
  · simp only [shF_zero] at h
    exact h
  · have ho := OldOk.set (A := H.set b (fl (setV l xo xi n (shF f kl t))) ++ [[(.slm b l.length 0 l.length 1), .int .i64 xo, .int .i64 (n : Int), .int .i64 xi], [Kv]]) (N := N) (N' := N') (n := (H.set b (fl (setV l xo xi n (shF f kl 0))) ++ [[(.slm b l.length 0 l.length 1), .int .i64 xo, .int .i64 (n : Int), .int .i64 xi], [Kv]]).length) (i := b) (cs := fl (setV l xo xi n (shF f kl (t + 1)))) (by simp) (by rw [mxL_fl]; exact Nat.zero_le _)
    rw [hs_set2 hbl] at ho
    exact ho
  · have hp := vpos_lt hR hi
    simp only [List.append_assoc]
    refine sh1_c _ _ b (setV l xo xi n (shF f kl i)) (hg_set hbl) (pos xo xi 0 i) (by simpa using hp) (H.length + 1) Kv (by rw [List.getElem?_append_right (by simp)]; simp) kl (hK _) i (by omega) ?_ |> fun h => (by simpa using h)
    have e1 : (setV l xo xi n (shF f kl i)).getD (pos xo xi 0 i) 0 = f i := by rw [setV_get hR hi, shF_at]
    rw [e1, set_setV hR hi, hs_set2 hbl]
    rw [show setV l xo xi n (updV (shF f kl i) i (scaleF (f i) (clK (kl.getD i 0)))) = setV l xo xi n (shF f kl (i + 1)) from setV_congr hR.2.2.1 hR.2.1 (fun t _ => shF_step t)]

end Go.Sx

set_option linter.unusedVariables false
set_option linter.unusedSimpArgs false
set_option maxRecDepth 20000
namespace Go.Sx
open Go.Proofs

theorem vec_w {n : Nat} (hn : n ≤ 64) : VI n 0 (n : Int) 1 ∧ RightP n 0 (n : Int) 1 := by
  refine ⟨⟨by omega, by omega, by omega, by omega, by omega, by omega, by omega⟩, ?_⟩
  unfold RightP; omega
theorem setV_w {f g : Nat → Nat} {n : Nat} : setV (rml f n) 0 1 n g = rml g n := by
  apply List.ext_getElem
  · simp
  · intro i h1 h2
    have hi : i < n := by simpa using h2
    have e := setV_get (l := rml f n) (off := 0) (inc := 1) (n := n) (f := g) (hR := by unfold RightP; simp; omega) hi
    have hp : pos 0 1 0 i = i := by unfold pos; omega
    rw [hp] at e
    have e2 := rml_get (g := g) hi
    have e3 := e.trans e2.symm
    simp only [List.getD_eq_getElem?_getD, List.getElem?_eq_getElem h1, List.getElem?_eq_getElem h2, Option.getD_some] at e3
    exact e3
theorem vf_w {f : Nat → Nat} {n i : Nat} (hi : i < n) : vf (rml f n) 0 1 i = f i := by
  unfold vf mel
  rw [show ((0 : Int) + ((0 : Nat) : Int) + (i : Int) * 1).toNat = i by omega]
  exact rml_get hi
theorem ptr_nf {H : List (List AV)} {b g o s z : Nat} {l la : List Nat} {q : Nat × Nat} (hb : H[b]? = some (fl l)) (hg : l.length = g) (h0 : 0 < la.length) : ptrEq H (.slm b g o s z) 0 (aD q la) 0 = some false := by
  cases la with
  | nil => simp at h0
  | cons a la => simp [aD, ptrEq, curG_of hb hg, fl]
attribute [local irreducible] Ex exOps exD opX opE thenX blkX RetQ Spec CSpec Fr condK guardK guardD ckK valK pickK loadK faK callK argK gK fK rK RetV lpX prK
set_option maxHeartbeats 4000000 in
theorem shift_c (H H' : List (List AV)) (b : Nat) (l : List Nat) (hb : H[b]? = some (fl l)) (xo xi : Int) (n : Nat) (hI : VI l.length xo n xi) (hR : RightP l.length xo n xi) (Kv : AV) (kl : List Int) (hK : ∀ H', IL H' Kv kl) (hKm : mx Kv ≤ H.length) (hn : kl.length = n) (hH : H.set b (fl (setV l xo xi n (shF (vf l xo xi) kl n))) = H') :
    CSpec Try.prog 68 [vt (.slm b l.length 0 l.length 1) xo (n : Int) xi, Kv] H (.int .i64 0) H' := by
  subst hH
  obtain ⟨vn, vo1, vo2, vn1, vn2, vi1, vi2⟩ := id hI
  have hbl : b < H.length := (List.getElem?_eq_some_iff.1 hb).1
  have heach := sh_each H b l hbl xo xi n hI hR Kv kl hK hKm hn (vf l xo xi)
  rw [setV_self hR.2.2.1 hR.2.1, set_self hb] at heach
  refine .mk (fun args w => Try.call68 args w) (Spec.intro' (fn := Try.f68) Try.func68 rfl (by kernel_rfl) (by simp) true [] (draw := drawX Try.prog ⟨true, _, []⟩) dOk ?_)
  simp only [argE, Nat.reduceAdd]
  repeat' (first
    | (refine gateE ?_; (first | refine b_c0 ?_ | refine b_nil ?_ | fail))
    | (refine gateO ?_; (first | (refine m17 ?_; first | refine m19 ?_ | refine m18 ?_) | (refine m07 ?_; (first | refine m15 ?_ | refine m16 ?_ | refine l_nA (by exact rfl) (by exact rfl) (by exact rfl) (by exact rfl) ?_ | refine l_n1 (by exact rfl) (by exact rfl) (by exact rfl) (by exact rfl) ?_ | fail)) | refine b_boxE (by (conv => {lhs; whnf}); done) (by exact rfl) (by exact rfl) (by exact rfl) (by (conv => {lhs; whnf}); done) (by (conv => {lhs; simp only [List.nil_append, List.cons_append]}); done) ?_ | refine b_mkF ?_ | refine b_boxE (by (conv => {lhs; whnf}); done) (by exact cells_of_len (hK []).len) (by exact rfl) (by exact rfl) (by (conv => {lhs; whnf}); done) (by (conv => {lhs; simp only [List.nil_append, List.cons_append]}); done) ?_ | refine b_lenA (by (conv => {lhs; whnf}); done) (by exact (hK []).len) ?_ | (refine m00 ?_; (first | refine m54 ?_ | refine m55 ?_ | refine v_neP ?_ | refine m49 ?_ | refine m50 ?_ | refine v_nT ?_ | refine v_nF ?_ | refine v_nP ?_ | refine v_k ?_ | refine m51 ?_ | fail)) | refine m42 ?_ | refine b_assignI ?_ | refine b_assignN ?_ | refine m08 ?_ | (refine m20 ?_; (first | refine m54 ?_ | refine m55 ?_ | refine v_neP ?_ | refine m49 ?_ | refine m50 ?_ | refine v_nT ?_ | refine v_nF ?_ | refine v_nP ?_ | refine v_k ?_ | refine m51 ?_ | fail)) | refine b_callB ?_ | refine b_lenA (by (conv => {lhs; whnf}); done) (by first | rfl | assumption) ?_ | refine m01 ?_ | fail))
    | (refine gateT ?_; (first | refine b_thn ?_ | refine b_thr ?_ | refine b_the ?_ | fail))
    | (refine gateX ?_; (first | refine b_seq ?_ | refine b_region ?_ | (refine m06 ?_; (first | refine c_T ?_ | refine c_F ?_ | refine c_P ?_ ?_ | refine c_B ?_ ?_ | fail)) | refine b_ret ?_ | refine b_skip ?_ | refine b_block ?_ | refine b_exit ?_ | fail))
    | refine m21 ?_
    | refine a_nil ?_
    | (refine gateK ?_; (first | refine c_call (right_r _ (.slm b l.length 0 l.length 1) l ((FL.old hb (by exact rfl) rfl).app _) xo n xi hI true (decide_eq_true hR)) (OldOk.app (by simp)) ?_ | refine c_call heach (OldOk.set (by simp) (by rw [mxL_fl]; exact Nat.zero_le _)) ?_ | fail))
    | refine m44 ?_
    | refine m40 ?_
    | (refine gk_nilN (by (conv => {lhs; simp only [List.nil_append, List.cons_append]}); done) ?_; first | refine ⟨by exact rfl, ?_⟩ | skip)
    | refine gk_nil ?_
    | (intro N' hN'; simp only [List.nil_append, List.cons_append] at hN'; subst hN')
    | (refine gateB ?_; (first | refine b_bln ?_ | refine b_blr ?_ | refine b_ble ?_ | refine m57 ?_ | fail))
    | (refine gateQ ?_; refine m05 ?_)
    | (refine gateR ?_; (first | refine m04 ?_ | refine m02 ?_ | refine m03 ?_ | refine rk_nil ?_ | fail))
    | intro _)
  all_goals first
    | (exfalso; contradiction)
    | (exfalso; omega)
    | (refine rv_old (by simp) (by simp [mx, mxL, resOne]) ?_; exact rfl)


theorem shift_w (H : List (List AV)) (n : Nat) (hn : n ≤ 64) (f : Nat → Nat) (Kv : AV) (kl : List Int) (hK : ∀ H', IL H' Kv kl) (hKm : mx Kv ≤ H.length) (hkl : kl.length = n) : CSpec Try.prog 68 [vt (.slm (H.length + 0) n 0 n 1) 0 (n : Int) 1, Kv] (H ++ [fl (rml f n)]) (.int .i64 0) (H ++ [fl (rml (shF f kl n) n)]) := by
  obtain ⟨v1, v2⟩ := vec_w hn
  have h := shift_c (H ++ [fl (rml f n)]) _ (H.length + 0) (rml f n) (hg_new rfl rfl) 0 1 n (by simpa using v1) (by simpa using v2) Kv kl hK (by simp; omega) hkl rfl
  rw [setV_w, hs_new (N' := [fl (rml (shF (vf (rml f n) 0 1) kl n) n)]) rfl rfl, rml_congr (g := shF (vf (rml f n) 0 1) kl n) (g' := shF f kl n) (fun i hi => by unfold shF; rw [if_pos hi, if_pos hi, vf_w hi])] at h
  simpa using h
section
variable (H : List (List AV)) (n : Nat) (hn : n ≤ 64) (f : Nat → Nat) (q : Nat × Nat) (la : List Nat) (mo ld : Int) (hI : MI la.length mo n n ld) (hG : GoodP la.length mo n n ld) (P : AV) (p : List Int) (hP : ∀ H, IL H P p) (hpl : p.length = n) (hpv : pivP p) (hz : ∀ k, k < n → feq (mel la mo ld k k) 0 = false)
include hn hI hG hP hpl hpv hz in
theorem slv_w : CSpec Try.prog 33 [(.agg [aD q la, .int .i64 mo, .int .i64 (n : Int), .int .i64 (n : Int), .int .i64 ld, P]), vt (.slm (H.length + 0) n 0 n 1) 0 (n : Int) 1] (H ++ [fl (rml f n)]) (.int .i64 0) (H ++ [fl (rml (up2 (mel la mo ld) (lo1 (mel la mo ld) (tkF p f n) n) n n) n)]) := by
  obtain ⟨v1, v2⟩ := vec_w hn
  have hs : ∀ g X, (H ++ [fl (rml g n)]).set (H.length + 0) X = H ++ [X] := fun g X => by rw [hs_new (N' := [X]) rfl rfl]
  have hmeet : ∀ g N, CSpec Try.prog 104 [mt (.slm (H.length + 0) n 0 n 1) 0 1 (n : Int) 1, mt (aD q la) mo (n : Int) (n : Int) ld] (H ++ [fl (rml g n)] ++ N) (.bool false) (H ++ [fl (rml g n)] ++ N) := fun g N =>
    meet_f _ _ n 0 1 n 1 rfl v1.mat _ la.length mo n n ld rfl hI (fun hs1 hs2 => ptr_nf (l := rml g n) (by rw [List.append_assoc]; exact hg_new (j := 0) rfl rfl) (by simp) hs2)
  have hvec : ∀ g N, CSpec Try.prog 69 [(.agg [aD q la, .int .i64 mo, .int .i64 (n : Int), .int .i64 (n : Int), .int .i64 ld, P]), vt (.slm (H.length + 0) n 0 n 1) 0 (n : Int) 1] (H ++ [fl (rml g n)] ++ N) (.int .i64 0) (H ++ [fl (rml g n)] ++ N) := fun g N => by
    exact vec_0 (H ++ [fl (rml g n)]) (aD q la) la (aD_FL _ q la) mo n n ld hI (.slm (H.length + 0) n 0 n 1) (rml g n) (FL.old (hg_new (j := 0) rfl rfl) (by simp) (by simp)) 0 n 1 (by simpa using v1) P p (hP _) (by omega) ⟨hG, rfl, by omega, hpv⟩ (by simpa using v2) rfl (fun N => hmeet g N) (fun N => szero_n _ _ la (aD_FL _ q la) mo ld n hI hG hz) N
  have h := slv_0 (H ++ [fl (rml f n)]) (H.length + 0) (rml f n) (by simp) 0 1 n (by simpa using v1) (by simpa using v2) (aD q la) (by simp [aD, mx, mxL_fl]) la.length mo ld hI hG (mel la mo ld) (fun g => ⟨la, aD_FL _ q la, rfl, fun i j _ _ => rfl⟩) (fun g N => by rw [setV_w, hs, rml_len]; exact hmeet g N) P p hpl (by omega) hpv (fun X N => hP _) f hz (fun N => by rw [setV_w, hs, rml_len]; exact hvec f N)
  rw [setV_w, setV_w, hs, hs, rml_len] at h
  exact h
include hn hI hG hP hpl hpv hz in
end

end Go.Sx

set_option linter.unusedVariables false
set_option linter.unusedSimpArgs false
set_option maxRecDepth 20000
namespace Go.Sx
open Go.Proofs
attribute [local irreducible] Ex exOps exD opX opE thenX blkX RetQ Spec CSpec Fr condK guardK guardD ckK valK pickK loadK faK callK argK gK fK rK RetV lpX prK
set_option maxHeartbeats 4000000 in
theorem rshift_l (H : List (List AV)) (X : AV) (xl : List Nat) (hX : FL H X xl) (Kv : AV) (kl : List Int) (hKi : IL H Kv kl) (hkn : kl.length = xl.length) (hB : xl.length ≤ 2 ^ 30) :
    CSpec Try.prog 40 [X, Kv] H (.sl none xl.length (fl (rml (fun i => scaleF (xl.getD i 0) (clK (kl.getD i 0))) xl.length))) H := by
  refine .mk (fun args w => Try.call40 args w) (Spec.intro' (fn := Try.f40) Try.func40 rfl (by kernel_rfl) (by simp) false [23] (draw := drawX Try.prog ⟨false, _, [23]⟩) dOk ?_)
  simp only [argE, Nat.reduceAdd]
  repeat' (first
    | (refine gateE ?_; (first | refine b_c0 ?_ | refine b_nil ?_ | fail))
    | (refine gateO ?_; (first | refine m14 ?_ | (refine m07 ?_; (first | refine m15 ?_ | refine m16 ?_ | refine l_FL (FL.app hX _) (by omega) ?_ | refine l_IL (IL.app hKi _) (by omega) ?_ | fail)) | refine b_lenA (by (conv => {lhs; whnf}); done) (by exact hX.len) ?_ | refine b_iaN (by (conv => {lhs; whnf}); done) (by (conv => {lhs; whnf}); done) (by exact hX.len) (by omega) ?_ | refine b_iaN (by (conv => {lhs; whnf}); done) (by (conv => {lhs; whnf}); done) (by exact hKi.len) (by omega) ?_ | refine b_grow (i := 0) (N₀ := []) (by (conv => {lhs; whnf}); done) (by (conv => {lhs; whnf}); done) (by exact rfl) (by exact rfl) (by simp) (by omega) (by exact rfl) (by exact rfl) (l' := fl (rml (fun i => scaleF (xl.getD i 0) (clK (kl.getD i 0))) (k + 1))) (by exact rml_fl (fun i => scaleF (xl.getD i 0) (clK (kl.getD i 0))) k) ?_ | (refine m00 ?_; (first | refine v_to ((k + 1 : Nat) : Int) (by omega) (by omega) ?_ | refine m47 ?_ | refine m48 ?_ | refine m49 ?_ | refine m50 ?_ | refine v_k ?_ | refine m51 ?_ | fail)) | refine m42 ?_ | refine b_assignI ?_ | refine b_assignN ?_ | refine m08 ?_ | refine b_callB ?_ | refine b_lenA (by (conv => {lhs; whnf}); done) (by first | rfl | assumption) ?_ | refine b_bslZ (by exact rfl) (by exact rfl) (by decide) ?_ | fail))
    | (refine gateD ?_; (first | refine m36 ?_ | refine d_nil ?_ | fail))
    | (refine gateC ?_; (first | refine k_lt ?_ | refine k_fz ?_ | refine k_lb (by (conv => {lhs; whnf}); done) ?_ | refine k_ms ?_ | refine k_bx (by exact rfl) (by exact rfl) ?_ | refine m34 ?_ | refine m35 ?_ | refine m33 ?_ | refine k_mn ?_ | refine m56 ?_ | refine k_mnF ?_ | refine k_mnL (by exact rfl) ?_ | fail))
    | (refine gateT ?_; (first | refine b_thn ?_ | refine b_thr ?_ | refine b_the ?_ | fail))
    | (refine gateX ?_; (first | refine b_seq ?_ | refine b_region ?_ | (refine m06 ?_; (first | refine c_T ?_ | refine c_F ?_ | refine c_P ?_ ?_ | refine c_B ?_ ?_ | fail)) | refine b_ret ?_ | refine b_skip ?_ | refine b_block ?_ | refine b_exit ?_ | refine b_draw (id := 5) [] [11] [(0, .lt), (1, .lt), (2, .lt), (3, .lt), (4, .ld true), (5, .lt), (6, .lt), (7, .lt), (8, .ld true), (9, .mn true), (10, .fz), (11, .mn false), (12, .lt)] (by kernel_rfl) ?_ | (refine b_loop [0, 1, 5, 6] xl.length (fun k => ⟨[(0, .val X), (1, .val Kv), (5, .val (gV H.length 0 k)), (6, .val (.int .i64 ((k : Nat) : Int)))], [], H ++ ([] ++ gN (fl (rml (fun i => scaleF (xl.getD i 0) (clK (kl.getD i 0))) k)))⟩) (by exact rfl) ?_ ?_ <;> (first | intro k hk K hK | intro K) <;> (try dsimp only at *)) | fail))
    | refine m21 ?_
    | refine a_nil ?_
    | (refine gateK ?_; (first | refine c_call (rscale_c _ _ _) (OldOk.app (by simp)) ?_ | fail))
    | refine m44 ?_
    | refine m40 ?_
    | (refine gk_nilN (by (conv => {lhs; simp only [List.nil_append, List.cons_append]}); done) ?_; first | refine ⟨by exact rfl, ?_⟩ | skip)
    | refine gk_nil ?_
    | (intro N' hN'; simp only [List.nil_append, List.cons_append] at hN'; subst hN')
    | (refine gateB ?_; (first | refine b_bln ?_ | refine b_blr ?_ | refine b_ble ?_ | refine m57 ?_ | fail))
    | (refine gateL ?_; (first | refine lp_n ?_ | refine lp_r ?_ | refine lp_e ?_ | fail))
    | (refine pr_k (by exact rfl) ?_; first | exact hK | fail | (exfalso; first | omega | (simp_all; done) | (simp_all; omega)))
    | (refine gateQ ?_; refine m05 ?_)
    | (refine gateR ?_; (first | refine m04 ?_ | refine m02 ?_ | refine m03 ?_ | refine rk_nil ?_ | fail))
    | intro _)
  all_goals first
    | (refine rv_fr rfl ?_; exact gV_fr (N₀ := []) (i := 0) rfl rfl (by simp) (by rw [mxL_fl]; exact Nat.zero_le _))


theorem rshift_c (H : List (List AV)) (X : AV) (f : Nat → Nat) (n : Nat) (hX : FL H X (rml f n)) (Kv : AV) (kl : List Int) (hK : IL H Kv kl) (hk : kl.length = n) (hn : n ≤ 64) : CSpec Try.prog 40 [X, Kv] H (.sl none n (fl (rml (shF f kl n) n))) H := by
  have h := rshift_l H X (rml f n) hX Kv kl hK (by simpa using hk) (by simp; omega)
  rw [rml_len] at h
  rwa [rml_congr (g' := shF f kl n) (fun i hi => by rw [rml_get hi]; unfold shF; rw [if_pos hi])] at h
theorem rshift_x (H : List (List AV)) (X : AV) (xl : List Nat) (hX : FL H X xl) (n : Nat) (hx : xl.length = n) (Kv : AV) (kl : List Int) (hK : IL H Kv kl) (hk : kl.length = n) (hn : n ≤ 64) : CSpec Try.prog 40 [X, Kv] H (.sl none n (fl (rml (shF (fun i => xl.getD i 0) kl n) n))) H := by
  subst hx
  have h := rshift_l H X xl hX Kv kl hK hk (by omega)
  rwa [rml_congr (g' := shF (fun i => xl.getD i 0) kl xl.length) (fun i hi => by unfold shF; rw [if_pos hi])] at h
set_option maxHeartbeats 4000000 in
theorem zero_f (H : List (List AV)) (A : AV) (a : Nat → Nat → Nat) (n : Nat) (hA : FL H A (rmA a n n)) (hn : n ≤ 64) (hz : ∀ k, k < n → feq (a k k) 0 = false) :
    CSpec Try.prog 31 [mM A n n] H (.bool false) H := by
  refine .mk (fun args w => Try.call31 args w) (Spec.intro' (fn := Try.f31) Try.func31 rfl (by kernel_rfl) (by simp) false [] (draw := drawX Try.prog ⟨false, _, []⟩) dOk ?_)
  simp only [argE, Nat.reduceAdd]
  repeat' (first
    | (refine gateE ?_; (first | refine b_c0 ?_ | refine b_nil ?_ | fail))
    | (refine gateO ?_; (first | refine m14 ?_ | (refine m17 ?_; first | refine m19 ?_ | refine m18 ?_) | (refine m07 ?_; (first | refine m15 ?_ | refine m16 ?_ | fail)) | (refine m45 ?_; (first | refine v_to ((k + 1 : Nat) : Int) (by omega) (by omega) ?_ | refine v_bbT (by exact rfl) ?_ | refine v_k ?_ | fail)) | (refine m00 ?_; (first | refine v_to ((k + 1 : Nat) : Int) (by omega) (by omega) ?_ | refine m52 ?_ | refine m53 ?_ | refine v_eP ?_ | refine m47 ?_ | refine m48 ?_ | refine m49 ?_ | refine m50 ?_ | refine v_k ?_ | refine m51 ?_ | fail)) | refine m42 ?_ | refine b_assignI ?_ | refine b_assignN ?_ | refine m08 ?_ | refine b_callB ?_ | refine m01 ?_ | fail))
    | (refine gateT ?_; (first | refine b_thn ?_ | refine b_thr ?_ | refine b_the ?_ | fail))
    | (refine gateX ?_; (first | refine b_seq ?_ | refine b_region ?_ | (refine m06 ?_; (first | refine c_T ?_ | refine c_F ?_ | refine c_P ?_ ?_ | refine c_B ?_ ?_ | fail)) | refine b_ret ?_ | refine b_skip ?_ | refine b_block ?_ | refine b_exit ?_ | (refine b_loop [1, 3] n (fun k => ⟨[(1, .loc 1 0), (3, .val (.int .i64 ((k : Nat) : Int)))], [(1, [.int .i64 (n : Int), .int .i64 (n : Int), A])], H ++ []⟩) (by exact rfl) ?_ ?_ <;> (first | intro k hk K hK | intro K) <;> (try dsimp only at *)) | fail))
    | refine m21 ?_
    | refine a_nil ?_
    | (refine gateK ?_; (first | refine c_call (tat_m _ _ a n n (FL.app hA _) (by omega) (by omega) k k (by omega) (by omega)) (OldOk.app (by simp)) ?_ | refine c_call (tat_m _ _ a n n (FL.app hA _) (by omega) (by omega) z z (by omega) (by omega)) (OldOk.app (by simp)) ?_ | fail))
    | (refine gateB ?_; (first | refine b_bln ?_ | refine b_blr ?_ | refine b_ble ?_ | refine m57 ?_ | fail))
    | (refine gateL ?_; (first | refine lp_n ?_ | refine lp_r ?_ | refine lp_e ?_ | fail))
    | (refine pr_k (by exact rfl) ?_; first | exact hK | (exfalso; simp only [show cn 0 = 0 from by decide] at *; have := hz k (by omega); simp_all; done) | (exfalso; first | omega | (simp_all; done) | (simp_all; omega)))
    | (refine gateQ ?_; refine m05 ?_)
    | (refine gateR ?_; (first | refine m04 ?_ | refine m02 ?_ | refine m03 ?_ | refine rk_nil ?_ | fail))
    | intro _)
  all_goals first
    | (exfalso; omega)
    | (exfalso; simp only [show cn 0 = 0 from by decide] at *; have := hz k (by omega); simp_all; done)
    | (exfalso; simp only [show cn 0 = 0 from by decide] at *; simp_all; done)
    | (refine rv_old rfl (by simp [mx, mxL, resOne, aOf, aOf1]) ?_; exact rfl)

set_option maxHeartbeats 4000000 in
theorem zero_t (H : List (List AV)) (A : AV) (a : Nat → Nat → Nat) (n : Nat) (hA : FL H A (rmA a n n)) (hn : n ≤ 64) (z : Nat) (hzn : z < n) (hz : ∀ k, k < z → feq (a k k) 0 = false) (hz1 : feq (a z z) 0 = true) :
    CSpec Try.prog 31 [mM A n n] H (.bool true) H := by
  refine .mk (fun args w => Try.call31 args w) (Spec.intro' (fn := Try.f31) Try.func31 rfl (by kernel_rfl) (by simp) false [] (draw := drawX Try.prog ⟨false, _, []⟩) dOk ?_)
  simp only [argE, Nat.reduceAdd]
  repeat' (first
    | (refine gateE ?_; (first | refine b_c0 ?_ | refine b_nil ?_ | fail))
    | (refine gateO ?_; (first | refine m14 ?_ | (refine m17 ?_; first | refine m19 ?_ | refine m18 ?_) | (refine m07 ?_; (first | refine m15 ?_ | refine m16 ?_ | fail)) | (refine m45 ?_; (first | refine v_to ((k + 1 : Nat) : Int) (by omega) (by omega) ?_ | refine v_bbT (by exact rfl) ?_ | refine v_k ?_ | fail)) | (refine m00 ?_; (first | refine v_to ((k + 1 : Nat) : Int) (by omega) (by omega) ?_ | refine m52 ?_ | refine m53 ?_ | refine v_eP ?_ | refine m47 ?_ | refine m48 ?_ | refine m49 ?_ | refine m50 ?_ | refine v_k ?_ | refine m51 ?_ | fail)) | refine m42 ?_ | refine b_assignI ?_ | refine b_assignN ?_ | refine m08 ?_ | refine b_callB ?_ | refine m01 ?_ | fail))
    | (refine gateT ?_; (first | refine b_thn ?_ | refine b_thr ?_ | refine b_the ?_ | fail))
    | (refine gateX ?_; (first | refine b_seq ?_ | refine b_region ?_ | (refine m06 ?_; (first | refine c_T ?_ | refine c_F ?_ | refine c_P ?_ ?_ | refine c_B ?_ ?_ | fail)) | refine b_ret ?_ | refine b_skip ?_ | refine b_block ?_ | refine b_exit ?_ | (refine b_loop [1, 3] z (fun k => ⟨[(1, .loc 1 0), (3, .val (.int .i64 ((k : Nat) : Int)))], [(1, [.int .i64 (n : Int), .int .i64 (n : Int), A])], H ++ []⟩) (by exact rfl) ?_ ?_ <;> (first | intro k hk K hK | intro K) <;> (try dsimp only at *)) | fail))
    | refine m21 ?_
    | refine a_nil ?_
    | (refine gateK ?_; (first | refine c_call (tat_m _ _ a n n (FL.app hA _) (by omega) (by omega) k k (by omega) (by omega)) (OldOk.app (by simp)) ?_ | refine c_call (tat_m _ _ a n n (FL.app hA _) (by omega) (by omega) z z (by omega) (by omega)) (OldOk.app (by simp)) ?_ | fail))
    | (refine gateB ?_; (first | refine b_bln ?_ | refine b_blr ?_ | refine b_ble ?_ | refine m57 ?_ | fail))
    | (refine gateL ?_; (first | refine lp_n ?_ | refine lp_r ?_ | refine lp_e ?_ | fail))
    | (refine pr_k (by exact rfl) ?_; first | exact hK | (exfalso; simp only [show cn 0 = 0 from by decide] at *; have := hz k (by omega); simp_all; done) | (exfalso; first | omega | (simp_all; done) | (simp_all; omega)))
    | (refine gateQ ?_; refine m05 ?_)
    | (refine gateR ?_; (first | refine m04 ?_ | refine m02 ?_ | refine m03 ?_ | refine rk_nil ?_ | fail))
    | intro _)
  all_goals first
    | (exfalso; omega)
    | (exfalso; simp only [show cn 0 = 0 from by decide] at *; have := hz k (by omega); simp_all; done)
    | (exfalso; simp only [show cn 0 = 0 from by decide] at *; simp_all; done)
    | (refine rv_old rfl (by simp [mx, mxL, resOne, aOf, aOf1]) ?_; exact rfl)


end Go.Sx

set_option linter.unusedVariables false
set_option linter.unusedSimpArgs false
set_option maxRecDepth 20000
namespace Go.Sx
open Go.Proofs

theorem clone_n (H H' : List (List AV)) (X : AV) (f : Nat → Nat) (n : Nat) (hX : FL H X (rml f n)) (hn : n ≤ 64) (hN : NN X) (m : Nat) (hm : H.length = m) (hH : H ++ [fl (rml f n)] = H') : CSpec Try.prog 42 [X] H (.slm m n 0 n 1) H' := by
  have h := clone_k H H' X (rml f n) hX (by simp; omega) hN m hm hH
  rwa [rml_len] at h
attribute [local irreducible] Ex exOps exD opX opE thenX blkX RetQ Spec CSpec Fr condK guardK guardD ckK valK pickK loadK faK callK argK gK fK rK RetV lpX prK
set_option maxHeartbeats 4000000 in
theorem check_1 (H : List (List AV)) (x : Nat × Nat) (l : List Nat) (off rows cols ld : Int) (hI : MI l.length off rows cols ld) (q : Nat × Nat) (la : List Nat) (ao ar ac al : Int) (hJ : MI la.length ao ar ac al) (q' : Nat × Nat) (p : List Int) (hpm : p.length ≤ 2 ^ 30) (Rv : AV) (rl : List Int) (hRl : ∀ H, IL H Rv rl) (Cv : AV) (cl : List Int) (hCl : ∀ H, IL H Cv cl) (hbad : ¬ (GoodP l.length off rows cols ld ∧ (GoodP la.length ao ar ac al ∧ ar = ac ∧ ar = (p.length : Int) ∧ pivP p))) :
    CSpec Try.prog 13 [(.agg [aD x l, .int .i64 off, .int .i64 rows, .int .i64 cols, .int .i64 ld, aD q la, .int .i64 ao, .int .i64 ar, .int .i64 ac, .int .i64 al, aI q' p, Rv, Cv])] H (.int .i64 1) H := by
  obtain ⟨hm, ho1, ho2, hr1, hr2, hc1, hc2, hl1, hl2⟩ := id hI
  obtain ⟨hm', ho1', ho2', hr1', hr2', hc1', hc2', hl1', hl2'⟩ := id hJ
  refine .mk (fun args w => Try.call13 args w) (Spec.intro' (fn := Try.f13) Try.func13 rfl (by kernel_rfl) (by simp) false [] (draw := drawX Try.prog ⟨false, _, []⟩) dOk ?_)
  simp only [argE, Nat.reduceAdd]
  repeat' (first
    | (refine gateE ?_; (first | refine b_c0 ?_ | refine b_nil ?_ | refine m13 ?_ | refine m12 ?_ | refine m11 ?_ | (refine m10 ?_; (first | refine g_TT ?_ | refine g_FF ?_ | refine g_TF ?_ | refine g_FT ?_ | refine g_PT ?_ ?_ | refine g_PF ?_ ?_ | refine g_BT ?_ ?_ | refine g_BF ?_ ?_ | fail)) | (refine m09 ?_; (first | refine g_TT ?_ | refine g_FF ?_ | refine g_TF ?_ | refine g_FT ?_ | refine g_PT ?_ ?_ | refine g_PF ?_ ?_ | refine g_BT ?_ ?_ | refine g_BF ?_ ?_ | fail)) | refine m38 ?_ | fail))
    | (refine gateO ?_; (first | refine m14 ?_ | (refine m17 ?_; first | refine m19 ?_ | refine m18 ?_) | (refine m07 ?_; (first | refine m15 ?_ | refine m16 ?_ | fail)) | refine b_lenA (by (conv => {lhs; whnf}); done) (by exact (hRl []).len) ?_ | refine b_lenA (by (conv => {lhs; whnf}); done) (by exact (hCl []).len) ?_ | refine b_lenA (by (conv => {lhs; whnf}); done) (by exact (aI_IL [] q' p).len) ?_ | (refine m00 ?_; (first | refine m54 ?_ | refine m55 ?_ | refine v_neP ?_ | refine m47 ?_ | refine m48 ?_ | refine m49 ?_ | refine m50 ?_ | refine v_nT ?_ | refine v_nF ?_ | refine v_nP ?_ | refine v_k ?_ | refine m51 ?_ | fail)) | (refine m22 ?_; (first | refine m26 ?_ | refine m27 ?_ | fail)) | refine m42 ?_ | refine b_assignI ?_ | refine b_assignN ?_ | refine m08 ?_ | (refine m20 ?_; (first | refine m54 ?_ | refine m55 ?_ | refine v_neP ?_ | refine m47 ?_ | refine m48 ?_ | refine m49 ?_ | refine m50 ?_ | refine v_nT ?_ | refine v_nF ?_ | refine v_nP ?_ | refine v_k ?_ | refine m51 ?_ | fail)) | refine b_callB ?_ | refine b_lenA (by (conv => {lhs; whnf}); done) (by first | rfl | assumption) ?_ | refine m23 ?_ | refine m01 ?_ | fail))
    | (refine gateT ?_; (first | refine b_thn ?_ | refine b_thr ?_ | refine b_the ?_ | fail))
    | (refine gateX ?_; (first | refine b_seq ?_ | refine b_region ?_ | (refine m06 ?_; (first | refine c_T ?_ | refine c_F ?_ | refine c_P ?_ ?_ | refine c_B ?_ ?_ | fail)) | refine b_ret ?_ | refine b_skip ?_ | refine b_block ?_ | refine b_exit ?_ | fail))
    | refine m43 ?_
    | refine a_consI ?_
    | refine m21 ?_
    | refine a_nil ?_
    | (refine gateK ?_; (first | refine c_call (good_c _ (aD x l) l.length off rows cols ld (aD_len x l) hI) (OldOk.app (by simp)) ?_ | refine c_call (lright_c _ (aD q la) la (aD_FL _ q la) ao ar ac al hJ (aI q' p) p (aI_IL _ q' p) hpm) (OldOk.app (by simp)) ?_ | fail))
    | (refine gateB ?_; (first | refine b_bln ?_ | refine b_blr ?_ | refine b_ble ?_ | refine m57 ?_ | fail))
    | (refine gateQ ?_; refine m05 ?_)
    | (refine gateR ?_; (first | refine m04 ?_ | refine m02 ?_ | refine m03 ?_ | refine rk_nil ?_ | fail))
    | intro _)
  all_goals first
    | (exfalso; contradiction)
    | (exfalso; omega)
    | (exfalso; simp_all; done)
    | (refine rv_old rfl (by simp [mx, mxL, resOne, aOf, aOf1]) ?_; exact rfl)

set_option maxHeartbeats 4000000 in
theorem check_3 (H : List (List AV)) (x : Nat × Nat) (l : List Nat) (off rows cols ld : Int) (hI : MI l.length off rows cols ld) (q : Nat × Nat) (la : List Nat) (ao ar ac al : Int) (hJ : MI la.length ao ar ac al) (q' : Nat × Nat) (p : List Int) (hpm : p.length ≤ 2 ^ 30) (Rv : AV) (rl : List Int) (hRl : ∀ H, IL H Rv rl) (Cv : AV) (cl : List Int) (hCl : ∀ H, IL H Cv cl) (hg : GoodP l.length off rows cols ld) (hr : (GoodP la.length ao ar ac al ∧ ar = ac ∧ ar = (p.length : Int) ∧ pivP p)) (hs : ¬ (cols = rows ∧ 1 ≤ rows ∧ rows ≤ 64 ∧ ar = rows ∧ (rl.length : Int) = rows ∧ (cl.length : Int) = rows)) :
    CSpec Try.prog 13 [(.agg [aD x l, .int .i64 off, .int .i64 rows, .int .i64 cols, .int .i64 ld, aD q la, .int .i64 ao, .int .i64 ar, .int .i64 ac, .int .i64 al, aI q' p, Rv, Cv])] H (.int .i64 3) H := by
  obtain ⟨hm, ho1, ho2, hr1, hr2, hc1, hc2, hl1, hl2⟩ := id hI
  obtain ⟨hm', ho1', ho2', hr1', hr2', hc1', hc2', hl1', hl2'⟩ := id hJ
  refine .mk (fun args w => Try.call13 args w) (Spec.intro' (fn := Try.f13) Try.func13 rfl (by kernel_rfl) (by simp) false [] (draw := drawX Try.prog ⟨false, _, []⟩) dOk ?_)
  simp only [argE, Nat.reduceAdd]
  repeat' (first
    | (refine gateE ?_; (first | refine b_c0 ?_ | refine b_nil ?_ | refine m13 ?_ | refine m12 ?_ | refine m11 ?_ | (refine m10 ?_; (first | refine g_TT ?_ | refine g_FF ?_ | refine g_TF ?_ | refine g_FT ?_ | refine g_PT ?_ ?_ | refine g_PF ?_ ?_ | refine g_BT ?_ ?_ | refine g_BF ?_ ?_ | fail)) | (refine m09 ?_; (first | refine g_TT ?_ | refine g_FF ?_ | refine g_TF ?_ | refine g_FT ?_ | refine g_PT ?_ ?_ | refine g_PF ?_ ?_ | refine g_BT ?_ ?_ | refine g_BF ?_ ?_ | fail)) | refine m38 ?_ | fail))
    | (refine gateO ?_; (first | refine m14 ?_ | (refine m17 ?_; first | refine m19 ?_ | refine m18 ?_) | (refine m07 ?_; (first | refine m15 ?_ | refine m16 ?_ | fail)) | refine b_lenA (by (conv => {lhs; whnf}); done) (by exact (hRl []).len) ?_ | refine b_lenA (by (conv => {lhs; whnf}); done) (by exact (hCl []).len) ?_ | refine b_lenA (by (conv => {lhs; whnf}); done) (by exact (aI_IL [] q' p).len) ?_ | (refine m00 ?_; (first | refine m54 ?_ | refine m55 ?_ | refine v_neP ?_ | refine m47 ?_ | refine m48 ?_ | refine m49 ?_ | refine m50 ?_ | refine v_nT ?_ | refine v_nF ?_ | refine v_nP ?_ | refine v_k ?_ | refine m51 ?_ | fail)) | (refine m22 ?_; (first | refine m26 ?_ | refine m27 ?_ | fail)) | refine m42 ?_ | refine b_assignI ?_ | refine b_assignN ?_ | refine m08 ?_ | (refine m20 ?_; (first | refine m54 ?_ | refine m55 ?_ | refine v_neP ?_ | refine m47 ?_ | refine m48 ?_ | refine m49 ?_ | refine m50 ?_ | refine v_nT ?_ | refine v_nF ?_ | refine v_nP ?_ | refine v_k ?_ | refine m51 ?_ | fail)) | refine b_callB ?_ | refine b_lenA (by (conv => {lhs; whnf}); done) (by first | rfl | assumption) ?_ | refine m23 ?_ | refine m01 ?_ | fail))
    | (refine gateT ?_; (first | refine b_thn ?_ | refine b_thr ?_ | refine b_the ?_ | fail))
    | (refine gateX ?_; (first | refine b_seq ?_ | refine b_region ?_ | (refine m06 ?_; (first | refine c_T ?_ | refine c_F ?_ | refine c_P ?_ ?_ | refine c_B ?_ ?_ | fail)) | refine b_ret ?_ | refine b_skip ?_ | refine b_block ?_ | refine b_exit ?_ | fail))
    | refine m43 ?_
    | refine a_consI ?_
    | refine m21 ?_
    | refine a_nil ?_
    | (refine gateK ?_; (first | refine c_call (good_c _ (aD x l) l.length off rows cols ld (aD_len x l) hI) (OldOk.app (by simp)) ?_ | refine c_call (lright_c _ (aD q la) la (aD_FL _ q la) ao ar ac al hJ (aI q' p) p (aI_IL _ q' p) hpm) (OldOk.app (by simp)) ?_ | fail))
    | (refine gateB ?_; (first | refine b_bln ?_ | refine b_blr ?_ | refine b_ble ?_ | refine m57 ?_ | fail))
    | (refine gateQ ?_; refine m05 ?_)
    | (refine gateR ?_; (first | refine m04 ?_ | refine m02 ?_ | refine m03 ?_ | refine rk_nil ?_ | fail))
    | intro _)
  all_goals first
    | (exfalso; contradiction)
    | (exfalso; omega)
    | (exfalso; simp_all; done)
    | (refine rv_old rfl (by simp [mx, mxL, resOne, aOf, aOf1]) ?_; exact rfl)

set_option maxHeartbeats 4000000 in
theorem check_0 (H : List (List AV)) (x : Nat × Nat) (l : List Nat) (off ld : Int) (n : Nat) (hI : MI l.length off n n ld) (hG : GoodP l.length off n n ld) (q : Nat × Nat) (la : List Nat) (ao al : Int) (hJ : MI la.length ao n n al) (hGa : GoodP la.length ao n n al) (q' : Nat × Nat) (p : List Int) (hpl : p.length = n) (hpv : pivP p) (Rv : AV) (rl : List Int) (hRl : ∀ H, IL H Rv rl) (Cv : AV) (cl : List Int) (hCl : ∀ H, IL H Cv cl) (hrl : rl.length = n) (hcl : cl.length = n) (hn1 : 1 ≤ n) (hn : n ≤ 64) (hz : ∀ k, k < n → feq ((mel la ao al) k k) 0 = false) :
    CSpec Try.prog 13 [(.agg [aD x l, .int .i64 off, .int .i64 (n : Int), .int .i64 (n : Int), .int .i64 ld, aD q la, .int .i64 ao, .int .i64 (n : Int), .int .i64 (n : Int), .int .i64 al, aI q' p, Rv, Cv])] H (.int .i64 0) H := by
  obtain ⟨hm, ho1, ho2, hr1, hr2, hc1, hc2, hl1, hl2⟩ := id hI
  obtain ⟨hm', ho1', ho2', hr1', hr2', hc1', hc2', hl1', hl2'⟩ := id hJ
  refine .mk (fun args w => Try.call13 args w) (Spec.intro' (fn := Try.f13) Try.func13 rfl (by kernel_rfl) (by simp) false [] (draw := drawX Try.prog ⟨false, _, []⟩) dOk ?_)
  simp only [argE, Nat.reduceAdd]
  repeat' (first
    | (refine gateE ?_; (first | refine b_c0 ?_ | refine b_nil ?_ | refine m13 ?_ | refine m12 ?_ | refine m11 ?_ | (refine m10 ?_; (first | refine g_TT ?_ | refine g_FF ?_ | refine g_TF ?_ | refine g_FT ?_ | refine g_PT ?_ ?_ | refine g_PF ?_ ?_ | refine g_BT ?_ ?_ | refine g_BF ?_ ?_ | fail)) | (refine m09 ?_; (first | refine g_TT ?_ | refine g_FF ?_ | refine g_TF ?_ | refine g_FT ?_ | refine g_PT ?_ ?_ | refine g_PF ?_ ?_ | refine g_BT ?_ ?_ | refine g_BF ?_ ?_ | fail)) | refine m38 ?_ | fail))
    | (refine gateO ?_; (first | refine m14 ?_ | (refine m17 ?_; first | refine m19 ?_ | refine m18 ?_) | (refine m07 ?_; (first | refine m15 ?_ | refine m16 ?_ | fail)) | refine b_lenA (by (conv => {lhs; whnf}); done) (by exact (hRl []).len) ?_ | refine b_lenA (by (conv => {lhs; whnf}); done) (by exact (hCl []).len) ?_ | refine b_lenA (by (conv => {lhs; whnf}); done) (by exact (aI_IL [] q' p).len) ?_ | (refine m00 ?_; (first | refine m54 ?_ | refine m55 ?_ | refine v_neP ?_ | refine m47 ?_ | refine m48 ?_ | refine m49 ?_ | refine m50 ?_ | refine v_nT ?_ | refine v_nF ?_ | refine v_nP ?_ | refine v_k ?_ | refine m51 ?_ | fail)) | (refine m22 ?_; (first | refine m26 ?_ | refine m27 ?_ | fail)) | refine m42 ?_ | refine b_assignI ?_ | refine b_assignN ?_ | refine m08 ?_ | (refine m20 ?_; (first | refine m54 ?_ | refine m55 ?_ | refine v_neP ?_ | refine m47 ?_ | refine m48 ?_ | refine m49 ?_ | refine m50 ?_ | refine v_nT ?_ | refine v_nF ?_ | refine v_nP ?_ | refine v_k ?_ | refine m51 ?_ | fail)) | refine b_callB ?_ | refine b_lenA (by (conv => {lhs; whnf}); done) (by first | rfl | assumption) ?_ | refine m23 ?_ | refine m01 ?_ | fail))
    | (refine gateT ?_; (first | refine b_thn ?_ | refine b_thr ?_ | refine b_the ?_ | fail))
    | (refine gateX ?_; (first | refine b_seq ?_ | refine b_region ?_ | (refine m06 ?_; (first | refine c_T ?_ | refine c_F ?_ | refine c_P ?_ ?_ | refine c_B ?_ ?_ | fail)) | refine b_ret ?_ | refine b_skip ?_ | refine b_block ?_ | refine b_exit ?_ | fail))
    | refine m43 ?_
    | refine a_consI ?_
    | refine m21 ?_
    | refine a_nil ?_
    | (refine gateK ?_; (first | refine c_call (good_c _ (aD x l) l.length off n n ld (aD_len x l) hI) (OldOk.app (by simp)) ?_ | refine c_call (lright_t _ (aD q la) la (aD_FL _ q la) ao n al hJ (aI q' p) p (aI_IL _ q' p) (by omega) hGa hpl hpv) (OldOk.app (by simp)) ?_ | refine c_call (diag_g _ n hn (aD q la) la (aD_FL _ q la) ao al hJ hGa (aI q' p) p (aI_IL _ q' p) (by omega) hpl hpv) (OldOk.app (by simp)) ?_ | refine c_call (has_f _ _ (rml (fun i => (mel la ao al) i i) n) (FL.fz _ none (rml (fun i => (mel la ao al) i i) n) |> fun h => by simpa using h) (by simp; omega) (fun k hk => by rw [rml_get (by simpa using hk)]; exact hz k (by simpa using hk))) (OldOk.app (by simp)) ?_ | fail))
    | (refine gateB ?_; (first | refine b_bln ?_ | refine b_blr ?_ | refine b_ble ?_ | refine m57 ?_ | fail))
    | (refine gateQ ?_; refine m05 ?_)
    | (refine gateR ?_; (first | refine m04 ?_ | refine m02 ?_ | refine m03 ?_ | refine rk_nil ?_ | fail))
    | intro _)
  all_goals first
    | (exfalso; contradiction)
    | (exfalso; omega)
    | (exfalso; simp_all; done)
    | (refine rv_old rfl (by simp [mx, mxL, resOne, aOf, aOf1]) ?_; exact rfl)

set_option maxHeartbeats 4000000 in
theorem check_4 (H : List (List AV)) (x : Nat × Nat) (l : List Nat) (off ld : Int) (n : Nat) (hI : MI l.length off n n ld) (hG : GoodP l.length off n n ld) (q : Nat × Nat) (la : List Nat) (ao al : Int) (hJ : MI la.length ao n n al) (hGa : GoodP la.length ao n n al) (q' : Nat × Nat) (p : List Int) (hpl : p.length = n) (hpv : pivP p) (Rv : AV) (rl : List Int) (hRl : ∀ H, IL H Rv rl) (Cv : AV) (cl : List Int) (hCl : ∀ H, IL H Cv cl) (hrl : rl.length = n) (hcl : cl.length = n) (hn1 : 1 ≤ n) (hn : n ≤ 64) (z : Nat) (hzn : z < n) (hz : ∀ k, k < z → feq ((mel la ao al) k k) 0 = false) (hz1 : feq ((mel la ao al) z z) 0 = true) :
    CSpec Try.prog 13 [(.agg [aD x l, .int .i64 off, .int .i64 (n : Int), .int .i64 (n : Int), .int .i64 ld, aD q la, .int .i64 ao, .int .i64 (n : Int), .int .i64 (n : Int), .int .i64 al, aI q' p, Rv, Cv])] H (.int .i64 4) H := by
  obtain ⟨hm, ho1, ho2, hr1, hr2, hc1, hc2, hl1, hl2⟩ := id hI
  obtain ⟨hm', ho1', ho2', hr1', hr2', hc1', hc2', hl1', hl2'⟩ := id hJ
  refine .mk (fun args w => Try.call13 args w) (Spec.intro' (fn := Try.f13) Try.func13 rfl (by kernel_rfl) (by simp) false [] (draw := drawX Try.prog ⟨false, _, []⟩) dOk ?_)
  simp only [argE, Nat.reduceAdd]
  repeat' (first
    | (refine gateE ?_; (first | refine b_c0 ?_ | refine b_nil ?_ | refine m13 ?_ | refine m12 ?_ | refine m11 ?_ | (refine m10 ?_; (first | refine g_TT ?_ | refine g_FF ?_ | refine g_TF ?_ | refine g_FT ?_ | refine g_PT ?_ ?_ | refine g_PF ?_ ?_ | refine g_BT ?_ ?_ | refine g_BF ?_ ?_ | fail)) | (refine m09 ?_; (first | refine g_TT ?_ | refine g_FF ?_ | refine g_TF ?_ | refine g_FT ?_ | refine g_PT ?_ ?_ | refine g_PF ?_ ?_ | refine g_BT ?_ ?_ | refine g_BF ?_ ?_ | fail)) | refine m38 ?_ | fail))
    | (refine gateO ?_; (first | refine m14 ?_ | (refine m17 ?_; first | refine m19 ?_ | refine m18 ?_) | (refine m07 ?_; (first | refine m15 ?_ | refine m16 ?_ | fail)) | refine b_lenA (by (conv => {lhs; whnf}); done) (by exact (hRl []).len) ?_ | refine b_lenA (by (conv => {lhs; whnf}); done) (by exact (hCl []).len) ?_ | refine b_lenA (by (conv => {lhs; whnf}); done) (by exact (aI_IL [] q' p).len) ?_ | (refine m00 ?_; (first | refine m54 ?_ | refine m55 ?_ | refine v_neP ?_ | refine m47 ?_ | refine m48 ?_ | refine m49 ?_ | refine m50 ?_ | refine v_nT ?_ | refine v_nF ?_ | refine v_nP ?_ | refine v_k ?_ | refine m51 ?_ | fail)) | (refine m22 ?_; (first | refine m26 ?_ | refine m27 ?_ | fail)) | refine m42 ?_ | refine b_assignI ?_ | refine b_assignN ?_ | refine m08 ?_ | (refine m20 ?_; (first | refine m54 ?_ | refine m55 ?_ | refine v_neP ?_ | refine m47 ?_ | refine m48 ?_ | refine m49 ?_ | refine m50 ?_ | refine v_nT ?_ | refine v_nF ?_ | refine v_nP ?_ | refine v_k ?_ | refine m51 ?_ | fail)) | refine b_callB ?_ | refine b_lenA (by (conv => {lhs; whnf}); done) (by first | rfl | assumption) ?_ | refine m23 ?_ | refine m01 ?_ | fail))
    | (refine gateT ?_; (first | refine b_thn ?_ | refine b_thr ?_ | refine b_the ?_ | fail))
    | (refine gateX ?_; (first | refine b_seq ?_ | refine b_region ?_ | (refine m06 ?_; (first | refine c_T ?_ | refine c_F ?_ | refine c_P ?_ ?_ | refine c_B ?_ ?_ | fail)) | refine b_ret ?_ | refine b_skip ?_ | refine b_block ?_ | refine b_exit ?_ | fail))
    | refine m43 ?_
    | refine a_consI ?_
    | refine m21 ?_
    | refine a_nil ?_
    | (refine gateK ?_; (first | refine c_call (good_c _ (aD x l) l.length off n n ld (aD_len x l) hI) (OldOk.app (by simp)) ?_ | refine c_call (lright_t _ (aD q la) la (aD_FL _ q la) ao n al hJ (aI q' p) p (aI_IL _ q' p) (by omega) hGa hpl hpv) (OldOk.app (by simp)) ?_ | refine c_call (diag_g _ n hn (aD q la) la (aD_FL _ q la) ao al hJ hGa (aI q' p) p (aI_IL _ q' p) (by omega) hpl hpv) (OldOk.app (by simp)) ?_ | refine c_call (has_t _ _ (rml (fun i => (mel la ao al) i i) n) (FL.fz _ none (rml (fun i => (mel la ao al) i i) n) |> fun h => by simpa using h) (by simp; omega) z (by simpa using hzn) (fun k hk => by rw [rml_get (by omega)]; exact hz k hk) (by rw [rml_get hzn]; exact hz1)) (OldOk.app (by simp)) ?_ | fail))
    | (refine gateB ?_; (first | refine b_bln ?_ | refine b_blr ?_ | refine b_ble ?_ | refine m57 ?_ | fail))
    | (refine gateQ ?_; refine m05 ?_)
    | (refine gateR ?_; (first | refine m04 ?_ | refine m02 ?_ | refine m03 ?_ | refine rk_nil ?_ | fail))
    | intro _)
  all_goals first
    | (exfalso; contradiction)
    | (exfalso; omega)
    | (exfalso; simp_all; done)
    | (refine rv_old rfl (by simp [mx, mxL, resOne, aOf, aOf1]) ?_; exact rfl)

set_option maxHeartbeats 4000000 in
theorem scaled_f (H : List (List AV)) (x : Nat × Nat) (l : List Nat) (off ld : Int) (n : Nat) (hI : MI l.length off n n ld) (hG : GoodP l.length off n n ld) (q : Nat × Nat) (la : List Nat) (ao al : Int) (hJ : MI la.length ao n n al) (hGa : GoodP la.length ao n n al) (q' : Nat × Nat) (p : List Int) (hpl : p.length = n) (hpv : pivP p) (Rv : AV) (rl : List Int) (hRl : ∀ H, IL H Rv rl) (Cv : AV) (cl : List Int) (hCl : ∀ H, IL H Cv cl) (hrl : rl.length = n) (hcl : cl.length = n) (hn1 : 1 ≤ n) (hn : n ≤ 64) (hz : ∀ k, k < n → feq ((mel la ao al) k k) 0 = false) (X : AV) (f : Nat → Nat) (hX : ∀ H', FL (H ++ H') X (rml f n)) (hN : NN X) (Av : AV) (kl : List Int) (hA : ∀ H', IL H' Av kl) (hAm : mx Av ≤ H.length) (hkl : kl.length = n) (Bv : AV) (ml : List Int) (hB : ∀ H', IL H' Bv ml) (hBm : mx Bv ≤ H.length) (hml : ml.length = n) (H' : List (List AV)) (hH : H ++ [fl (rml (shF (up2 (mel la ao al) (lo1 (mel la ao al) (tkF p (shF f kl n) n) n) n n) ml n) n)] = H') (m : Nat) (hm9 : H.length = m) :
    CSpec Try.prog 32 [(.agg [aD x l, .int .i64 off, .int .i64 (n : Int), .int .i64 (n : Int), .int .i64 ld, aD q la, .int .i64 ao, .int .i64 (n : Int), .int .i64 (n : Int), .int .i64 al, aI q' p, Rv, Cv]), X, Av, Bv, .func 33 [] []] H (.tup [.slm m n 0 n 1, .int .i64 0]) H' := by
  subst hH hm9
  have hXl : slen X = some n := by have h9 := (hX []).len; rwa [rml_len] at h9
  refine .mk (fun args w => Try.call32 args w) (Spec.intro' (fn := Try.f32) Try.func32 rfl (by kernel_rfl) (by simp) false [] (draw := drawX Try.prog ⟨false, _, []⟩) dOk ?_)
  simp only [argE, Nat.reduceAdd]
  repeat' (first
    | (refine gateE ?_; (first | refine b_c0 ?_ | refine b_nil ?_ | refine m13 ?_ | refine m12 ?_ | refine m11 ?_ | (refine m10 ?_; (first | refine g_TT ?_ | refine g_FF ?_ | refine g_TF ?_ | refine g_FT ?_ | refine g_PT ?_ ?_ | refine g_PF ?_ ?_ | refine g_BT ?_ ?_ | refine g_BF ?_ ?_ | fail)) | (refine m09 ?_; (first | refine g_TT ?_ | refine g_FF ?_ | refine g_TF ?_ | refine g_FT ?_ | refine g_PT ?_ ?_ | refine g_PF ?_ ?_ | refine g_BT ?_ ?_ | refine g_BF ?_ ?_ | fail)) | refine m38 ?_ | fail))
    | (refine gateO ?_; (first | refine m14 ?_ | (refine m17 ?_; first | refine m19 ?_ | refine m18 ?_) | (refine m07 ?_; (first | refine m15 ?_ | refine m16 ?_ | fail)) | refine b_lenA (by (conv => {lhs; whnf}); done) (by exact hXl) ?_ | (refine m45 ?_; (first | refine v_bbT (by exact rfl) ?_ | refine v_k ?_ | fail)) | (refine m00 ?_; (first | refine m52 ?_ | refine m53 ?_ | refine v_eP ?_ | refine m54 ?_ | refine m55 ?_ | refine v_neP ?_ | refine m49 ?_ | refine m50 ?_ | refine v_k ?_ | refine m51 ?_ | fail)) | (refine m22 ?_; (first | refine m26 ?_ | refine m27 ?_ | fail)) | refine m42 ?_ | refine b_assignI ?_ | refine b_assignN ?_ | refine m08 ?_ | refine b_callB ?_ | refine m39 ?_ | refine b_lenA (by (conv => {lhs; whnf}); done) (by first | rfl | assumption) ?_ | refine m25 ?_ | refine m01 ?_ | refine m24 ?_ | refine b_build ?_ | fail))
    | (refine gateT ?_; (first | refine b_thn ?_ | refine b_thr ?_ | refine b_the ?_ | fail))
    | (refine gateX ?_; (first | refine b_seq ?_ | refine b_region ?_ | (refine m06 ?_; (first | refine c_T ?_ | refine c_F ?_ | refine c_P ?_ ?_ | refine c_B ?_ ?_ | fail)) | refine b_ret ?_ | refine b_skip ?_ | refine b_block ?_ | refine b_exit ?_ | fail))
    | refine m21 ?_
    | refine a_nil ?_
    | (refine gateK ?_; (first | refine c_call (check_0 _ x l off ld n hI hG q la ao al hJ hGa q' p hpl hpv Rv rl hRl Cv cl hCl hrl hcl hn1 hn hz) (OldOk.app (by simp)) ?_ | refine c_call (clone_n _ _ X f n (hX _) hn hN _ (by (conv => {lhs; simp only [List.length_append, List.length_cons, List.length_nil, List.length_set, Nat.reduceAdd, Nat.zero_add]}); done) (by (conv => {lhs; simp only [List.append_assoc, List.cons_append, List.nil_append]}); done)) (OldOk.app (by simp)) ?_ | refine c_call (shift_w H n hn f Av kl hA hAm hkl) (OldOk.app (by simp)) ?_ | refine c_call (slv_w H n hn (shF f kl n) q la ao al hJ hGa (aI q' p) p (fun H => aI_IL H q' p) hpl hpv hz) (OldOk.app (by simp)) ?_ | refine c_call (shift_w H n hn (up2 (mel la ao al) (lo1 (mel la ao al) (tkF p (shF f kl n) n) n) n n) Bv ml hB hBm hml) (OldOk.app (by simp)) ?_ | fail))
    | refine m58 ?_
    | refine fk_nil ?_
    | refine m44 ?_
    | refine m40 ?_
    | (refine gk_nilN (by (conv => {lhs; simp only [List.nil_append, List.cons_append]}); done) ?_; first | refine ⟨by exact rfl, ?_⟩ | skip)
    | refine gk_nil ?_
    | (intro N' hN'; simp only [List.nil_append, List.cons_append] at hN'; subst hN')
    | (refine gateQ ?_; refine m05 ?_)
    | (refine gateR ?_; (first | refine m04 ?_ | refine m02 ?_ | refine m03 ?_ | refine rk_nil ?_ | fail))
    | intro _)
  all_goals first
    | (exfalso; omega)
    | exact rv_kp (j := 0) (cs := fl (rml (shF (up2 (mel la ao al) (lo1 (mel la ao al) (tkF p (shF f kl n) n) n) n n) ml n) n)) rfl rfl (by rw [mxL_fl]; exact Nat.zero_le _) (Fr.tup (Frs.cons (Fr.kp (j := 0) (cs := fl (rml (shF (up2 (mel la ao al) (lo1 (mel la ao al) (tkF p (shF f kl n) n) n) n n) ml n) n)) rfl (hg_new rfl rfl) (by simp)) (Frs.cons (Fr.old (by simp [mx])) Frs.nil)))

end Go.Sx

set_option linter.unusedVariables false
set_option linter.unusedSimpArgs false
set_option maxRecDepth 20000
namespace Go.Sx
open Go.Proofs
theorem FLz (H : List (List AV)) (l : List Nat) (n : Nat) (h : l.length = n) : FL H (.sl none n (fl l)) l := by subst h; exact FL.fz H none l
attribute [local irreducible] Ex exOps exD opX opE thenX blkX RetQ Spec CSpec Fr condK guardK guardD ckK valK pickK loadK faK callK argK gK fK rK RetV lpX prK
set_option maxHeartbeats 4000000 in
theorem sv_ok (H : List (List AV)) (x : Nat × Nat) (l : List Nat) (off ld : Int) (n : Nat) (hI : MI l.length off n n ld) (hG : GoodP l.length off n n ld) (q : Nat × Nat) (la : List Nat) (ao al : Int) (hJ : MI la.length ao n n al) (hGa : GoodP la.length ao n n al) (q' : Nat × Nat) (p : List Int) (hpl : p.length = n) (hpv : pivP p) (Rv : AV) (rl : List Int) (hRl : ∀ H, IL H Rv rl) (Cv : AV) (cl : List Int) (hCl : ∀ H, IL H Cv cl) (hrl : rl.length = n) (hcl : cl.length = n) (hn1 : 1 ≤ n) (hn : n ≤ 64) (hz : ∀ k, k < n → feq ((mel la ao al) k k) 0 = false) (X : AV) (f : Nat → Nat) (hX : ∀ H', FL (H ++ H') X (rml f n)) (hN : NN X) (hRm : mx Rv ≤ H.length) (hCm : mx Cv ≤ H.length) (H' : List (List AV)) (hH : H ++ [fl (rml (shF (up2 (mel la ao al) (lo1 (mel la ao al) (tkF p (shF f rl n) n) n) n n) cl n) n)] = H') (m : Nat) (hm9 : H.length = m) :
    CSpec Try.prog 10 [(.agg [aD x l, .int .i64 off, .int .i64 (n : Int), .int .i64 (n : Int), .int .i64 ld, aD q la, .int .i64 ao, .int .i64 (n : Int), .int .i64 (n : Int), .int .i64 al, aI q' p, Rv, Cv]), X] H (.tup [.slm m n 0 n 1, .int .i64 0]) H' := by
  subst hH hm9
  refine .mk (fun args w => Try.call10 args w) (Spec.intro' (fn := Try.f10) Try.func10 rfl (by kernel_rfl) (by simp) false [] (draw := drawX Try.prog ⟨false, _, []⟩) dOk ?_)
  simp only [argE, Nat.reduceAdd]
  repeat' (first
    | (refine gateE ?_; (first | refine b_c0 ?_ | refine b_nil ?_ | fail))
    | (refine gateO ?_; (first | refine m14 ?_ | (refine m17 ?_; first | refine m19 ?_ | refine m18 ?_) | (refine m07 ?_; (first | refine m15 ?_ | refine m16 ?_ | fail)) | refine m42 ?_ | refine b_assignI ?_ | refine b_assignN ?_ | refine m08 ?_ | refine b_callB ?_ | refine m23 ?_ | refine m01 ?_ | fail))
    | (refine gateT ?_; (first | refine b_thn ?_ | refine b_thr ?_ | refine b_the ?_ | fail))
    | (refine gateX ?_; (first | refine b_seq ?_ | refine b_region ?_ | (refine m06 ?_; (first | refine c_T ?_ | refine c_F ?_ | refine c_P ?_ ?_ | refine c_B ?_ ?_ | fail)) | refine b_ret ?_ | refine b_skip ?_ | refine b_block ?_ | refine b_exit ?_ | fail))
    | refine m21 ?_
    | refine a_nil ?_
    | (refine gateK ?_; (first | refine c_call (scaled_f _ x l off ld n hI hG q la ao al hJ hGa q' p hpl hpv Rv rl hRl Cv cl hCl hrl hcl hn1 hn hz X f (fun N => by rw [List.append_assoc]; exact hX _) hN Rv rl hRl (by simp; omega) hrl Cv cl hCl (by simp; omega) hcl _ (by (conv => {lhs; simp only [List.append_assoc, List.cons_append, List.nil_append]}); done) _ (by (conv => {lhs; simp only [List.length_append, List.length_cons, List.length_nil, List.length_set, Nat.reduceAdd, Nat.zero_add]}); done)) (OldOk.app (by simp)) ?_ | fail))
    | (refine gateQ ?_; refine m05 ?_)
    | (refine gateR ?_; (first | refine m04 ?_ | refine m02 ?_ | refine m03 ?_ | refine rk_nil ?_ | fail))
    | intro _)
  all_goals first
    | exact rv_kp (j := 0) (cs := fl (rml (shF (up2 (mel la ao al) (lo1 (mel la ao al) (tkF p (shF f rl n) n) n) n n) cl n) n)) rfl rfl (by rw [mxL_fl]; exact Nat.zero_le _) (Fr.tup (Frs.cons (Fr.kp (j := 0) (cs := fl (rml (shF (up2 (mel la ao al) (lo1 (mel la ao al) (tkF p (shF f rl n) n) n) n n) cl n) n)) rfl (hg_new rfl rfl) (by simp)) (Frs.cons (Fr.old (by simp [mx])) Frs.nil)))

set_option maxHeartbeats 4000000 in
theorem rchk_1 (H : List (List AV)) (x : Nat × Nat) (l : List Nat) (off rows cols ld : Int) (hI : MI l.length off rows cols ld) (q : Nat × Nat) (la : List Nat) (ao ar ac al : Int) (hJ : MI la.length ao ar ac al) (q' : Nat × Nat) (p : List Int) (hpm : p.length ≤ 2 ^ 30) (Rv : AV) (rl : List Int) (hRl : ∀ H, IL H Rv rl) (Cv : AV) (cl : List Int) (hCl : ∀ H, IL H Cv cl) (hbad : ¬ (GoodP l.length off rows cols ld ∧ (GoodP la.length ao ar ac al ∧ ar = ac ∧ ar = (p.length : Int) ∧ pivP p))) :
    CSpec Try.prog 9 [mt (aD x l) off rows cols ld, .agg [aD q la, .int .i64 ao, .int .i64 ar, .int .i64 ac, .int .i64 al, aI q' p], Rv, Cv] H (.tup [(.agg [.int .i64 0, .int .i64 0, .slnil, .int .i64 0, .int .i64 0, .slnil, .slnil, .slnil, .slnil]), .int .i64 1]) H := by
  obtain ⟨hm, ho1, ho2, hr1, hr2, hc1, hc2, hl1, hl2⟩ := id hI
  obtain ⟨hm', ho1', ho2', hr1', hr2', hc1', hc2', hl1', hl2'⟩ := id hJ
  refine .mk (fun args w => Try.call9 args w) (Spec.intro' (fn := Try.f9) Try.func9 rfl (by kernel_rfl) (by simp) false [] (draw := drawX Try.prog ⟨false, _, []⟩) dOk ?_)
  simp only [argE, Nat.reduceAdd]
  repeat' (first
    | (refine gateE ?_; (first | refine b_c0 ?_ | refine b_nil ?_ | refine m13 ?_ | refine m12 ?_ | refine m11 ?_ | (refine m10 ?_; (first | refine g_TT ?_ | refine g_FF ?_ | refine g_TF ?_ | refine g_FT ?_ | refine g_PT ?_ ?_ | refine g_PF ?_ ?_ | refine g_BT ?_ ?_ | refine g_BF ?_ ?_ | fail)) | (refine m09 ?_; (first | refine g_TT ?_ | refine g_FF ?_ | refine g_TF ?_ | refine g_FT ?_ | refine g_PT ?_ ?_ | refine g_PF ?_ ?_ | refine g_BT ?_ ?_ | refine g_BF ?_ ?_ | fail)) | refine m38 ?_ | fail))
    | (refine gateO ?_; (first | refine m14 ?_ | (refine m17 ?_; first | refine m19 ?_ | refine m18 ?_) | (refine m07 ?_; (first | refine m15 ?_ | refine m16 ?_ | fail)) | refine b_lenA (by (conv => {lhs; whnf}); done) (by exact (hRl []).len) ?_ | refine b_lenA (by (conv => {lhs; whnf}); done) (by exact (hCl []).len) ?_ | refine b_lenA (by (conv => {lhs; whnf}); done) (by exact (aI_IL [] q' p).len) ?_ | (refine m00 ?_; (first | refine m54 ?_ | refine m55 ?_ | refine v_neP ?_ | refine m47 ?_ | refine m48 ?_ | refine m49 ?_ | refine m50 ?_ | refine v_nT ?_ | refine v_nF ?_ | refine v_nP ?_ | refine v_k ?_ | refine m51 ?_ | fail)) | (refine m22 ?_; (first | refine m26 ?_ | refine m27 ?_ | fail)) | refine m42 ?_ | refine b_assignI ?_ | refine b_assignN ?_ | refine m08 ?_ | (refine m20 ?_; (first | refine m54 ?_ | refine m55 ?_ | refine v_neP ?_ | refine m47 ?_ | refine m48 ?_ | refine m49 ?_ | refine m50 ?_ | refine v_nT ?_ | refine v_nF ?_ | refine v_nP ?_ | refine v_k ?_ | refine m51 ?_ | fail)) | refine b_callB ?_ | refine b_lenA (by (conv => {lhs; whnf}); done) (by first | rfl | assumption) ?_ | refine m25 ?_ | refine m01 ?_ | refine m24 ?_ | refine b_build ?_ | fail))
    | (refine gateD ?_; (first | refine m36 ?_ | refine d_nil ?_ | refine m32 ?_ | refine m31 ?_ | refine m30 ?_ | (refine m28 ?_; (first | refine dg_TT ?_ | refine dg_FF ?_ | refine dg_TF ?_ | refine dg_FT ?_ | refine dg_PT ?_ ?_ | refine dg_PF ?_ ?_ | refine dg_BT ?_ ?_ | refine dg_BF ?_ ?_ | fail)) | (refine m29 ?_; (first | refine dg_TT ?_ | refine dg_FF ?_ | refine dg_TF ?_ | refine dg_FT ?_ | refine dg_PT ?_ ?_ | refine dg_PF ?_ ?_ | refine dg_BT ?_ ?_ | refine dg_BF ?_ ?_ | fail)) | refine m37 ?_ | fail))
    | (refine gateC ?_; (first | refine k_lt ?_ | refine k_fz ?_ | refine k_lb (by (conv => {lhs; whnf}); done) ?_ | refine k_ms ?_ | refine k_bx (by exact rfl) (by exact rfl) ?_ | refine m34 ?_ | refine m35 ?_ | refine m33 ?_ | refine k_mn ?_ | refine m56 ?_ | refine k_mnF ?_ | refine k_mnL (by exact rfl) ?_ | fail))
    | (refine gateT ?_; (first | refine b_thn ?_ | refine b_thr ?_ | refine b_the ?_ | fail))
    | (refine gateX ?_; (first | refine b_seq ?_ | refine b_region ?_ | (refine m06 ?_; (first | refine c_T ?_ | refine c_F ?_ | refine c_P ?_ ?_ | refine c_B ?_ ?_ | fail)) | refine b_ret ?_ | refine b_skip ?_ | refine b_block ?_ | refine b_exit ?_ | refine b_draw (id := 6) [11] [] [(0, .ld true), (2, .lt), (3, .ld true), (5, .lt), (6, .ld true), (7, .lt), (8, .lt), (10, .bx), (1, .mn true), (4, .mn true), (9, .lt), (11, .mn true)] (by kernel_rfl) ?_ | fail))
    | refine m21 ?_
    | refine a_nil ?_
    | (refine gateK ?_; (first | refine c_call (goodref_c _ (aD x l) l.length off rows cols ld (aD_len x l) hI) (OldOk.app (by simp)) ?_ | refine c_call (goodref_c _ (aD q la) la.length ao ar ac al (aD_len q la) hJ) (OldOk.app (by simp)) ?_ | refine c_call (piv_c _ (aI q' p) p (aI_IL _ q' p) hpm) (OldOk.app (by simp)) ?_ | fail))
    | refine m58 ?_
    | refine fk_nil ?_
    | (refine gateQ ?_; refine m05 ?_)
    | (refine gateR ?_; (first | refine m04 ?_ | refine m02 ?_ | refine m03 ?_ | refine rk_nil ?_ | fail))
    | intro _)
  all_goals first
    | (exfalso; contradiction)
    | (exfalso; omega)
    | (exfalso; simp_all; done)
    | (refine rv_old rfl (by simp [mx, mxL, resOne, aOf, aOf1]) ?_; exact rfl)

set_option maxHeartbeats 4000000 in
theorem rchk_3 (H : List (List AV)) (x : Nat × Nat) (l : List Nat) (off rows cols ld : Int) (hI : MI l.length off rows cols ld) (q : Nat × Nat) (la : List Nat) (ao ar ac al : Int) (hJ : MI la.length ao ar ac al) (q' : Nat × Nat) (p : List Int) (hpm : p.length ≤ 2 ^ 30) (Rv : AV) (rl : List Int) (hRl : ∀ H, IL H Rv rl) (Cv : AV) (cl : List Int) (hCl : ∀ H, IL H Cv cl) (hg : GoodP l.length off rows cols ld) (hr : (GoodP la.length ao ar ac al ∧ ar = ac ∧ ar = (p.length : Int) ∧ pivP p)) (hs : ¬ (cols = rows ∧ 1 ≤ rows ∧ rows ≤ 64 ∧ ar = rows ∧ (rl.length : Int) = rows ∧ (cl.length : Int) = rows)) :
    CSpec Try.prog 9 [mt (aD x l) off rows cols ld, .agg [aD q la, .int .i64 ao, .int .i64 ar, .int .i64 ac, .int .i64 al, aI q' p], Rv, Cv] H (.tup [(.agg [.int .i64 0, .int .i64 0, .slnil, .int .i64 0, .int .i64 0, .slnil, .slnil, .slnil, .slnil]), .int .i64 3]) H := by
  obtain ⟨hm, ho1, ho2, hr1, hr2, hc1, hc2, hl1, hl2⟩ := id hI
  obtain ⟨hm', ho1', ho2', hr1', hr2', hc1', hc2', hl1', hl2'⟩ := id hJ
  refine .mk (fun args w => Try.call9 args w) (Spec.intro' (fn := Try.f9) Try.func9 rfl (by kernel_rfl) (by simp) false [] (draw := drawX Try.prog ⟨false, _, []⟩) dOk ?_)
  simp only [argE, Nat.reduceAdd]
  repeat' (first
    | (refine gateE ?_; (first | refine b_c0 ?_ | refine b_nil ?_ | refine m13 ?_ | refine m12 ?_ | refine m11 ?_ | (refine m10 ?_; (first | refine g_TT ?_ | refine g_FF ?_ | refine g_TF ?_ | refine g_FT ?_ | refine g_PT ?_ ?_ | refine g_PF ?_ ?_ | refine g_BT ?_ ?_ | refine g_BF ?_ ?_ | fail)) | (refine m09 ?_; (first | refine g_TT ?_ | refine g_FF ?_ | refine g_TF ?_ | refine g_FT ?_ | refine g_PT ?_ ?_ | refine g_PF ?_ ?_ | refine g_BT ?_ ?_ | refine g_BF ?_ ?_ | fail)) | refine m38 ?_ | fail))
    | (refine gateO ?_; (first | refine m14 ?_ | (refine m17 ?_; first | refine m19 ?_ | refine m18 ?_) | (refine m07 ?_; (first | refine m15 ?_ | refine m16 ?_ | fail)) | refine b_lenA (by (conv => {lhs; whnf}); done) (by exact (hRl []).len) ?_ | refine b_lenA (by (conv => {lhs; whnf}); done) (by exact (hCl []).len) ?_ | refine b_lenA (by (conv => {lhs; whnf}); done) (by exact (aI_IL [] q' p).len) ?_ | (refine m00 ?_; (first | refine m54 ?_ | refine m55 ?_ | refine v_neP ?_ | refine m47 ?_ | refine m48 ?_ | refine m49 ?_ | refine m50 ?_ | refine v_nT ?_ | refine v_nF ?_ | refine v_nP ?_ | refine v_k ?_ | refine m51 ?_ | fail)) | (refine m22 ?_; (first | refine m26 ?_ | refine m27 ?_ | fail)) | refine m42 ?_ | refine b_assignI ?_ | refine b_assignN ?_ | refine m08 ?_ | (refine m20 ?_; (first | refine m54 ?_ | refine m55 ?_ | refine v_neP ?_ | refine m47 ?_ | refine m48 ?_ | refine m49 ?_ | refine m50 ?_ | refine v_nT ?_ | refine v_nF ?_ | refine v_nP ?_ | refine v_k ?_ | refine m51 ?_ | fail)) | refine b_callB ?_ | refine b_lenA (by (conv => {lhs; whnf}); done) (by first | rfl | assumption) ?_ | refine m25 ?_ | refine m01 ?_ | refine m24 ?_ | refine b_build ?_ | fail))
    | (refine gateD ?_; (first | refine m36 ?_ | refine d_nil ?_ | refine m32 ?_ | refine m31 ?_ | refine m30 ?_ | (refine m28 ?_; (first | refine dg_TT ?_ | refine dg_FF ?_ | refine dg_TF ?_ | refine dg_FT ?_ | refine dg_PT ?_ ?_ | refine dg_PF ?_ ?_ | refine dg_BT ?_ ?_ | refine dg_BF ?_ ?_ | fail)) | (refine m29 ?_; (first | refine dg_TT ?_ | refine dg_FF ?_ | refine dg_TF ?_ | refine dg_FT ?_ | refine dg_PT ?_ ?_ | refine dg_PF ?_ ?_ | refine dg_BT ?_ ?_ | refine dg_BF ?_ ?_ | fail)) | refine m37 ?_ | fail))
    | (refine gateC ?_; (first | refine k_lt ?_ | refine k_fz ?_ | refine k_lb (by (conv => {lhs; whnf}); done) ?_ | refine k_ms ?_ | refine k_bx (by exact rfl) (by exact rfl) ?_ | refine m34 ?_ | refine m35 ?_ | refine m33 ?_ | refine k_mn ?_ | refine m56 ?_ | refine k_mnF ?_ | refine k_mnL (by exact rfl) ?_ | fail))
    | (refine gateT ?_; (first | refine b_thn ?_ | refine b_thr ?_ | refine b_the ?_ | fail))
    | (refine gateX ?_; (first | refine b_seq ?_ | refine b_region ?_ | (refine m06 ?_; (first | refine c_T ?_ | refine c_F ?_ | refine c_P ?_ ?_ | refine c_B ?_ ?_ | fail)) | refine b_ret ?_ | refine b_skip ?_ | refine b_block ?_ | refine b_exit ?_ | refine b_draw (id := 6) [11] [] [(0, .ld true), (2, .lt), (3, .ld true), (5, .lt), (6, .ld true), (7, .lt), (8, .lt), (10, .bx), (1, .mn true), (4, .mn true), (9, .lt), (11, .mn true)] (by kernel_rfl) ?_ | fail))
    | refine m21 ?_
    | refine a_nil ?_
    | (refine gateK ?_; (first | refine c_call (goodref_c _ (aD x l) l.length off rows cols ld (aD_len x l) hI) (OldOk.app (by simp)) ?_ | refine c_call (goodref_c _ (aD q la) la.length ao ar ac al (aD_len q la) hJ) (OldOk.app (by simp)) ?_ | refine c_call (piv_c _ (aI q' p) p (aI_IL _ q' p) hpm) (OldOk.app (by simp)) ?_ | fail))
    | refine m58 ?_
    | refine fk_nil ?_
    | (refine gateQ ?_; refine m05 ?_)
    | (refine gateR ?_; (first | refine m04 ?_ | refine m02 ?_ | refine m03 ?_ | refine rk_nil ?_ | fail))
    | intro _)
  all_goals first
    | (exfalso; contradiction)
    | (exfalso; omega)
    | (exfalso; simp_all; done)
    | (refine rv_old rfl (by simp [mx, mxL, resOne, aOf, aOf1]) ?_; exact rfl)

set_option maxHeartbeats 4000000 in
theorem rchk_0 (H : List (List AV)) (x : Nat × Nat) (l : List Nat) (off ld : Int) (n : Nat) (hI : MI l.length off n n ld) (hG : GoodP l.length off n n ld) (q : Nat × Nat) (la : List Nat) (ao al : Int) (hJ : MI la.length ao n n al) (hGa : GoodP la.length ao n n al) (q' : Nat × Nat) (p : List Int) (hpl : p.length = n) (hpv : pivP p) (kr kc : Nat × Nat) (rl cl : List Int) (hrl : rl.length = n) (hcl : cl.length = n) (hn1 : 1 ≤ n) (hn : n ≤ 64) (hz : ∀ k, k < n → feq ((mel la ao al) k k) 0 = false) :
    CSpec Try.prog 9 [mt (aD x l) off (n : Int) (n : Int) ld, .agg [aD q la, .int .i64 ao, .int .i64 (n : Int), .int .i64 (n : Int), .int .i64 al, aI q' p], (aI kr rl), (aI kc cl)] H (.tup [(.agg [.int .i64 (n : Int), .int .i64 (n : Int), .sl none (n * n) (fl (rmA (mel l off ld) n n)), .int .i64 (n : Int), .int .i64 (n : Int), .sl none (n * n) (fl (rmA (mel la ao al) n n)), aI q' p, (aI kr rl), (aI kc cl)]), .int .i64 0]) H := by
  obtain ⟨hm, ho1, ho2, hr1, hr2, hc1, hc2, hl1, hl2⟩ := id hI
  obtain ⟨hm', ho1', ho2', hr1', hr2', hc1', hc2', hl1', hl2'⟩ := id hJ
  refine .mk (fun args w => Try.call9 args w) (Spec.intro' (fn := Try.f9) Try.func9 rfl (by kernel_rfl) (by simp) false [] (draw := drawX Try.prog ⟨false, _, []⟩) dOk ?_)
  simp only [argE, Nat.reduceAdd]
  repeat' (first
    | (refine gateE ?_; (first | refine b_c0 ?_ | refine b_nil ?_ | refine m13 ?_ | refine m12 ?_ | refine m11 ?_ | (refine m10 ?_; (first | refine g_TT ?_ | refine g_FF ?_ | refine g_TF ?_ | refine g_FT ?_ | refine g_PT ?_ ?_ | refine g_PF ?_ ?_ | refine g_BT ?_ ?_ | refine g_BF ?_ ?_ | fail)) | (refine m09 ?_; (first | refine g_TT ?_ | refine g_FF ?_ | refine g_TF ?_ | refine g_FT ?_ | refine g_PT ?_ ?_ | refine g_PF ?_ ?_ | refine g_BT ?_ ?_ | refine g_BF ?_ ?_ | fail)) | refine m38 ?_ | fail))
    | (refine gateO ?_; (first | refine m14 ?_ | (refine m17 ?_; first | refine m19 ?_ | refine m18 ?_) | (refine m07 ?_; (first | refine m15 ?_ | refine m16 ?_ | fail)) | refine b_lenA (by (conv => {lhs; whnf}); done) (by exact (aI_IL [] kr rl).len) ?_ | refine b_lenA (by (conv => {lhs; whnf}); done) (by exact (aI_IL [] kc cl).len) ?_ | refine b_lenA (by (conv => {lhs; whnf}); done) (by exact (aI_IL [] q' p).len) ?_ | (refine m00 ?_; (first | refine m54 ?_ | refine m55 ?_ | refine v_neP ?_ | refine m47 ?_ | refine m48 ?_ | refine m49 ?_ | refine m50 ?_ | refine v_nT ?_ | refine v_nF ?_ | refine v_nP ?_ | refine v_k ?_ | refine m51 ?_ | fail)) | (refine m22 ?_; (first | refine m26 ?_ | refine m27 ?_ | fail)) | refine m42 ?_ | refine b_assignI ?_ | refine b_assignN ?_ | refine m08 ?_ | (refine m20 ?_; (first | refine m54 ?_ | refine m55 ?_ | refine v_neP ?_ | refine m47 ?_ | refine m48 ?_ | refine m49 ?_ | refine m50 ?_ | refine v_nT ?_ | refine v_nF ?_ | refine v_nP ?_ | refine v_k ?_ | refine m51 ?_ | fail)) | refine b_callB ?_ | refine b_lenA (by (conv => {lhs; whnf}); done) (by first | rfl | assumption) ?_ | refine m25 ?_ | refine m01 ?_ | refine m24 ?_ | refine b_build ?_ | fail))
    | (refine gateD ?_; (first | refine m36 ?_ | refine d_nil ?_ | refine m32 ?_ | refine m31 ?_ | refine m30 ?_ | (refine m28 ?_; (first | refine dg_TT ?_ | refine dg_FF ?_ | refine dg_TF ?_ | refine dg_FT ?_ | refine dg_PT ?_ ?_ | refine dg_PF ?_ ?_ | refine dg_BT ?_ ?_ | refine dg_BF ?_ ?_ | fail)) | (refine m29 ?_; (first | refine dg_TT ?_ | refine dg_FF ?_ | refine dg_TF ?_ | refine dg_FT ?_ | refine dg_PT ?_ ?_ | refine dg_PF ?_ ?_ | refine dg_BT ?_ ?_ | refine dg_BF ?_ ?_ | fail)) | refine m37 ?_ | fail))
    | (refine gateC ?_; (first | refine k_lt ?_ | refine k_fz ?_ | refine k_lb (by (conv => {lhs; whnf}); done) ?_ | refine k_ms ?_ | refine k_bx (by exact rfl) (by exact rfl) ?_ | refine m34 ?_ | refine m35 ?_ | refine m33 ?_ | refine k_mn ?_ | refine m56 ?_ | refine k_mnF ?_ | refine k_mnL (by exact rfl) ?_ | fail))
    | (refine gateT ?_; (first | refine b_thn ?_ | refine b_thr ?_ | refine b_the ?_ | fail))
    | (refine gateX ?_; (first | refine b_seq ?_ | refine b_region ?_ | (refine m06 ?_; (first | refine c_T ?_ | refine c_F ?_ | refine c_P ?_ ?_ | refine c_B ?_ ?_ | fail)) | refine b_ret ?_ | refine b_skip ?_ | refine b_block ?_ | refine b_exit ?_ | refine b_draw (id := 6) [11] [] [(0, .ld true), (2, .lt), (3, .ld true), (5, .lt), (6, .ld true), (7, .lt), (8, .lt), (10, .bx), (1, .mn true), (4, .mn true), (9, .lt), (11, .mn true)] (by kernel_rfl) ?_ | fail))
    | refine m21 ?_
    | refine a_nil ?_
    | (refine gateK ?_; (first | refine c_call (goodref_c _ (aD x l) l.length off n n ld (aD_len x l) hI) (OldOk.app (by simp)) ?_ | refine c_call (goodref_c _ (aD q la) la.length ao n n al (aD_len q la) hJ) (OldOk.app (by simp)) ?_ | refine c_call (piv_t _ (aI q' p) p (aI_IL _ q' p) (by omega) hpv) (OldOk.app (by simp)) ?_ | refine c_call (of_n _ (aD x l) l (aD_FL _ x l) off ld n hI hG hn) (OldOk.app (by simp)) ?_ | refine c_call (of_n _ (aD q la) la (aD_FL _ q la) ao al n hJ hGa hn) (OldOk.app (by simp)) ?_ | refine c_call (zero_f _ _ (mel la ao al) n (FLz _ _ _ (by simp)) hn hz) (OldOk.app (by simp)) ?_ | fail))
    | refine m58 ?_
    | refine fk_nil ?_
    | (refine gateQ ?_; refine m05 ?_)
    | (refine gateR ?_; (first | refine m04 ?_ | refine m02 ?_ | refine m03 ?_ | refine rk_nil ?_ | fail))
    | intro _)
  all_goals first
    | (exfalso; contradiction)
    | (exfalso; omega)
    | (exfalso; simp_all; done)
    | (refine rv_old rfl (by simp [mx, mxL, resOne, aOf, aOf1, mxL_fl, mxL_il, aI]) ?_; exact rfl)

set_option maxHeartbeats 4000000 in
theorem rchk_4 (H : List (List AV)) (x : Nat × Nat) (l : List Nat) (off ld : Int) (n : Nat) (hI : MI l.length off n n ld) (hG : GoodP l.length off n n ld) (q : Nat × Nat) (la : List Nat) (ao al : Int) (hJ : MI la.length ao n n al) (hGa : GoodP la.length ao n n al) (q' : Nat × Nat) (p : List Int) (hpl : p.length = n) (hpv : pivP p) (kr kc : Nat × Nat) (rl cl : List Int) (hrl : rl.length = n) (hcl : cl.length = n) (hn1 : 1 ≤ n) (hn : n ≤ 64) (z : Nat) (hzn : z < n) (hz : ∀ k, k < z → feq ((mel la ao al) k k) 0 = false) (hz1 : feq ((mel la ao al) z z) 0 = true) :
    CSpec Try.prog 9 [mt (aD x l) off (n : Int) (n : Int) ld, .agg [aD q la, .int .i64 ao, .int .i64 (n : Int), .int .i64 (n : Int), .int .i64 al, aI q' p], (aI kr rl), (aI kc cl)] H (.tup [(.agg [.int .i64 0, .int .i64 0, .slnil, .int .i64 0, .int .i64 0, .slnil, .slnil, .slnil, .slnil]), .int .i64 4]) H := by
  obtain ⟨hm, ho1, ho2, hr1, hr2, hc1, hc2, hl1, hl2⟩ := id hI
  obtain ⟨hm', ho1', ho2', hr1', hr2', hc1', hc2', hl1', hl2'⟩ := id hJ
  refine .mk (fun args w => Try.call9 args w) (Spec.intro' (fn := Try.f9) Try.func9 rfl (by kernel_rfl) (by simp) false [] (draw := drawX Try.prog ⟨false, _, []⟩) dOk ?_)
  simp only [argE, Nat.reduceAdd]
  repeat' (first
    | (refine gateE ?_; (first | refine b_c0 ?_ | refine b_nil ?_ | refine m13 ?_ | refine m12 ?_ | refine m11 ?_ | (refine m10 ?_; (first | refine g_TT ?_ | refine g_FF ?_ | refine g_TF ?_ | refine g_FT ?_ | refine g_PT ?_ ?_ | refine g_PF ?_ ?_ | refine g_BT ?_ ?_ | refine g_BF ?_ ?_ | fail)) | (refine m09 ?_; (first | refine g_TT ?_ | refine g_FF ?_ | refine g_TF ?_ | refine g_FT ?_ | refine g_PT ?_ ?_ | refine g_PF ?_ ?_ | refine g_BT ?_ ?_ | refine g_BF ?_ ?_ | fail)) | refine m38 ?_ | fail))
    | (refine gateO ?_; (first | refine m14 ?_ | (refine m17 ?_; first | refine m19 ?_ | refine m18 ?_) | (refine m07 ?_; (first | refine m15 ?_ | refine m16 ?_ | fail)) | refine b_lenA (by (conv => {lhs; whnf}); done) (by exact (aI_IL [] kr rl).len) ?_ | refine b_lenA (by (conv => {lhs; whnf}); done) (by exact (aI_IL [] kc cl).len) ?_ | refine b_lenA (by (conv => {lhs; whnf}); done) (by exact (aI_IL [] q' p).len) ?_ | (refine m00 ?_; (first | refine m54 ?_ | refine m55 ?_ | refine v_neP ?_ | refine m47 ?_ | refine m48 ?_ | refine m49 ?_ | refine m50 ?_ | refine v_nT ?_ | refine v_nF ?_ | refine v_nP ?_ | refine v_k ?_ | refine m51 ?_ | fail)) | (refine m22 ?_; (first | refine m26 ?_ | refine m27 ?_ | fail)) | refine m42 ?_ | refine b_assignI ?_ | refine b_assignN ?_ | refine m08 ?_ | (refine m20 ?_; (first | refine m54 ?_ | refine m55 ?_ | refine v_neP ?_ | refine m47 ?_ | refine m48 ?_ | refine m49 ?_ | refine m50 ?_ | refine v_nT ?_ | refine v_nF ?_ | refine v_nP ?_ | refine v_k ?_ | refine m51 ?_ | fail)) | refine b_callB ?_ | refine b_lenA (by (conv => {lhs; whnf}); done) (by first | rfl | assumption) ?_ | refine m25 ?_ | refine m01 ?_ | refine m24 ?_ | refine b_build ?_ | fail))
    | (refine gateD ?_; (first | refine m36 ?_ | refine d_nil ?_ | refine m32 ?_ | refine m31 ?_ | refine m30 ?_ | (refine m28 ?_; (first | refine dg_TT ?_ | refine dg_FF ?_ | refine dg_TF ?_ | refine dg_FT ?_ | refine dg_PT ?_ ?_ | refine dg_PF ?_ ?_ | refine dg_BT ?_ ?_ | refine dg_BF ?_ ?_ | fail)) | (refine m29 ?_; (first | refine dg_TT ?_ | refine dg_FF ?_ | refine dg_TF ?_ | refine dg_FT ?_ | refine dg_PT ?_ ?_ | refine dg_PF ?_ ?_ | refine dg_BT ?_ ?_ | refine dg_BF ?_ ?_ | fail)) | refine m37 ?_ | fail))
    | (refine gateC ?_; (first | refine k_lt ?_ | refine k_fz ?_ | refine k_lb (by (conv => {lhs; whnf}); done) ?_ | refine k_ms ?_ | refine k_bx (by exact rfl) (by exact rfl) ?_ | refine m34 ?_ | refine m35 ?_ | refine m33 ?_ | refine k_mn ?_ | refine m56 ?_ | refine k_mnF ?_ | refine k_mnL (by exact rfl) ?_ | fail))
    | (refine gateT ?_; (first | refine b_thn ?_ | refine b_thr ?_ | refine b_the ?_ | fail))
    | (refine gateX ?_; (first | refine b_seq ?_ | refine b_region ?_ | (refine m06 ?_; (first | refine c_T ?_ | refine c_F ?_ | refine c_P ?_ ?_ | refine c_B ?_ ?_ | fail)) | refine b_ret ?_ | refine b_skip ?_ | refine b_block ?_ | refine b_exit ?_ | refine b_draw (id := 6) [11] [] [(0, .ld true), (2, .lt), (3, .ld true), (5, .lt), (6, .ld true), (7, .lt), (8, .lt), (10, .bx), (1, .mn true), (4, .mn true), (9, .lt), (11, .mn true)] (by kernel_rfl) ?_ | fail))
    | refine m21 ?_
    | refine a_nil ?_
    | (refine gateK ?_; (first | refine c_call (goodref_c _ (aD x l) l.length off n n ld (aD_len x l) hI) (OldOk.app (by simp)) ?_ | refine c_call (goodref_c _ (aD q la) la.length ao n n al (aD_len q la) hJ) (OldOk.app (by simp)) ?_ | refine c_call (piv_t _ (aI q' p) p (aI_IL _ q' p) (by omega) hpv) (OldOk.app (by simp)) ?_ | refine c_call (of_n _ (aD x l) l (aD_FL _ x l) off ld n hI hG hn) (OldOk.app (by simp)) ?_ | refine c_call (of_n _ (aD q la) la (aD_FL _ q la) ao al n hJ hGa hn) (OldOk.app (by simp)) ?_ | refine c_call (zero_t _ _ (mel la ao al) n (FLz _ _ _ (by simp)) hn z hzn hz hz1) (OldOk.app (by simp)) ?_ | fail))
    | refine m58 ?_
    | refine fk_nil ?_
    | (refine gateQ ?_; refine m05 ?_)
    | (refine gateR ?_; (first | refine m04 ?_ | refine m02 ?_ | refine m03 ?_ | refine rk_nil ?_ | fail))
    | intro _)
  all_goals first
    | (exfalso; contradiction)
    | (exfalso; omega)
    | (exfalso; simp_all; done)
    | (refine rv_old rfl (by simp [mx, mxL, resOne, aOf, aOf1, mxL_fl, mxL_il, aI]) ?_; exact rfl)

set_option maxHeartbeats 4000000 in
theorem rsv_c (H : List (List AV)) (x : Nat × Nat) (l : List Nat) (off ld : Int) (n : Nat) (hI : MI l.length off n n ld) (hG : GoodP l.length off n n ld) (q : Nat × Nat) (la : List Nat) (ao al : Int) (hJ : MI la.length ao n n al) (hGa : GoodP la.length ao n n al) (q' : Nat × Nat) (p : List Int) (hpl : p.length = n) (hpv : pivP p) (Rv : AV) (rl : List Int) (hRl : ∀ H, IL H Rv rl) (Cv : AV) (cl : List Int) (hCl : ∀ H, IL H Cv cl) (hrl : rl.length = n) (hcl : cl.length = n) (hn1 : 1 ≤ n) (hn : n ≤ 64) (hz : ∀ k, k < n → feq ((mel la ao al) k k) 0 = false) (X : AV) (xl : List Nat) (hX : ∀ H', FL H' X xl) (hxl : xl.length = n) :
    CSpec Try.prog 15 [(.agg [.int .i64 (n : Int), .int .i64 (n : Int), .sl none (n * n) (fl (rmA (mel l off ld) n n)), .int .i64 (n : Int), .int .i64 (n : Int), .sl none (n * n) (fl (rmA (mel la ao al) n n)), aI q' p, Rv, Cv]), X] H (.sl none n (fl (rml (shF (up2 (mel la ao al) (lo1 (mel la ao al) (tkF p (shF (fun i => xl.getD i 0) rl n) n) n) n n) cl n) n))) H := by
  refine .mk (fun args w => Try.call15 args w) (Spec.intro' (fn := Try.f15) Try.func15 rfl (by kernel_rfl) (by simp) false [] (draw := drawX Try.prog ⟨false, _, []⟩) dOk ?_)
  simp only [argE, Nat.reduceAdd]
  repeat' (first
    | (refine gateE ?_; (first | refine b_c0 ?_ | refine b_nil ?_ | fail))
    | (refine gateO ?_; (first | refine m14 ?_ | (refine m17 ?_; first | refine m19 ?_ | refine m18 ?_) | (refine m07 ?_; (first | refine m15 ?_ | refine m16 ?_ | fail)) | refine m42 ?_ | refine b_assignI ?_ | refine b_assignN ?_ | refine m08 ?_ | refine b_callB ?_ | refine m23 ?_ | refine m01 ?_ | fail))
    | (refine gateD ?_; (first | refine m36 ?_ | refine d_nil ?_ | fail))
    | (refine gateC ?_; (first | refine k_lt ?_ | refine k_fz ?_ | refine k_lb (by (conv => {lhs; whnf}); done) ?_ | refine k_ms ?_ | refine k_bx (by exact rfl) (by exact rfl) ?_ | refine m34 ?_ | refine m35 ?_ | refine m33 ?_ | refine k_mn ?_ | refine m56 ?_ | refine k_mnF ?_ | refine k_mnL (by exact rfl) ?_ | fail))
    | (refine gateT ?_; (first | refine b_thn ?_ | refine b_thr ?_ | refine b_the ?_ | fail))
    | (refine gateX ?_; (first | refine b_seq ?_ | refine b_region ?_ | (refine m06 ?_; (first | refine c_T ?_ | refine c_F ?_ | refine c_P ?_ ?_ | refine c_B ?_ ?_ | fail)) | refine b_ret ?_ | refine b_skip ?_ | refine b_block ?_ | refine b_exit ?_ | refine b_draw (id := 1) [] [] [(0, .lt), (1, .ld true), (2, .lt), (3, .ld true), (4, .lt), (5, .lt), (6, .ld true), (7, .mn true), (8, .mn true), (9, .lt), (10, .lt), (11, .lt), (12, .lt), (13, .lt)] (by kernel_rfl) ?_ | fail))
    | refine m21 ?_
    | refine a_nil ?_
    | (refine gateK ?_; (first | refine c_call (rshift_x _ X xl (hX _) n hxl Rv rl (hRl _) hrl hn) (OldOk.app (by simp)) ?_ | refine c_call (rslv_0 _ _ (shF (fun i => xl.getD i 0) rl n) n (FLz _ _ _ (by simp)) (by omega) _ (mel la ao al) (FLz _ _ _ (by simp)) (aI q' p) p (aI_IL _ q' p) hpl hpv hz) (OldOk.app (by simp)) ?_ | refine c_call (rshift_c _ _ (up2 (mel la ao al) (lo1 (mel la ao al) (tkF p (shF (fun i => xl.getD i 0) rl n) n) n) n n) n (FLz _ _ _ (by simp)) Cv cl (hCl _) hcl hn) (OldOk.app (by simp)) ?_ | fail))
    | (refine gateQ ?_; refine m05 ?_)
    | (refine gateR ?_; (first | refine m04 ?_ | refine m02 ?_ | refine m03 ?_ | refine rk_nil ?_ | fail))
    | intro _)
  all_goals first
    | (refine rv_old rfl (by simp [mx, mxL, resOne, aOf, aOf1, mxL_fl]) ?_; exact rfl)

set_option maxHeartbeats 4000000 in
theorem great_t (H : List (List AV)) (x : Nat × Nat) (l : List Nat) (off rows cols ld : Int) (hI : MI l.length off rows cols ld) (q : Nat × Nat) (la : List Nat) (ao ar ac al : Int) (hJ : MI la.length ao ar ac al) (q' : Nat × Nat) (p : List Int) (hpm : p.length ≤ 9223372036854775807) (Rv : AV) (rl : List Int) (hRl : ∀ H, IL H Rv rl) (Cv : AV) (cl : List Int) (hCl : ∀ H, IL H Cv cl) (hrm : rl.length ≤ 9223372036854775807) (hcm : cl.length ≤ 9223372036854775807) (hs : ¬ (l.length ≤ 1000 ∧ rows ≤ 20 ∧ cols ≤ 20 ∧ la.length ≤ 1000 ∧ ar ≤ 20 ∧ ac ≤ 20 ∧ p.length ≤ 60 ∧ rl.length ≤ 60 ∧ cl.length ≤ 60)) :
    CSpec Try.prog 8 [mt (aD x l) off rows cols ld, .agg [aD q la, .int .i64 ao, .int .i64 ar, .int .i64 ac, .int .i64 al, aI q' p], Rv, Cv] H (.bool true) H := by
  obtain ⟨hm, ho1, ho2, hr1, hr2, hc1, hc2, hl1, hl2⟩ := id hI
  obtain ⟨hm', ho1', ho2', hr1', hr2', hc1', hc2', hl1', hl2'⟩ := id hJ
  refine .mk (fun args w => Try.call8 args w) (Spec.intro' (fn := Try.f8) Try.func8 rfl (by kernel_rfl) (by simp) false [] (draw := drawX Try.prog ⟨false, _, []⟩) dOk ?_)
  simp only [argE, Nat.reduceAdd]
  repeat' (first
    | (refine gateE ?_; (first | refine b_c0 ?_ | refine b_nil ?_ | refine m13 ?_ | refine m12 ?_ | refine m11 ?_ | (refine m10 ?_; (first | refine g_TT ?_ | refine g_FF ?_ | refine g_TF ?_ | refine g_FT ?_ | refine g_PT ?_ ?_ | refine g_PF ?_ ?_ | refine g_BT ?_ ?_ | refine g_BF ?_ ?_ | fail)) | (refine m09 ?_; (first | refine g_TT ?_ | refine g_FF ?_ | refine g_TF ?_ | refine g_FT ?_ | refine g_PT ?_ ?_ | refine g_PF ?_ ?_ | refine g_BT ?_ ?_ | refine g_BF ?_ ?_ | fail)) | refine m38 ?_ | fail))
    | (refine gateO ?_; (first | refine m14 ?_ | (refine m17 ?_; first | refine m19 ?_ | refine m18 ?_) | (refine m07 ?_; (first | refine m15 ?_ | refine m16 ?_ | fail)) | refine b_lenA (by (conv => {lhs; whnf}); done) (by exact (hRl []).len) ?_ | refine b_lenA (by (conv => {lhs; whnf}); done) (by exact (hCl []).len) ?_ | refine b_lenA (by (conv => {lhs; whnf}); done) (by exact (aI_IL [] q' p).len) ?_ | (refine m00 ?_; (first | refine m47 ?_ | refine m48 ?_ | refine m49 ?_ | refine m50 ?_ | refine v_k ?_ | refine m51 ?_ | fail)) | (refine m22 ?_; (first | refine m26 ?_ | refine m27 ?_ | fail)) | refine m42 ?_ | refine b_assignI ?_ | refine b_assignN ?_ | refine m08 ?_ | refine b_callB ?_ | refine b_lenA (by (conv => {lhs; whnf}); done) (by first | rfl | assumption) ?_ | refine m01 ?_ | fail))
    | (refine gateT ?_; (first | refine b_thn ?_ | refine b_thr ?_ | refine b_the ?_ | fail))
    | (refine gateX ?_; (first | refine b_seq ?_ | refine b_region ?_ | (refine m06 ?_; (first | refine c_T ?_ | refine c_F ?_ | refine c_P ?_ ?_ | refine c_B ?_ ?_ | fail)) | refine b_ret ?_ | refine b_skip ?_ | refine b_block ?_ | refine b_exit ?_ | fail))
    | refine m21 ?_
    | refine a_nil ?_
    | (refine gateK ?_; (first | refine c_call (greatm_c _ (aD x l) l (aD_FL _ x l) off rows cols ld hI) (OldOk.app (by simp)) ?_ | refine c_call (greatm_c _ (aD q la) la (aD_FL _ q la) ao ar ac al hJ) (OldOk.app (by simp)) ?_ | fail))
    | (refine gateQ ?_; refine m05 ?_)
    | (refine gateR ?_; (first | refine m04 ?_ | refine m02 ?_ | refine m03 ?_ | refine rk_nil ?_ | fail))
    | intro _)
  all_goals first
    | (exfalso; contradiction)
    | (exfalso; omega)
    | (exfalso; simp_all; done)
    | (refine rv_old rfl (by simp [mx, mxL, resOne, aOf, aOf1]) ?_; exact rfl)
    | (refine rv_old rfl (by simp [mx, mxL, resOne, aOf, aOf1]) ?_; simp only [resOne, List.nil_append]; congr 1; simp; omega)

set_option maxHeartbeats 4000000 in
theorem great_f (H : List (List AV)) (x : Nat × Nat) (l : List Nat) (off rows cols ld : Int) (hI : MI l.length off rows cols ld) (q : Nat × Nat) (la : List Nat) (ao ar ac al : Int) (hJ : MI la.length ao ar ac al) (q' : Nat × Nat) (p : List Int) (hpm : p.length ≤ 9223372036854775807) (Rv : AV) (rl : List Int) (hRl : ∀ H, IL H Rv rl) (Cv : AV) (cl : List Int) (hCl : ∀ H, IL H Cv cl) (hrm : rl.length ≤ 9223372036854775807) (hcm : cl.length ≤ 9223372036854775807) (hs : (l.length ≤ 1000 ∧ rows ≤ 20 ∧ cols ≤ 20 ∧ la.length ≤ 1000 ∧ ar ≤ 20 ∧ ac ≤ 20 ∧ p.length ≤ 60 ∧ rl.length ≤ 60 ∧ cl.length ≤ 60)) :
    CSpec Try.prog 8 [mt (aD x l) off rows cols ld, .agg [aD q la, .int .i64 ao, .int .i64 ar, .int .i64 ac, .int .i64 al, aI q' p], Rv, Cv] H (.bool false) H := by
  obtain ⟨hm, ho1, ho2, hr1, hr2, hc1, hc2, hl1, hl2⟩ := id hI
  obtain ⟨hm', ho1', ho2', hr1', hr2', hc1', hc2', hl1', hl2'⟩ := id hJ
  refine .mk (fun args w => Try.call8 args w) (Spec.intro' (fn := Try.f8) Try.func8 rfl (by kernel_rfl) (by simp) false [] (draw := drawX Try.prog ⟨false, _, []⟩) dOk ?_)
  simp only [argE, Nat.reduceAdd]
  repeat' (first
    | (refine gateE ?_; (first | refine b_c0 ?_ | refine b_nil ?_ | refine m13 ?_ | refine m12 ?_ | refine m11 ?_ | (refine m10 ?_; (first | refine g_TT ?_ | refine g_FF ?_ | refine g_TF ?_ | refine g_FT ?_ | refine g_PT ?_ ?_ | refine g_PF ?_ ?_ | refine g_BT ?_ ?_ | refine g_BF ?_ ?_ | fail)) | (refine m09 ?_; (first | refine g_TT ?_ | refine g_FF ?_ | refine g_TF ?_ | refine g_FT ?_ | refine g_PT ?_ ?_ | refine g_PF ?_ ?_ | refine g_BT ?_ ?_ | refine g_BF ?_ ?_ | fail)) | refine m38 ?_ | fail))
    | (refine gateO ?_; (first | refine m14 ?_ | (refine m17 ?_; first | refine m19 ?_ | refine m18 ?_) | (refine m07 ?_; (first | refine m15 ?_ | refine m16 ?_ | fail)) | refine b_lenA (by (conv => {lhs; whnf}); done) (by exact (hRl []).len) ?_ | refine b_lenA (by (conv => {lhs; whnf}); done) (by exact (hCl []).len) ?_ | refine b_lenA (by (conv => {lhs; whnf}); done) (by exact (aI_IL [] q' p).len) ?_ | (refine m00 ?_; (first | refine m47 ?_ | refine m48 ?_ | refine m49 ?_ | refine m50 ?_ | refine v_k ?_ | refine m51 ?_ | fail)) | (refine m22 ?_; (first | refine m26 ?_ | refine m27 ?_ | fail)) | refine m42 ?_ | refine b_assignI ?_ | refine b_assignN ?_ | refine m08 ?_ | refine b_callB ?_ | refine b_lenA (by (conv => {lhs; whnf}); done) (by first | rfl | assumption) ?_ | refine m01 ?_ | fail))
    | (refine gateT ?_; (first | refine b_thn ?_ | refine b_thr ?_ | refine b_the ?_ | fail))
    | (refine gateX ?_; (first | refine b_seq ?_ | refine b_region ?_ | (refine m06 ?_; (first | refine c_T ?_ | refine c_F ?_ | refine c_P ?_ ?_ | refine c_B ?_ ?_ | fail)) | refine b_ret ?_ | refine b_skip ?_ | refine b_block ?_ | refine b_exit ?_ | fail))
    | refine m21 ?_
    | refine a_nil ?_
    | (refine gateK ?_; (first | refine c_call (greatm_c _ (aD x l) l (aD_FL _ x l) off rows cols ld hI) (OldOk.app (by simp)) ?_ | refine c_call (greatm_c _ (aD q la) la (aD_FL _ q la) ao ar ac al hJ) (OldOk.app (by simp)) ?_ | fail))
    | (refine gateQ ?_; refine m05 ?_)
    | (refine gateR ?_; (first | refine m04 ?_ | refine m02 ?_ | refine m03 ?_ | refine rk_nil ?_ | fail))
    | intro _)
  all_goals first
    | (exfalso; contradiction)
    | (exfalso; omega)
    | (exfalso; simp_all; done)
    | (refine rv_old rfl (by simp [mx, mxL, resOne, aOf, aOf1]) ?_; exact rfl)
    | (refine rv_old rfl (by simp [mx, mxL, resOne, aOf, aOf1]) ?_; simp only [resOne, List.nil_append]; congr 1; simp; omega)


end Go.Sx
