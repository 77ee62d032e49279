/- A part of the proofs of this seat: C2. No condition is set. -/
import Derived.Test.YtfnjkmdcmokciaaC1
set_option linter.unusedVariables false
set_option linter.unusedSimpArgs false
set_option maxRecDepth 20000
namespace Go.Sx
open Go.Proofs

theorem isNaN_iff (b : Nat) : isNaN b = true ↔ 9218868437227405312 < b % 9223372036854775808 := by
  have e1 : Ieee.double.signWeight = 9223372036854775808 := by decide
  have e2 : Ieee.double.binade = 4503599627370496 := by decide
  have e3 : Ieee.double.infRung = 9218868437227405312 := by decide
  unfold isNaN Ieee.Format.read
  simp only [e1, e2, e3]
  split
  · simp [Ieee.Datum.isNaN]; omega
  · split
    · simp [Ieee.Datum.isNaN]; omega
    · split
      · simp [Ieee.Datum.isNaN]; omega
      · simp [Ieee.Datum.isNaN]; omega
theorem pK_two (b : Nat) : pK b = 2 ↔ isNaN b = true := by
  rw [isNaN_iff]
  unfold pK pE₀ pM₀
  split
  · omega
  · split <;> omega
theorem isNaN_qn : isNaN qn = true := by rw [isNaN_iff]; decide
theorem same_iff (b c : Nat) : ((b : Int) = c ∨ (pK b = 2 ∧ pK c = 2)) ↔ cn b = cn c := by
  rw [pK_two, pK_two]
  rcases cn_cases b with ⟨h1, h2⟩ | ⟨h1, h2⟩ <;> rcases cn_cases c with ⟨h3, h4⟩ | ⟨h3, h4⟩
  · simp [h1, h2, h3, h4]
  · rw [h2, h4, h1, h3]
    simp only [Bool.false_eq_true, and_false, or_false]
    constructor
    · intro h; have : b = c := by omega
      subst this; rw [h1] at h3; cases h3
    · intro h; rw [← h, isNaN_qn] at h3; cases h3
  · rw [h2, h4, h1, h3]
    simp only [Bool.false_eq_true, false_and, or_false]
    constructor
    · intro h; have : b = c := by omega
      subst this; rw [h1] at h3; cases h3
    · intro h; rw [h, isNaN_qn] at h1; cases h1
  · rw [h2, h4, h1, h3]
    simp only [Bool.false_eq_true, and_false, or_false]
    omega
attribute [local irreducible] Ex exOps exD opX opE thenX blkX RetQ Spec CSpec Fr condK guardK guardD ckK valK pickK loadK faK callK argK gK fK rK RetV lpX prK
set_option maxHeartbeats 4000000 in
theorem same_c (H : List (List AV)) (x y : Nat) :
    CSpec Try.prog 28 [.flt x, .flt y] H (.bool (decide (x = y))) H := by
  refine .mk (fun args w => Try.call28 args w) (Spec.raw2 (fun b c hb hbx hc hcy => Spec.intro' (fn := Try.f28) Try.func28 rfl (by kernel_rfl) (by simp) false [] (draw := drawX Try.prog ⟨false, _, []⟩) dOk ?_))
  simp only [argE, Nat.reduceAdd]
  repeat' (first
    | (refine gateE ?_; (first | (refine b_c0 ?_; (first | refine b_move (by (conv => {lhs; whnf}); done) ?_ | (refine b_bin (by (conv => {lhs; whnf}); done) (by (conv => {lhs; whnf}); done) (by (conv => {lhs; whnf}); done) ?_; (first | refine v_eT (by omega) ?_ | refine v_eF (by omega) ?_ | refine v_eP ?_ | refine v_w (by omega) ?_ | refine v_wu (by omega) ?_ | refine v_k ?_ | refine v_c (by omega) ?_)) | (refine b_pick (by (conv => {lhs; whnf}); done) ?_; (first | refine p_T (by (conv => {lhs; whnf}); done) ?_ | refine p_F (by (conv => {lhs; whnf}); done) ?_)) | refine b_assign (by (conv => {lhs; whnf}); done) ?_ | refine b_callB ?_ | refine b_ext (by (conv => {lhs; whnf}); done) rfl ?_)) | refine b_nil ?_ | refine b_gT (by exact rfl) (by exact rfl) ?_ | refine b_gF (by exact rfl) (by exact rfl) (by exact rfl) ?_ | refine b_gU (by exact rfl) (by exact rfl) (by constructor <;> simp) rfl rfl ?_ | (refine b_g0 (by exact rfl) (by exact rfl) (by (conv => {lhs; whnf}); done) ?_; (first | refine g_TT ?_ | refine g_FF ?_ | refine g_TF ?_ | refine g_FT ?_ | refine g_PT ?_ ?_ | refine g_PF ?_ ?_ | refine g_BT ?_ ?_ | refine g_BF ?_ ?_)) | (refine b_g1 (by exact rfl) (by exact rfl) (by exact rfl) (by (conv => {lhs; whnf}); done) ?_; (first | refine g_TT ?_ | refine g_FF ?_ | refine g_TF ?_ | refine g_FT ?_ | refine g_PT ?_ ?_ | refine g_PF ?_ ?_ | refine g_BT ?_ ?_ | refine g_BF ?_ ?_)) | refine b_c1 (by exact rfl) ?_))
    | (refine gateO ?_; (first | refine b_move (by (conv => {lhs; whnf}); done) ?_ | (refine b_bin (by (conv => {lhs; whnf}); done) (by (conv => {lhs; whnf}); done) (by (conv => {lhs; whnf}); done) ?_; (first | refine v_eT (by omega) ?_ | refine v_eF (by omega) ?_ | refine v_eP ?_ | refine v_w (by omega) ?_ | refine v_wu (by omega) ?_ | refine v_k ?_ | refine v_c (by omega) ?_)) | (refine b_pick (by (conv => {lhs; whnf}); done) ?_; (first | refine p_T (by (conv => {lhs; whnf}); done) ?_ | refine p_F (by (conv => {lhs; whnf}); done) ?_)) | refine b_assign (by (conv => {lhs; whnf}); done) ?_ | refine b_callB ?_ | refine b_ext (by (conv => {lhs; whnf}); done) rfl ?_))
    | (refine gateT ?_; (first | refine b_thn ?_ | refine b_thr ?_ | refine b_the ?_))
    | (refine gateX ?_; (first | refine b_seq ?_ | refine b_region ?_ | (refine b_cond (by (conv => {lhs; whnf}); done) ?_; (first | refine c_T ?_ | refine c_F ?_ | refine c_P ?_ ?_ | refine c_B ?_ ?_)) | refine b_ret ?_ | refine b_skip ?_ | refine b_block ?_ | refine b_exit ?_))
    | refine a_cons (by (conv => {lhs; whnf}); done) ?_
    | refine a_nil ?_
    | (refine gateK ?_; (first | refine c_call (bits_c _ _) (OldOk.refl _ _) ?_ | refine c_call (parts_c _ _ (by assumption)) (OldOk.refl _ _) ?_))
    | (refine gateQ ?_; refine b_retK (by simp) (by (conv => {lhs; whnf}); done) ?_)
    | (refine gateR ?_; (first | refine rk_tmp (by (conv => {lhs; whnf}); done) ?_ | refine rk_cellA (by (conv => {lhs; whnf}); done) rfl rfl ?_ | refine rk_cell1 (by (conv => {lhs; whnf}); done) rfl rfl ?_ | refine rk_nil ?_))
    | intro _)
  all_goals first | refine rv_old rfl (by simp [mx, mxL, aOf, aOf1, resOne]) ?_ | (trace_state; fail)
  all_goals (subst hbx hcy; have hs := same_iff b c)
  all_goals (simp only [resOne, List.nil_append, List.cons_append, aOf, aOf1] at *)
  all_goals first
    | (refine rvF ?_; first | (simp_all; done) | (simp_all; omega))
    | (refine rvT ?_; first | (simp_all; done) | (simp_all; omega))
    | (refine rvP ?_; first | (simp_all; done) | (simp_all; omega))
    | trace_state


end Go.Sx
