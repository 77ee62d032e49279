/- A part of the proofs of this seat: C1. No condition is set. -/
import Derived.Test.YtfnjkmdcmokciaaW1
set_option linter.unusedVariables false
set_option linter.unusedSimpArgs false
set_option maxRecDepth 20000
namespace Go.Sx
open Go.Proofs

/-! ### a float's bits -/
theorem bits_run (b : Nat) (w : World) : (callFunc 96 #[.float .f64 b]).run Try.prog w = .ok (.value (.int .u64 b)) w := by
  rw [run_callFunc_extern (fn := Try.f96) Try.func96 (by kernel_rfl) (by kernel_rfl) (by kernel_rfl) (e := Extern.MathFloatBits.float64bits) (by kernel_rfl)]
  rfl
theorem frombits_run (n : Int) (w : World) : (callFunc 108 #[.int .u64 n]).run Try.prog w = .ok (.value (.float .f64 n.toNat)) w := by
  rw [run_callFunc_extern (fn := Try.f108) Try.func108 (by kernel_rfl) (by kernel_rfl) (by kernel_rfl) (e := Extern.MathFloatBits.float64frombits) (by kernel_rfl)]
  rfl
theorem bits_c (H : List (List AV)) (b : Nat) : CSpec Try.prog 96 [.fraw b] H (.int .u64 b) H := by
  refine .inr ⟨rfl, fun w g cargs h => ?_⟩
  simp only [LRep] at h
  obtain ⟨v, r, hv, h1, rfl⟩ := h
  simp only [VRep] at h1
  obtain ⟨rfl, _⟩ := h1
  have : cargs = #[.float .f64 b] := Array.ext' hv
  subst this
  exact ⟨_, bits_run b w, by simp [VRep]⟩
theorem frombits_c (H : List (List AV)) (n : Int) (hn : 0 ≤ n ∧ n ≤ 18446744073709551615) : CSpec Try.prog 108 [.int .u64 n] H (.fraw n.toNat) H := by
  refine .inr ⟨rfl, fun w g cargs h => ?_⟩
  simp only [LRep] at h
  obtain ⟨v, r, hv, h1, rfl⟩ := h
  simp only [VRep] at h1
  subst h1
  have : cargs = #[.int .u64 n] := Array.ext' hv
  subst this
  exact ⟨_, frombits_run n w, by simp only [VRep]; exact ⟨trivial, by omega⟩⟩
def pNeg (b : Nat) : Bool := decide ((b : Int) / 9223372036854775808 = 1)
def pE₀ (b : Nat) : Int := (b : Int) / 4503599627370496 % 2048
def pM₀ (b : Nat) : Int := (b : Int) % 4503599627370496
def pM (b : Nat) : Int := if pE₀ b = 2047 then 0 else if pE₀ b = 0 then pM₀ b else pM₀ b + 4503599627370496
def pE (b : Nat) : Int := if pE₀ b = 2047 then 0 else if pE₀ b = 0 then -1074 else pE₀ b - 1075
def pK (b : Nat) : Int := if pE₀ b = 2047 ∧ pM₀ b = 0 then 1 else if pE₀ b = 2047 then 2 else 0
attribute [local irreducible] Ex exOps exD opX opE thenX blkX RetQ Spec CSpec Fr condK guardK guardD ckK valK pickK loadK faK callK argK gK fK rK RetV lpX prK
set_option maxHeartbeats 4000000 in
theorem parts_c (H : List (List AV)) (b : Nat) (hb : b < 2 ^ 64) :
    CSpec Try.prog 95 [.fraw b] H (.tup [.bool (pNeg b), .int .u64 (pM b), .int .i64 (pE b), .int .i64 (pK b)]) H := by
  refine .mk (fun args w => Try.call95 args w) (Spec.intro' (fn := Try.f95) Try.func95 rfl (by kernel_rfl) (by simp) false [] (draw := drawX Try.prog ⟨false, _, []⟩) dOk ?_)
  simp only [argE, Nat.reduceAdd]
  repeat' (first
    | (refine gateE ?_; (first | (refine b_c0 ?_; (first | refine b_move (by (conv => {lhs; whnf}); done) ?_ | (refine b_bin (by (conv => {lhs; whnf}); done) (by (conv => {lhs; whnf}); done) (by (conv => {lhs; whnf}); done) ?_; (first | refine v_eT (by omega) ?_ | refine v_eF (by omega) ?_ | refine v_eP ?_ | refine v_w (by omega) ?_ | refine v_wu (by omega) ?_ | refine v_shr (by omega) (by decide) (by (conv => {lhs; simp [IntKind.bits]}); done) ?_ | refine v_mod (by omega) (by omega) ?_ | refine v_k ?_ | refine v_c (by omega) ?_)) | (refine b_pick (by (conv => {lhs; whnf}); done) ?_; (first | refine p_T (by (conv => {lhs; whnf}); done) ?_ | refine p_F (by (conv => {lhs; whnf}); done) ?_)) | refine b_assign (by (conv => {lhs; whnf}); done) ?_ | refine b_callB ?_ | (refine b_cnvI (by (conv => {lhs; whnf}); done) ?_; (first | refine v_eT (by omega) ?_ | refine v_eF (by omega) ?_ | refine v_eP ?_ | refine v_w (by omega) ?_ | refine v_wu (by omega) ?_ | refine v_shr (by omega) (by decide) (by (conv => {lhs; simp [IntKind.bits]}); done) ?_ | refine v_mod (by omega) (by omega) ?_ | refine v_k ?_ | refine v_c (by omega) ?_)) | refine b_cnvF (by (conv => {lhs; whnf}); done) rfl ?_ | refine b_cnvIF (by (conv => {lhs; whnf}); done) ?_)) | refine b_nil ?_ | refine b_gT (by exact rfl) (by exact rfl) ?_ | refine b_gF (by exact rfl) (by exact rfl) (by exact rfl) ?_ | refine b_gU (by exact rfl) (by exact rfl) (by constructor <;> simp) rfl rfl ?_ | (refine b_g0 (by exact rfl) (by exact rfl) (by (conv => {lhs; whnf}); done) ?_; (first | refine g_TT ?_ | refine g_FF ?_ | refine g_TF ?_ | refine g_FT ?_ | refine g_PT ?_ ?_ | refine g_PF ?_ ?_ | refine g_BT ?_ ?_ | refine g_BF ?_ ?_)) | (refine b_g1 (by exact rfl) (by exact rfl) (by exact rfl) (by (conv => {lhs; whnf}); done) ?_; (first | refine g_TT ?_ | refine g_FF ?_ | refine g_TF ?_ | refine g_FT ?_ | refine g_PT ?_ ?_ | refine g_PF ?_ ?_ | refine g_BT ?_ ?_ | refine g_BF ?_ ?_)) | refine b_c1 (by exact rfl) ?_))
    | (refine gateO ?_; (first | refine b_move (by (conv => {lhs; whnf}); done) ?_ | (refine b_bin (by (conv => {lhs; whnf}); done) (by (conv => {lhs; whnf}); done) (by (conv => {lhs; whnf}); done) ?_; (first | refine v_eT (by omega) ?_ | refine v_eF (by omega) ?_ | refine v_eP ?_ | refine v_w (by omega) ?_ | refine v_wu (by omega) ?_ | refine v_shr (by omega) (by decide) (by (conv => {lhs; simp [IntKind.bits]}); done) ?_ | refine v_mod (by omega) (by omega) ?_ | refine v_k ?_ | refine v_c (by omega) ?_)) | (refine b_pick (by (conv => {lhs; whnf}); done) ?_; (first | refine p_T (by (conv => {lhs; whnf}); done) ?_ | refine p_F (by (conv => {lhs; whnf}); done) ?_)) | refine b_assign (by (conv => {lhs; whnf}); done) ?_ | refine b_callB ?_ | (refine b_cnvI (by (conv => {lhs; whnf}); done) ?_; (first | refine v_eT (by omega) ?_ | refine v_eF (by omega) ?_ | refine v_eP ?_ | refine v_w (by omega) ?_ | refine v_wu (by omega) ?_ | refine v_shr (by omega) (by decide) (by (conv => {lhs; simp [IntKind.bits]}); done) ?_ | refine v_mod (by omega) (by omega) ?_ | refine v_k ?_ | refine v_c (by omega) ?_)) | refine b_cnvF (by (conv => {lhs; whnf}); done) rfl ?_ | refine b_cnvIF (by (conv => {lhs; whnf}); done) ?_))
    | (refine gateT ?_; (first | refine b_thn ?_ | refine b_thr ?_ | refine b_the ?_))
    | (refine gateX ?_; (first | refine b_seq ?_ | refine b_region ?_ | (refine b_cond (by (conv => {lhs; whnf}); done) ?_; (first | refine c_T ?_ | refine c_F ?_ | refine c_P ?_ ?_ | refine c_B ?_ ?_)) | refine b_ret ?_ | refine b_skip ?_ | refine b_block ?_ | refine b_exit ?_))
    | refine a_cons (by (conv => {lhs; whnf}); done) ?_
    | refine a_nil ?_
    | (refine gateK ?_; (first | refine c_call (bits_c _ _) (OldOk.refl _ _) ?_))
    | (refine gateQ ?_; refine b_retK (by simp) (by (conv => {lhs; whnf}); done) ?_)
    | (refine gateR ?_; (first | refine rk_tmp (by (conv => {lhs; whnf}); done) ?_ | refine rk_cellA (by (conv => {lhs; whnf}); done) rfl rfl ?_ | refine rk_cell1 (by (conv => {lhs; whnf}); done) rfl rfl ?_ | refine rk_nil ?_))
    | intro _)
  all_goals first | refine rv_old rfl (by simp [mx, mxL, aOf, aOf1, resOne]) ?_ | (trace_state; fail)
  all_goals (simp only [resOne, List.nil_append, List.cons_append, aOf, aOf1, pM, pE, pK, pNeg, pE₀, pM₀] at *; simp_all)


end Go.Sx
