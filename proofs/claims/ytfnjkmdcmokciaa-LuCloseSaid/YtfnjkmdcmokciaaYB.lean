/- A part of the proofs of this seat: YB. No condition is set. -/
import Derived.Test.YtfnjkmdcmokciaaXF
import Derived.Test.YtfnjkmdcmokciaaYA
set_option linter.unusedVariables false
set_option linter.unusedSimpArgs false
set_option maxRecDepth 20000
namespace Go.Sx
open Go.Proofs
attribute [local irreducible] Ex exOps exD opX opE thenX blkX RetQ Spec CSpec Fr condK guardK guardD ckK valK pickK loadK faK callK argK gK fK rK RetV lpX prK
set_option maxHeartbeats 4000000 in
theorem within_c (H : List (List AV)) (n off a b c : Int) (hn0 : 0 ≤ n) (hn : n ≤ 9223372036854775807) (h1 : 0 ≤ off) (h2 : 0 ≤ a) (h3 : 0 ≤ b) (h4 : 0 ≤ c) (ho : off ≤ 9223372036854775807) (ha : a ≤ 9223372036854775807) (hb : b ≤ 9223372036854775807) (hc : c ≤ 9223372036854775807) :
    CSpec Try.prog 81 [.int .i64 n, .int .i64 off, .int .i64 a, .int .i64 b, .int .i64 c] H (.bool (decide (off < n ∧ c < n - off ∧ a * b ≤ n - off - c - 1))) H := by
  refine .mk (fun args w => Try.call81 args w) (Spec.intro' (fn := Try.f81) Try.func81 rfl (by kernel_rfl) (by simp) false [] (draw := drawX Try.prog ⟨false, _, []⟩) dOk ?_)
  simp only [argE, Nat.reduceAdd]
  repeat' (first
    | (refine gateE ?_; (first | refine b_c0 ?_ | refine b_nil ?_ | refine b_gT (by exact rfl) (by exact rfl) ?_ | refine b_gF (by exact rfl) (by exact rfl) (by exact rfl) ?_ | refine b_gU (by exact rfl) (by exact rfl) (by constructor <;> simp) (by exact rfl) (by exact rfl) ?_ | (refine b_g0 (by exact rfl) (by exact rfl) (by (conv => {lhs; whnf}); done) ?_; (first | refine g_TT ?_ | refine g_FF ?_ | refine g_TF ?_ | refine g_FT ?_ | refine g_PT ?_ ?_ | refine g_PF ?_ ?_ | refine g_BT ?_ ?_ | refine g_BF ?_ ?_ | fail)) | (refine b_g1 (by exact rfl) (by exact rfl) (by exact rfl) (by (conv => {lhs; whnf}); done) ?_; (first | refine g_TT ?_ | refine g_FF ?_ | refine g_TF ?_ | refine g_FT ?_ | refine g_PT ?_ ?_ | refine g_PF ?_ ?_ | refine g_BT ?_ ?_ | refine g_BF ?_ ?_ | fail)) | refine b_c1 (by exact rfl) ?_ | fail))
    | (refine gateO ?_; (first | refine b_move (by (conv => {lhs; whnf}); done) ?_ | (refine b_binB (by first | (conv => {lhs; whnf}; done) | exact (by exact rfl) | fail) (by first | (conv => {lhs; whnf}; done) | exact (by exact rfl) | fail) ?_; (first | refine v_bbT (by exact rfl) ?_ | refine v_k ?_ | fail)) | (refine b_bin (by (conv => {lhs; whnf}); done) (by (conv => {lhs; whnf}); done) (by (conv => {lhs; whnf}); done) ?_; (first | refine v_eT (by omega) ?_ | refine v_eF (by omega) ?_ | refine v_eP ?_ | refine v_T (by omega) ?_ | refine v_F (by omega) ?_ | refine v_w (by omega) ?_ | refine v_wu (by omega) ?_ | refine v_qc (by omega) (by omega) ?_ | refine v_k ?_ | refine v_c (by omega) ?_ | fail)) | (refine b_pick (by (conv => {lhs; whnf}); done) ?_; (first | refine p_T (by (conv => {lhs; whnf}); done) ?_ | refine p_F (by (conv => {lhs; whnf}); done) ?_ | fail)) | refine b_assignF (by kernel_rfl) ?_ | refine b_assignI ?_ | refine b_assignN ?_ | refine b_assign (by (conv => {lhs; whnf}); done) ?_ | fail))
    | (refine gateT ?_; (first | refine b_thn ?_ | refine b_thr ?_ | refine b_the ?_ | fail))
    | (refine gateX ?_; (first | refine b_seq ?_ | refine b_region ?_ | (refine b_cond (by (conv => {lhs; whnf}); done) ?_; (first | refine c_T ?_ | refine c_F ?_ | refine c_P ?_ ?_ | refine c_B ?_ ?_ | fail)) | refine b_ret ?_ | refine b_skip ?_ | refine b_block ?_ | refine b_exit ?_ | fail))
    | (refine gateQ ?_; refine b_retK (by simp) (by (conv => {lhs; whnf}); done) ?_)
    | (refine gateR ?_; (first | refine rk_tmp (by (conv => {lhs; whnf}); done) ?_ | refine rk_cellA (by (conv => {lhs; whnf}); done) (by exact rfl) (by exact rfl) ?_ | refine rk_cell1 (by (conv => {lhs; whnf}); done) (by exact rfl) (by exact rfl) ?_ | refine rk_nil ?_ | fail))
    | intro _)
  all_goals first | refine rv_old rfl (by simp [mx, mxL, aOf, aOf1, resOne]) ?_ | (trace_state; fail)
  all_goals first
    | exact rtF (by omega)
    | (refine rtT ?_; subst a; simp; omega)
    | (refine rvT ?_; simp_all; omega)
    | (refine rvP ?_; rw [Int.le_ediv_iff_mul_le (by omega), Int.mul_comm]; omega)

set_option maxHeartbeats 4000000 in
theorem goodref_c (H : List (List AV)) (D : AV) (n : Nat) (off rows cols ld : Int) (hD : slen D = some n) (hI : MI n off rows cols ld) :
    CSpec Try.prog 16 [mt D off rows cols ld] H (.bool (decide (GoodP n off rows cols ld))) H := by
  obtain ⟨hn, ho1, ho2, hr1, hr2, hc1, hc2, hl1, hl2⟩ := id hI
  refine .mk (fun args w => Try.call16 args w) (Spec.intro' (fn := Try.f16) Try.func16 rfl (by kernel_rfl) (by simp) false [] (draw := drawX Try.prog ⟨false, _, []⟩) dOk ?_)
  simp only [argE, Nat.reduceAdd]
  repeat' (first
    | (refine gateE ?_; (first | refine b_c0 ?_ | refine b_nil ?_ | refine b_gT (by exact rfl) (by exact rfl) ?_ | refine b_gF (by exact rfl) (by exact rfl) (by exact rfl) ?_ | refine b_gU (by exact rfl) (by exact rfl) (by constructor <;> simp) (by exact rfl) (by exact rfl) ?_ | (refine b_g0 (by exact rfl) (by exact rfl) (by (conv => {lhs; whnf}); done) ?_; (first | refine g_TT ?_ | refine g_FF ?_ | refine g_TF ?_ | refine g_FT ?_ | refine g_PT ?_ ?_ | refine g_PF ?_ ?_ | refine g_BT ?_ ?_ | refine g_BF ?_ ?_ | fail)) | (refine b_g1 (by exact rfl) (by exact rfl) (by exact rfl) (by (conv => {lhs; whnf}); done) ?_; (first | refine g_TT ?_ | refine g_FF ?_ | refine g_TF ?_ | refine g_FT ?_ | refine g_PT ?_ ?_ | refine g_PF ?_ ?_ | refine g_BT ?_ ?_ | refine g_BF ?_ ?_ | fail)) | refine b_c1 (by exact rfl) ?_ | fail))
    | (refine gateO ?_; (first | refine b_move (by (conv => {lhs; whnf}); done) ?_ | (refine b_fa (by (conv => {lhs; whnf}); done) ?_; first | refine f_loc (by (conv => {lhs; whnf}); done) ?_ | refine f_ptr (by (conv => {lhs; whnf}); done) ?_) | (refine b_load (by (conv => {lhs; whnf}); done) ?_; (first | refine l_loc1 (by exact rfl) (by exact rfl) ?_ | refine l_locA (by exact rfl) (by exact rfl) ?_ | fail)) | (refine b_binB (by first | (conv => {lhs; whnf}; done) | exact (by exact rfl) | fail) (by first | (conv => {lhs; whnf}; done) | exact (by exact rfl) | fail) ?_; (first | refine v_bbT (by exact rfl) ?_ | refine v_k ?_ | fail)) | (refine b_bin (by (conv => {lhs; whnf}); done) (by (conv => {lhs; whnf}); done) (by (conv => {lhs; whnf}); done) ?_; (first | refine v_eT (by omega) ?_ | refine v_eF (by omega) ?_ | refine v_eP ?_ | refine v_T (by omega) ?_ | refine v_F (by omega) ?_ | refine v_w (by omega) ?_ | refine v_wu (by omega) ?_ | refine v_k ?_ | refine v_c (by omega) ?_ | fail)) | (refine b_pick (by (conv => {lhs; whnf}); done) ?_; (first | refine p_T (by (conv => {lhs; whnf}); done) ?_ | refine p_F (by (conv => {lhs; whnf}); done) ?_ | fail)) | refine b_assignF (by kernel_rfl) ?_ | refine b_assignI ?_ | refine b_assignN ?_ | refine b_assign (by (conv => {lhs; whnf}); done) ?_ | refine b_callB ?_ | refine b_lenA (by (conv => {lhs; whnf}); done) (by first | rfl | assumption) ?_ | refine b_box (by (conv => {lhs; whnf}); done) (by exact rfl) (by exact rfl) (by exact rfl) (by exact rfl) ?_ | fail))
    | (refine gateT ?_; (first | refine b_thn ?_ | refine b_thr ?_ | refine b_the ?_ | fail))
    | (refine gateX ?_; (first | refine b_seq ?_ | refine b_region ?_ | (refine b_cond (by (conv => {lhs; whnf}); done) ?_; (first | refine c_T ?_ | refine c_F ?_ | refine c_P ?_ ?_ | refine c_B ?_ ?_ | fail)) | refine b_ret ?_ | refine b_skip ?_ | refine b_block ?_ | refine b_exit ?_ | fail))
    | refine a_cons (by (conv => {lhs; whnf}); done) ?_
    | refine a_nil ?_
    | (refine gateK ?_; (first | refine c_call (within_c _ _ _ _ _ _ (by omega) (by omega) (by omega) (by omega) (by omega) (by omega) (by omega) (by omega) (by omega) (by omega)) (OldOk.refl _ _) ?_ | fail))
    | (refine gateQ ?_; refine b_retK (by simp) (by (conv => {lhs; whnf}); done) ?_)
    | (refine gateR ?_; (first | refine rk_tmp (by (conv => {lhs; whnf}); done) ?_ | refine rk_cellA (by (conv => {lhs; whnf}); done) (by exact rfl) (by exact rfl) ?_ | refine rk_cell1 (by (conv => {lhs; whnf}); done) (by exact rfl) (by exact rfl) ?_ | refine rk_nil ?_ | fail))
    | intro _)
  all_goals first | refine rv_old rfl (by simp [mx, mxL, aOf, aOf1, resOne]) ?_ | (trace_state; fail)
  all_goals first
    | exact rtF (by unfold GoodP; omega)
    | exact rtT (by unfold GoodP; omega)
    | exact rvP (by unfold GoodP; omega)

set_option maxHeartbeats 4000000 in
theorem dense_k (H H' : List (List AV)) (r c : Nat) (hr : r ≤ 64) (hc : c ≤ 64) (D : AV) (l : List Nat) (hF : FL H D l) (hB : l.length ≤ 2 ^ 30) (m : Nat) (hm : H.length = m) (hH : H ++ [fl (denseL r c l)] = H') :
    CSpec Try.prog 33 [.int .i64 (r : Int), .int .i64 (c : Int), D] H (mt (.slm m (r * c) 0 (r * c) 1) 0 r c ((max r 1 : Nat) : Int)) H' := by
  subst hH hm
  obtain ⟨D', hs, hF'⟩ := hF.slc (Nat.zero_le (min l.length (r * c))) (Nat.min_le_left _ _)
  simp only [List.drop_zero, Nat.sub_zero] at hF'
  have hql : (l.take (min l.length (r * c))).length = min l.length (r * c) := by rw [List.length_take]; omega
  have hrc : r * c ≤ 4096 := by have := Nat.mul_le_mul hr hc; omega
  have hmin : min (l.length : Int) ((r * c : Nat) : Int) = ((min l.length (r * c) : Nat) : Int) := by omega
  have hmax : max (r : Int) 1 = ((max r 1 : Nat) : Int) := by omega
  have hmax2 : max r 1 ≤ 64 := by omega
  have hdiv : ∀ k, k < r * c → 0 < c ∧ k / c ≤ 4096 ∧ k % c ≤ 64 ∧ k % c * max r 1 ≤ 4096 ∧ k / c + k % c * max r 1 < r * c := fun k hk => by
    have hc0 : 0 < c := by rcases Nat.eq_zero_or_pos c with h0 | h0; · subst h0; simp at hk
                           · exact h0
    have h1 := Nat.div_le_self k c
    have h2 := Nat.mod_lt k hc0
    have h3 := dIx_lt hk
    unfold dIx at h3
    exact ⟨hc0, by omega, by omega, by have := Nat.mul_le_mul (show k % c ≤ 64 by omega) hmax2; omega, h3⟩
  generalize hl' : l.take (min l.length (r * c)) = l' at hF' hql
  have hH0 : fl (List.replicate (r * c) 0) = fl (denseN r c l' 0) := rfl
  have hdl : denseL r c l = denseN r c l' (min l.length (r * c)) := by rw [denseL, hl']
  refine .mk (fun args w => Try.call33 args w) (Spec.intro' (fn := Try.f33) Try.func33 rfl (by kernel_rfl) (by simp) false [] (draw := drawX Try.prog ⟨false, _, []⟩) dOk ?_)
  simp only [argE, Nat.reduceAdd]
  repeat' (first
    | (refine gateE ?_; (first | refine b_c0 ?_ | refine b_nil ?_ | refine b_gT (by exact rfl) (by exact rfl) ?_ | refine b_gF (by exact rfl) (by exact rfl) (by exact rfl) ?_ | refine b_gU (by exact rfl) (by exact rfl) (by constructor <;> simp) (by exact rfl) (by exact rfl) ?_ | (refine b_g0 (by exact rfl) (by exact rfl) (by (conv => {lhs; whnf}); done) ?_; (first | refine g_TT ?_ | refine g_FF ?_ | refine g_TF ?_ | refine g_FT ?_ | refine g_PT ?_ ?_ | refine g_PF ?_ ?_ | refine g_BT ?_ ?_ | refine g_BF ?_ ?_ | fail)) | (refine b_g1 (by exact rfl) (by exact rfl) (by exact rfl) (by (conv => {lhs; whnf}); done) ?_; (first | refine g_TT ?_ | refine g_FF ?_ | refine g_TF ?_ | refine g_FT ?_ | refine g_PT ?_ ?_ | refine g_PF ?_ ?_ | refine g_BT ?_ ?_ | refine g_BF ?_ ?_ | fail)) | refine b_c1 (by exact rfl) ?_ | fail))
    | (refine gateO ?_; (first | refine b_moveF (by kernel_rfl) ?_ | refine b_moveI ?_ | refine b_move (by (conv => {lhs; whnf}); done) ?_ | (refine b_fa (by (conv => {lhs; whnf}); done) ?_; first | refine f_loc (by (conv => {lhs; whnf}); done) ?_ | refine f_ptr (by (conv => {lhs; whnf}); done) ?_) | (refine b_load (by (conv => {lhs; whnf}); done) ?_; (first | refine l_loc1 (by exact rfl) (by exact rfl) ?_ | refine l_locA (by exact rfl) (by exact rfl) ?_ | refine l_FL (FL.app hF' _) (by omega) ?_ | fail)) | refine b_iaN (by (conv => {lhs; whnf}); done) (by (conv => {lhs; whnf}); done) (by exact hF'.len) (by omega) ?_ | refine b_iaN (by (conv => {lhs; whnf}); done) (by (conv => {lhs; whnf}); done) (by exact rfl) (by (have hd := hdiv k (by omega); omega)) ?_ | refine b_lenA (by (conv => {lhs; whnf}); done) (by exact hF.len) ?_ | refine b_lenA (by (conv => {lhs; whnf}); done) (by exact hF'.len.trans (congrArg some hql)) ?_ | refine b_mkf (by (conv => {lhs; whnf}); done) (by (conv => {lhs; whnf}); done) (by exact rfl) (by (conv => {lhs; whnf}); done) (by (conv => {lhs; simp only [List.nil_append, List.cons_append]}); done) (by exact rfl) (by omega) ?_ | refine b_slc (by (conv => {lhs; whnf}); done) (by exact hF.len) (by (conv => {lhs; whnf}); done) (by (conv => {lhs; whnf}); done) (by omega) (by exact hs) ?_ | refine b_stN (by (conv => {lhs; whnf}); done) (by (conv => {lhs; whnf}); done) (by exact rfl) (by exact rfl) (by simp) (by simp; (have hd := hdiv k (by omega); omega)) (m' := denseN r c l' (k + 1)) (by rw [Nat.zero_add]; rfl) (by (conv => {lhs; simp only [List.set_cons_zero, List.set_cons_succ]}); done) ?_ | (refine b_bin (by (conv => {lhs; whnf}); done) (by (conv => {lhs; whnf}); done) (by (conv => {lhs; whnf}); done) ?_; (first | refine v_addN (by first | omega | (have hd := hdiv k (by omega); omega)) ?_ | refine v_mulN (by first | omega | (have hd := hdiv k (by omega); omega)) ?_ | refine v_quoN (by first | omega | (have hd := hdiv k (by omega); omega)) (by omega) ?_ | refine v_modN (by first | omega | (have hd := hdiv k (by omega); omega)) ?_ | refine v_T (by omega) ?_ | refine v_F (by omega) ?_ | refine v_w (by omega) ?_ | refine v_wu (by omega) ?_ | refine v_mod (by omega) (by omega) ?_ | refine v_qc (by omega) (by omega) ?_ | refine v_k ?_ | refine v_c (by omega) ?_ | fail)) | (refine b_pick (by (conv => {lhs; whnf}); done) ?_; (first | refine p_T (by (conv => {lhs; whnf}); done) ?_ | refine p_F (by (conv => {lhs; whnf}); done) ?_ | fail)) | refine b_assign (by (conv => {lhs; whnf}); done) ?_ | refine b_lenA (by (conv => {lhs; whnf}); done) (by first | rfl | assumption) ?_ | refine b_stL (by (conv => {lhs; whnf}); done) (by (conv => {lhs; whnf}); done) (by first | exact (by exact rfl) | exact cells_of_len hF.len | fail) (by exact rfl) (by exact rfl) (by exact Nat.le_of_ble_eq_true rfl) (by (conv => {lhs; simp only [sc, List.set_cons_zero, List.set_cons_succ]}); done) ?_ | refine b_alloc (by exact rfl) (by exact rfl) ?_ | refine b_build ?_ | refine b_max2 (by first | (conv => {lhs; whnf}; done) | exact (by exact rfl) | fail) (by first | (conv => {lhs; whnf}; done) | exact (by exact rfl) | fail) (by first | assumption | exact rfl) ?_ | refine b_min2 (by first | (conv => {lhs; whnf}; done) | exact (by exact rfl) | fail) (by first | (conv => {lhs; whnf}; done) | exact (by exact rfl) | fail) (by first | assumption | exact rfl) ?_ | fail))
    | (refine gateD ?_; (first | refine d_c0 (by exact rfl) ?_ | refine d_nil ?_ | refine d_gT (by exact rfl) (by exact rfl) (by exact rfl) ?_ | refine d_gF (by exact rfl) (by exact rfl) (by exact rfl) (by exact rfl) ?_ | refine d_gU (by exact rfl) (by exact rfl) (by exact rfl) (by constructor <;> simp) (by exact rfl) (by exact rfl) ?_ | (refine d_g0 (by exact rfl) (by exact rfl) (by exact rfl) (by (conv => {lhs; whnf}); done) ?_; (first | refine dg_TT ?_ | refine dg_FF ?_ | refine dg_TF ?_ | refine dg_FT ?_ | refine dg_PT ?_ ?_ | refine dg_PF ?_ ?_ | refine dg_BT ?_ ?_ | refine dg_BF ?_ ?_ | fail)) | (refine d_g1 (by exact rfl) (by exact rfl) (by exact rfl) (by exact rfl) (by (conv => {lhs; whnf}); done) ?_; (first | refine dg_TT ?_ | refine dg_FF ?_ | refine dg_TF ?_ | refine dg_FT ?_ | refine dg_PT ?_ ?_ | refine dg_PF ?_ ?_ | refine dg_BT ?_ ?_ | refine dg_BF ?_ ?_ | fail)) | refine d_c1 (by exact rfl) (by exact rfl) ?_ | fail))
    | (refine gateC ?_; (first | refine k_lt ?_ | refine k_fz ?_ | refine k_lb (by (conv => {lhs; whnf}); done) ?_ | refine k_ms ?_ | refine k_bx (by exact rfl) (by exact rfl) ?_ | refine k_ld (by (conv => {lhs; whnf}); done) (by exact rfl) ?_ | refine k_ldT (by (conv => {lhs; whnf}); done) ?_ | refine k_bin (by (conv => {lhs; whnf}); done) (by exact rfl) ?_ | refine k_mn ?_ | refine k_mnB (by exact rfl) ?_ | refine k_mnF ?_ | refine k_mnL (by exact rfl) ?_ | fail))
    | (refine gateT ?_; (first | refine b_thn ?_ | refine b_thr ?_ | refine b_the ?_ | fail))
    | (refine gateX ?_; (first | refine b_seq ?_ | refine b_region ?_ | (refine b_cond (by (conv => {lhs; whnf}); done) ?_; (first | refine c_T ?_ | refine c_F ?_ | refine c_P ?_ ?_ | refine c_B ?_ ?_ | fail)) | refine b_ret ?_ | refine b_skip ?_ | refine b_block ?_ | refine b_exit ?_ | refine b_draw (id := 7) [] [14] [(0, .lt), (1, .ld true), (2, .lt), (3, .lt), (4, .lt), (5, .lt), (6, .lt), (7, .lt), (8, .lt), (9, .ld true), (10, .lt), (11, .lt), (12, .lt), (13, .lt), (14, .mn false)] (by kernel_rfl) ?_ | (refine b_loop [43, 41, 42, 1, 7, 6] (min l.length (r * c)) (fun k => ⟨[(43, .val (.int .i64 (k : Int))), (41, .val D'), (42, .val (.int .i64 ((min l.length (r * c) : Nat) : Int))), (1, .val (.int .i64 (c : Int))), (7, .loc 7 0), (6, .loc 6 0)], [(7, [.slm (H.length + 0) (r * c) 0 (r * c) 1, .int .i64 0, .int .i64 (r : Int), .int .i64 (c : Int), .int .i64 ((max r 1 : Nat) : Int)]), (6, [.slnil, .int .i64 0, .int .i64 0, .int .i64 0, .int .i64 0])], H ++ [fl (denseN r c l' k)]⟩) (by exact rfl) ?_ ?_ <;> (first | intro k hk K hK | intro K) <;> (try dsimp only at *) <;> (try simp only [Int.natCast_add, Int.natCast_one] at *)) | fail))
    | refine fk_cons (by (conv => {lhs; whnf}); done) (by first | exact (by exact rfl) | exact cells_of_len hF.len | fail) (by exact rfl) (by exact rfl) (by (conv => {lhs; simp only [sc, List.set_cons_zero, List.set_cons_succ]}); done) ?_
    | refine fk_nil ?_
    | (refine gateB ?_; (first | refine b_bln ?_ | refine b_blr ?_ | refine b_ble ?_ | refine b_blo (by exact rfl) ?_ | fail))
    | (refine gateL ?_; (first | refine lp_n ?_ | refine lp_r ?_ | refine lp_e ?_ | fail))
    | (refine pr_k (by exact rfl) ?_; first | exact hK | (exfalso; first | omega | (simp_all; done) | (simp_all; omega)))
    | (refine gateQ ?_; refine b_retK (by simp) (by (conv => {lhs; whnf}); done) ?_)
    | (refine gateR ?_; (first | refine rk_tmp (by (conv => {lhs; whnf}); done) ?_ | refine rk_cellA (by (conv => {lhs; whnf}); done) (by exact rfl) (by exact rfl) ?_ | refine rk_cell1 (by (conv => {lhs; whnf}); done) (by exact rfl) (by exact rfl) ?_ | refine rk_nil ?_ | fail))
    | intro _)
  all_goals first
    | (rw [hdl]; exact rv_kp (j := 0) (cs := fl (denseN r c l' (min l.length (r * c)))) rfl rfl (by rw [mxL_fl]; exact Nat.zero_le _) (Fr.agg (Frs.cons (Fr.kp (j := 0) (cs := fl (denseN r c l' (min l.length (r * c)))) rfl (hg_new rfl rfl) (by simp)) (Frs.old (by simp [mxL, mx])))))


end Go.Sx

set_option linter.unusedVariables false
set_option linter.unusedSimpArgs false
set_option maxRecDepth 20000
namespace Go.Sx
open Go.Proofs

theorem all_t (H : List (List AV)) (Da : AV) (la : List Nat) (hFa : FL H Da la) (hBa : la.length ≤ 2 ^ 48) (Db : AV) (lb : List Nat) (hFb : FL H Db lb) (h : la = lb) : CSpec Try.prog 21 [Da, Db] H (.bool true) H := by
  have := all_c H Da la hFa hBa Db lb hFb (by rw [← h]; exact hBa)
  rwa [decide_eq_true h] at this
attribute [local irreducible] Ex exOps exD opX opE thenX blkX RetQ Spec CSpec Fr condK guardK guardD ckK valK pickK loadK faK callK argK gK fK rK RetV lpX prK
end Go.Sx

set_option linter.unusedVariables false
set_option linter.unusedSimpArgs false
set_option maxRecDepth 20000
namespace Go.Sx
open Go.Proofs
attribute [local irreducible] Ex exOps exD opX opE thenX blkX RetQ Spec CSpec Fr condK guardK guardD ckK valK pickK loadK faK callK argK gK fK rK RetV lpX prK
set_option maxHeartbeats 4000000 in
theorem mabs_c (H : List (List AV)) (x : Nat) :
    CSpec Try.prog 137 [.flt x] H (.flt (absF x)) H := by
  refine .mk (fun args w => Try.call137 args w) (Spec.raw1 (fun b hb hbx => Spec.intro' (fn := Try.f137) Try.func137 rfl (by kernel_rfl) (by simp) false [] (draw := drawX Try.prog ⟨false, _, []⟩) dOk ?_))
  simp only [argE, Nat.reduceAdd]
  repeat' (first
    | (refine gateE ?_; (first | refine b_c0 ?_ | refine b_nil ?_ | fail))
    | (refine gateO ?_; (first | refine b_move (by (conv => {lhs; whnf}); done) ?_ | (refine b_bin (by (conv => {lhs; whnf}); done) (by (conv => {lhs; whnf}); done) (by (conv => {lhs; whnf}); done) ?_; (first | refine v_andn (by assumption) ?_ | refine v_w (by omega) ?_ | refine v_wu (by omega) ?_ | refine v_k ?_ | refine v_c (by omega) ?_ | fail)) | refine b_assignF (by kernel_rfl) ?_ | refine b_assignI ?_ | refine b_assignN ?_ | refine b_assign (by (conv => {lhs; whnf}); done) ?_ | refine b_callB ?_ | fail))
    | (refine gateT ?_; (first | refine b_thn ?_ | refine b_thr ?_ | refine b_the ?_ | fail))
    | (refine gateX ?_; (first | refine b_seq ?_ | refine b_region ?_ | (refine b_cond (by (conv => {lhs; whnf}); done) ?_; (first | refine c_T ?_ | refine c_F ?_ | refine c_P ?_ ?_ | refine c_B ?_ ?_ | fail)) | refine b_ret ?_ | refine b_skip ?_ | refine b_block ?_ | refine b_exit ?_ | fail))
    | refine a_cons (by (conv => {lhs; whnf}); done) ?_
    | refine a_nil ?_
    | (refine gateK ?_; (first | refine c_call (bits_c _ _) (OldOk.app (by simp)) ?_ | refine c_call (frombits_c _ _ (by omega)) (OldOk.app (by simp)) ?_ | fail))
    | (refine gateQ ?_; refine b_retK (by simp) (by (conv => {lhs; whnf}); done) ?_)
    | (refine gateR ?_; (first | refine rk_tmp (by (conv => {lhs; whnf}); done) ?_ | refine rk_cellA (by (conv => {lhs; whnf}); done) (by exact rfl) (by exact rfl) ?_ | refine rk_cell1 (by (conv => {lhs; whnf}); done) (by exact rfl) (by exact rfl) ?_ | refine rk_nil ?_ | fail))
    | intro _)
  all_goals first
    | (refine rv_fr rfl ?_; subst hbx; rw [absF_cn]; exact Fr.raw _)

set_option maxHeartbeats 4000000 in
theorem rabs_c (H : List (List AV)) (x : Nat) :
    CSpec Try.prog 41 [.flt x] H (.flt (absF x)) H := by
  refine .mk (fun args w => Try.call41 args w) (Spec.raw1 (fun b hb hbx => Spec.intro' (fn := Try.f41) Try.func41 rfl (by kernel_rfl) (by simp) false [] (draw := drawX Try.prog ⟨false, _, []⟩) dOk ?_))
  simp only [argE, Nat.reduceAdd]
  repeat' (first
    | (refine gateE ?_; (first | refine b_c0 ?_ | refine b_nil ?_ | fail))
    | (refine gateO ?_; (first | refine b_move (by (conv => {lhs; whnf}); done) ?_ | (refine b_bin (by (conv => {lhs; whnf}); done) (by (conv => {lhs; whnf}); done) (by (conv => {lhs; whnf}); done) ?_; (first | refine v_w (by omega) ?_ | refine v_wu (by omega) ?_ | refine v_mod (by omega) (by omega) ?_ | refine v_k ?_ | refine v_c (by omega) ?_ | fail)) | refine b_assignF (by kernel_rfl) ?_ | refine b_assignI ?_ | refine b_assignN ?_ | refine b_assign (by (conv => {lhs; whnf}); done) ?_ | refine b_callB ?_ | fail))
    | (refine gateT ?_; (first | refine b_thn ?_ | refine b_thr ?_ | refine b_the ?_ | fail))
    | (refine gateX ?_; (first | refine b_seq ?_ | refine b_region ?_ | (refine b_cond (by (conv => {lhs; whnf}); done) ?_; (first | refine c_T ?_ | refine c_F ?_ | refine c_P ?_ ?_ | refine c_B ?_ ?_ | fail)) | refine b_ret ?_ | refine b_skip ?_ | refine b_block ?_ | refine b_exit ?_ | fail))
    | refine a_cons (by (conv => {lhs; whnf}); done) ?_
    | refine a_nil ?_
    | (refine gateK ?_; (first | refine c_call (bits_c _ _) (OldOk.app (by simp)) ?_ | refine c_call (frombits_c _ _ (by omega)) (OldOk.app (by simp)) ?_ | fail))
    | (refine gateQ ?_; refine b_retK (by simp) (by (conv => {lhs; whnf}); done) ?_)
    | (refine gateR ?_; (first | refine rk_tmp (by (conv => {lhs; whnf}); done) ?_ | refine rk_cellA (by (conv => {lhs; whnf}); done) (by exact rfl) (by exact rfl) ?_ | refine rk_cell1 (by (conv => {lhs; whnf}); done) (by exact rfl) (by exact rfl) ?_ | refine rk_nil ?_ | fail))
    | intro _)
  all_goals first
    | (refine rv_fr rfl ?_; subst hbx; rw [absF_cn]; exact Fr.raw _)

set_option maxHeartbeats 4000000 in
theorem rgreat_c (H : List (List AV)) (D : AV) (l : List Nat) (hF : FL H D l) (hB : l.length ≤ 2 ^ 30) :
    CSpec Try.prog 98 [D] H (.flt (greatF l)) H := by
  obtain ⟨N, hN1, hN2, hN3, hN4⟩ := first_nan l
  have hs : ∀ k, k < l.length → mxF (fo mxF 0 l k) (l.getD k 0) = fo mxF 0 l (k + 1) := fun k hk => (fo_succ hk).symm
  refine .mk (fun args w => Try.call98 args w) (Spec.intro' (fn := Try.f98) Try.func98 rfl (by kernel_rfl) (by simp) false [] (draw := drawX Try.prog ⟨false, _, []⟩) dOk ?_)
  simp only [argE, Nat.reduceAdd]
  repeat' (first
    | (refine gateE ?_; (first | refine b_c0 ?_ | refine b_nil ?_ | fail))
    | (refine gateO ?_; (first | refine b_move (by (conv => {lhs; whnf}); done) ?_ | (refine b_load (by (conv => {lhs; whnf}); done) ?_; (first | refine l_loc1 (by exact rfl) (by exact rfl) ?_ | refine l_locA (by exact rfl) (by exact rfl) ?_ | refine l_FL (FL.app hF _) (by omega) ?_ | fail)) | refine b_iaN (by (conv => {lhs; whnf}); done) (by (conv => {lhs; whnf}); done) (by exact hF.len) (by omega) ?_ | refine b_lenA (by (conv => {lhs; whnf}); done) (by exact hF.len) ?_ | (refine b_bin (by (conv => {lhs; whnf}); done) (by (conv => {lhs; whnf}); done) (by (conv => {lhs; whnf}); done) ?_; (first | refine v_neT (by omega) ?_ | refine v_neF (by omega) ?_ | refine v_neP ?_ | refine v_T (by omega) ?_ | refine v_F (by omega) ?_ | refine v_w (by omega) ?_ | refine v_wu (by omega) ?_ | refine v_k ?_ | refine v_c (by omega) ?_ | fail)) | refine b_assignF (by kernel_rfl) ?_ | refine b_assignI ?_ | refine b_assignN ?_ | refine b_assign (by (conv => {lhs; whnf}); done) ?_ | refine b_lenA (by (conv => {lhs; whnf}); done) (by first | rfl | assumption) ?_ | fail))
    | (refine gateD ?_; (first | refine d_c0 (by exact rfl) ?_ | refine d_nil ?_ | fail))
    | (refine gateC ?_; (first | refine k_lt ?_ | refine k_ld (by (conv => {lhs; whnf}); done) (by exact rfl) ?_ | refine k_ldT (by (conv => {lhs; whnf}); done) ?_ | refine k_bin (by (conv => {lhs; whnf}); done) (by exact rfl) ?_ | refine k_mn ?_ | refine k_mnB (by exact rfl) ?_ | refine k_mnF ?_ | fail))
    | (refine gateT ?_; (first | refine b_thn ?_ | refine b_thr ?_ | refine b_the ?_ | fail))
    | (refine gateX ?_; (first | refine b_seq ?_ | refine b_region ?_ | (refine b_cond (by (conv => {lhs; whnf}); done) ?_; (first | refine c_T ?_ | refine c_F ?_ | refine c_P ?_ ?_ | refine c_B ?_ ?_ | fail)) | refine b_ret ?_ | refine b_skip ?_ | refine b_block ?_ | refine b_exit ?_ | refine b_draw [] [] [(0, .lt), (1, .lt), (2, .lt), (3, .ld true), (4, .lt), (5, .lt), (6, .lt), (7, .ld true), (8, .ld true)] (by kernel_rfl) ?_ | (refine b_loop [4, 0, 3, 2] N (fun k => ⟨[(4, .val (.int .i64 (k : Int))), (0, .val D), (3, .val (.flt 0)), (2, .val (.flt 0))], [], H ++ []⟩) (by exact rfl) ?_ ?_ <;> (first | intro k hk K hK | intro K) <;> (try dsimp only at *) <;> (try simp only [Int.natCast_add, Int.natCast_one] at *)) | (refine b_loop [5, 0, 3, 2] l.length (fun k => ⟨[(5, .val (.int .i64 (k : Int))), (0, .val D), (3, .val (.flt (fo mxF 0 l k))), (2, .val (.flt 0))], [], H ++ []⟩) (by exact rfl) ?_ ?_ <;> (first | intro k hk K hK | intro K) <;> (try dsimp only at *) <;> (try simp only [Int.natCast_add, Int.natCast_one] at *)) | fail))
    | (refine gateB ?_; (first | refine b_bln ?_ | refine b_blr ?_ | refine b_ble ?_ | refine b_blo (by exact rfl) ?_ | fail))
    | (refine gateL ?_; (first | refine lp_n ?_ | refine lp_r ?_ | refine lp_e ?_ | fail))
    | (refine pr_k (by exact rfl) ?_; first | exact hK | (rw [← hs k (by omega), mxF_T (by assumption)] at hK; exact hK) | (rw [← hs k (by omega), mxF_F (by assumption)] at hK; exact hK) | (exfalso; first | omega | (simp_all; done) | (simp_all; omega)))
    | (refine gateQ ?_; refine b_retK (by simp) (by (conv => {lhs; whnf}); done) ?_)
    | (refine gateR ?_; (first | refine rk_tmp (by (conv => {lhs; whnf}); done) ?_ | refine rk_cellA (by (conv => {lhs; whnf}); done) (by exact rfl) (by exact rfl) ?_ | refine rk_cell1 (by (conv => {lhs; whnf}); done) (by exact rfl) (by exact rfl) ?_ | refine rk_nil ?_ | fail))
    | intro _)
  all_goals first | refine rv_old rfl (by simp [mx, mxL, aOf, aOf1, resOne]) ?_ | (trace_state; fail)
  all_goals refine congrArg AV.flt ?_
  all_goals first
    | (exact (hN3 (by omega)).2.symm)
    | (exfalso; have := hN2 k hk; simp_all; done)
    | (rw [hN4 (by omega), ← fo_all mxF 0 l]; first | done | exact rfl | (rw [show N = l.length by omega]; done))


end Go.Sx

set_option linter.unusedVariables false
set_option linter.unusedSimpArgs false
set_option maxRecDepth 20000
namespace Go.Sx
open Go.Proofs
attribute [local irreducible] Ex exOps exD opX opE thenX blkX RetQ Spec CSpec Fr condK guardK guardD ckK valK pickK loadK faK callK argK gK fK rK RetV lpX prK
set_option maxHeartbeats 4000000 in
theorem right_c (H : List (List AV)) (D : AV) (l : List Nat) (hF : FL H D l) (off n inc : Int) (hI : VI l.length off n inc) :
    CSpec Try.prog 141 [vt D off n inc] H (.bool (decide (RightP l.length off n inc))) H := by
  obtain ⟨hm, ho1, ho2, hn1, hn2, hi1, hi2⟩ := id hI
  refine .mk (fun args w => Try.call141 args w) (Spec.intro' (fn := Try.f141) Try.func141 rfl (by kernel_rfl) (by simp) false [] (draw := drawX Try.prog ⟨false, _, []⟩) dOk ?_)
  simp only [argE, Nat.reduceAdd]
  repeat' (first
    | (refine gateE ?_; (first | refine b_c0 ?_ | refine b_nil ?_ | refine b_gT (by exact rfl) (by exact rfl) ?_ | refine b_gF (by exact rfl) (by exact rfl) (by exact rfl) ?_ | refine b_gU (by exact rfl) (by exact rfl) (by constructor <;> simp) (by exact rfl) (by exact rfl) ?_ | (refine b_g0 (by exact rfl) (by exact rfl) (by (conv => {lhs; whnf}); done) ?_; (first | refine g_TT ?_ | refine g_FF ?_ | refine g_TF ?_ | refine g_FT ?_ | refine g_PT ?_ ?_ | refine g_PF ?_ ?_ | refine g_BT ?_ ?_ | refine g_BF ?_ ?_ | fail)) | (refine b_g1 (by exact rfl) (by exact rfl) (by exact rfl) (by (conv => {lhs; whnf}); done) ?_; (first | refine g_TT ?_ | refine g_FF ?_ | refine g_TF ?_ | refine g_FT ?_ | refine g_PT ?_ ?_ | refine g_PF ?_ ?_ | refine g_BT ?_ ?_ | refine g_BF ?_ ?_ | fail)) | refine b_c1 (by exact rfl) ?_ | fail))
    | (refine gateO ?_; (first | refine b_move (by (conv => {lhs; whnf}); done) ?_ | (refine b_fa (by (conv => {lhs; whnf}); done) ?_; first | refine f_loc (by (conv => {lhs; whnf}); done) ?_ | refine f_ptr (by (conv => {lhs; whnf}); done) ?_) | (refine b_load (by (conv => {lhs; whnf}); done) ?_; (first | refine l_loc1 (by exact rfl) (by exact rfl) ?_ | refine l_locA (by exact rfl) (by exact rfl) ?_ | fail)) | refine b_lenA (by (conv => {lhs; whnf}); done) (by exact hF.len) ?_ | (refine b_binB (by first | (conv => {lhs; whnf}; done) | exact (by exact rfl) | fail) (by first | (conv => {lhs; whnf}; done) | exact (by exact rfl) | fail) ?_; (first | refine v_bbT (by exact rfl) ?_ | refine v_k ?_ | fail)) | (refine b_bin (by (conv => {lhs; whnf}); done) (by (conv => {lhs; whnf}); done) (by (conv => {lhs; whnf}); done) ?_; (first | refine v_eT (by omega) ?_ | refine v_eF (by omega) ?_ | refine v_eP ?_ | refine v_T (by omega) ?_ | refine v_F (by omega) ?_ | refine v_w (by omega) ?_ | refine v_wu (by omega) ?_ | refine v_k ?_ | refine v_c (by omega) ?_ | fail)) | (refine b_pick (by (conv => {lhs; whnf}); done) ?_; (first | refine p_T (by (conv => {lhs; whnf}); done) ?_ | refine p_F (by (conv => {lhs; whnf}); done) ?_ | fail)) | refine b_assignF (by kernel_rfl) ?_ | refine b_assignI ?_ | refine b_assignN ?_ | refine b_assign (by (conv => {lhs; whnf}); done) ?_ | refine b_callB ?_ | refine b_lenA (by (conv => {lhs; whnf}); done) (by first | rfl | assumption) ?_ | refine b_box (by (conv => {lhs; whnf}); done) (by exact rfl) (by exact rfl) (by exact rfl) (by exact rfl) ?_ | fail))
    | (refine gateT ?_; (first | refine b_thn ?_ | refine b_thr ?_ | refine b_the ?_ | fail))
    | (refine gateX ?_; (first | refine b_seq ?_ | refine b_region ?_ | (refine b_cond (by (conv => {lhs; whnf}); done) ?_; (first | refine c_T ?_ | refine c_F ?_ | refine c_P ?_ ?_ | refine c_B ?_ ?_ | fail)) | refine b_ret ?_ | refine b_skip ?_ | refine b_block ?_ | refine b_exit ?_ | fail))
    | refine a_consF (by kernel_rfl) ?_
    | refine a_consI ?_
    | refine a_cons (by (conv => {lhs; whnf}); done) ?_
    | refine a_nil ?_
    | (refine gateK ?_; (first | refine c_call (fits_c _ _ _ _ _ _ (by omega) (by omega) (by omega) (by omega) (by omega) (by omega) (by omega) (by omega) (by omega)) (OldOk.app (by simp)) ?_ | fail))
    | (refine gateQ ?_; refine b_retK (by simp) (by (conv => {lhs; whnf}); done) ?_)
    | (refine gateR ?_; (first | refine rk_tmp (by (conv => {lhs; whnf}); done) ?_ | refine rk_cellA (by (conv => {lhs; whnf}); done) (by exact rfl) (by exact rfl) ?_ | refine rk_cell1 (by (conv => {lhs; whnf}); done) (by exact rfl) (by exact rfl) ?_ | refine rk_nil ?_ | fail))
    | intro _)
  all_goals first | refine rv_old rfl (by simp [mx, mxL, aOf, aOf1, resOne]) ?_ | (trace_state; fail)
  all_goals first
    | exact rtF (by unfold RightP; omega)
    | exact rtT (by unfold RightP; omega)
    | exact rvP (by unfold RightP; omega)

set_option maxHeartbeats 4000000 in
theorem at_c (H : List (List AV)) (D : AV) (l : List Nat) (hF : FL H D l) (off n inc : Int) (hI : VI l.length off n inc) (hR : RightP l.length off n inc) (i : Int) (hi0 : 0 ≤ i) (hi9 : i < n) :
    CSpec Try.prog 158 [vt D off n inc, .int .i64 i] H (.flt (l.getD (off + i * inc).toNat 0)) H := by
  obtain ⟨hm, ho1, ho2, hn1, hn2, hi1, hi2⟩ := id hI
  have hr := right_at hR hi0 hi9
  refine .mk (fun args w => Try.call158 args w) (Spec.intro' (fn := Try.f158) Try.func158 rfl (by kernel_rfl) (by simp) false [] (draw := drawX Try.prog ⟨false, _, []⟩) dOk ?_)
  simp only [argE, Nat.reduceAdd]
  repeat' (first
    | (refine gateE ?_; (first | refine b_c0 ?_ | refine b_nil ?_ | fail))
    | (refine gateO ?_; (first | refine b_move (by (conv => {lhs; whnf}); done) ?_ | (refine b_fa (by (conv => {lhs; whnf}); done) ?_; first | refine f_loc (by (conv => {lhs; whnf}); done) ?_ | refine f_ptr (by (conv => {lhs; whnf}); done) ?_) | (refine b_load (by (conv => {lhs; whnf}); done) ?_; (first | refine l_loc1 (by exact rfl) (by exact rfl) ?_ | refine l_locA (by exact rfl) (by exact rfl) ?_ | refine l_FL (FL.app hF _) (by omega) ?_ | fail)) | refine b_iaF (by (conv => {lhs; whnf}); done) (by (conv => {lhs; whnf}); done) (by exact hF.len) (by omega) ?_ | (refine b_bin (by (conv => {lhs; whnf}); done) (by (conv => {lhs; whnf}); done) (by (conv => {lhs; whnf}); done) ?_; (first | refine v_w (by omega) ?_ | refine v_w (by omega) ?_ | refine v_wu (by omega) ?_ | refine v_k ?_ | refine v_c (by omega) ?_ | fail)) | refine b_assignF (by kernel_rfl) ?_ | refine b_assignI ?_ | refine b_assignN ?_ | refine b_assign (by (conv => {lhs; whnf}); done) ?_ | refine b_box (by (conv => {lhs; whnf}); done) (by exact rfl) (by exact rfl) (by exact rfl) (by exact rfl) ?_ | fail))
    | (refine gateT ?_; (first | refine b_thn ?_ | refine b_thr ?_ | refine b_the ?_ | fail))
    | (refine gateX ?_; (first | refine b_seq ?_ | refine b_region ?_ | (refine b_cond (by (conv => {lhs; whnf}); done) ?_; (first | refine c_T ?_ | refine c_F ?_ | refine c_P ?_ ?_ | refine c_B ?_ ?_ | fail)) | refine b_ret ?_ | refine b_skip ?_ | refine b_block ?_ | refine b_exit ?_ | fail))
    | (refine gateQ ?_; refine b_retK (by simp) (by (conv => {lhs; whnf}); done) ?_)
    | (refine gateR ?_; (first | refine rk_tmp (by (conv => {lhs; whnf}); done) ?_ | refine rk_cellA (by (conv => {lhs; whnf}); done) (by exact rfl) (by exact rfl) ?_ | refine rk_cell1 (by (conv => {lhs; whnf}); done) (by exact rfl) (by exact rfl) ?_ | refine rk_nil ?_ | fail))
    | intro _)
  all_goals first | refine rv_old rfl (by simp [mx, mxL, aOf, aOf1, resOne]) ?_ | (trace_state; fail)
  all_goals exact rfl

set_option maxHeartbeats 4000000 in
theorem rmost_c (H : List (List AV)) (D : AV) (l : List Nat) (hF : FL H D l) (hB : l.length ≤ 2 ^ 30) :
    CSpec Try.prog 36 [D] H (.flt (greatF (l.map absF))) H := by
  refine .mk (fun args w => Try.call36 args w) (Spec.intro' (fn := Try.f36) Try.func36 rfl (by kernel_rfl) (by simp) false [17] (draw := drawX Try.prog ⟨false, _, [17]⟩) dOk ?_)
  simp only [argE, Nat.reduceAdd]
  repeat' (first
    | (refine gateE ?_; (first | refine b_c0 ?_ | refine b_nil ?_ | fail))
    | (refine gateO ?_; (first | refine b_move (by (conv => {lhs; whnf}); done) ?_ | (refine b_load (by (conv => {lhs; whnf}); done) ?_; (first | refine l_loc1 (by exact rfl) (by exact rfl) ?_ | refine l_locA (by exact rfl) (by exact rfl) ?_ | refine l_FL (FL.app hF _) (by omega) ?_ | fail)) | refine b_iaN (by (conv => {lhs; whnf}); done) (by (conv => {lhs; whnf}); done) (by exact hF.len) (by omega) ?_ | refine b_lenA (by (conv => {lhs; whnf}); done) (by exact hF.len) ?_ | refine b_grow (i := 0) (N₀ := []) (by (conv => {lhs; whnf}); done) (by (conv => {lhs; whnf}); done) (by exact rfl) (by exact rfl) (by rw [fl_len, mpl_len (by omega)]) (by omega) (by exact rfl) (by exact rfl) (l' := fl (mpl absF l (k + 1))) (by (rw [mpl_succ (by omega)]; simp [fl])) ?_ | (refine b_bin (by (conv => {lhs; whnf}); done) (by (conv => {lhs; whnf}); done) (by (conv => {lhs; whnf}); done) ?_; (first | refine v_T (by omega) ?_ | refine v_F (by omega) ?_ | refine v_w (by omega) ?_ | refine v_wu (by omega) ?_ | refine v_k ?_ | refine v_c (by omega) ?_ | fail)) | refine b_assignF (by kernel_rfl) ?_ | refine b_assignI ?_ | refine b_assignN ?_ | refine b_assign (by (conv => {lhs; whnf}); done) ?_ | refine b_callB ?_ | refine b_lenA (by (conv => {lhs; whnf}); done) (by first | rfl | assumption) ?_ | refine b_bslZ (by exact rfl) (by exact rfl) (by decide) ?_ | fail))
    | (refine gateT ?_; (first | refine b_thn ?_ | refine b_thr ?_ | refine b_the ?_ | fail))
    | (refine gateX ?_; (first | refine b_seq ?_ | refine b_region ?_ | (refine b_cond (by (conv => {lhs; whnf}); done) ?_; (first | refine c_T ?_ | refine c_F ?_ | refine c_P ?_ ?_ | refine c_B ?_ ?_ | fail)) | refine b_ret ?_ | refine b_skip ?_ | refine b_block ?_ | refine b_exit ?_ | (refine b_loop [4, 0, 3, 2] l.length (fun k => ⟨[(4, .val (.int .i64 (k : Int))), (0, .val D), (3, .val (gV H.length 0 k)), (2, .val (.flt 0))], [], H ++ ([] ++ gN (fl (mpl absF l k)))⟩) (by exact rfl) ?_ ?_ <;> (first | intro k hk K hK | intro K) <;> (try dsimp only at *) <;> (try simp only [Int.natCast_add, Int.natCast_one] at *)) | fail))
    | refine a_cons (by (conv => {lhs; whnf}); done) ?_
    | refine a_nil ?_
    | (refine gateK ?_; (first | refine c_call (rabs_c _ _) (OldOk.app (by simp)) ?_ | refine c_call (rgreat_c _ _ (l.map absF) (by rw [mpl_all]; have := @gV_FL H.length 0 (l.map absF) H [] (by exact rfl) rfl; simpa using this) (by simpa using hB)) (OldOk.app (by simp)) ?_ | fail))
    | refine gk_consF (by kernel_rfl) ?_
    | refine gk_cons (by (conv => {lhs; whnf}); done) ?_
    | (refine gk_nilN (by (conv => {lhs; simp only [List.nil_append, List.cons_append]}); done) ?_; refine ⟨by exact rfl, ?_⟩)
    | refine gk_nil ?_
    | (intro N' hN'; simp only [List.nil_append, List.cons_append] at hN'; subst hN')
    | (refine gateB ?_; (first | refine b_bln ?_ | refine b_blr ?_ | refine b_ble ?_ | refine b_blo (by exact rfl) ?_ | fail))
    | (refine gateL ?_; (first | refine lp_n ?_ | refine lp_r ?_ | refine lp_e ?_ | fail))
    | (refine pr_k (by exact rfl) ?_; first | exact hK | fail | (exfalso; first | omega | (simp_all; done) | (simp_all; omega)))
    | (refine gateQ ?_; refine b_retK (by simp) (by (conv => {lhs; whnf}); done) ?_)
    | (refine gateR ?_; (first | refine rk_tmp (by (conv => {lhs; whnf}); done) ?_ | refine rk_cellA (by (conv => {lhs; whnf}); done) (by exact rfl) (by exact rfl) ?_ | refine rk_cell1 (by (conv => {lhs; whnf}); done) (by exact rfl) (by exact rfl) ?_ | refine rk_nil ?_ | fail))
    | intro _)
  all_goals first | refine rv_old rfl (by simp [mx, mxL, aOf, aOf1, resOne]) ?_ | (trace_state; fail)
  all_goals exact rfl

end Go.Sx

set_option linter.unusedVariables false
set_option linter.unusedSimpArgs false
set_option maxRecDepth 20000
namespace Go.Sx
open Go.Proofs
attribute [local irreducible] Ex exOps exD opX opE thenX blkX RetQ Spec CSpec Fr condK guardK guardD ckK valK pickK loadK faK callK argK gK fK rK RetV lpX prK
set_option maxHeartbeats 4000000 in
theorem col_c (H : List (List AV)) (D : AV) (l : List Nat) (hF : FL H D l) (off rows cols ld : Int) (hI : MI l.length off rows cols ld) (hG : GoodP l.length off rows cols ld) (j : Int) (hj : 0 ≤ j) (hj' : j < cols) :
    CSpec Try.prog 86 [mt D off rows cols ld, .int .i64 j] H (vt D (cOff off rows ld j) rows 1) H := by
  obtain ⟨hn, ho1, ho2, hr1, hr2, hc1, hc2, hl1, hl2⟩ := id hI
  refine .mk (fun args w => Try.call86 args w) (Spec.intro' (fn := Try.f86) Try.func86 rfl (by kernel_rfl) (by simp) false [] (draw := drawX Try.prog ⟨false, _, []⟩) dOk ?_)
  simp only [argE, Nat.reduceAdd]
  repeat' (first
    | (refine gateE ?_; (first | refine b_c0 ?_ | refine b_nil ?_ | refine b_gT (by exact rfl) (by exact rfl) ?_ | refine b_gF (by exact rfl) (by exact rfl) (by exact rfl) ?_ | refine b_gU (by exact rfl) (by exact rfl) (by constructor <;> simp) (by exact rfl) (by exact rfl) ?_ | (refine b_g0 (by exact rfl) (by exact rfl) (by (conv => {lhs; whnf}); done) ?_; (first | refine g_TT ?_ | refine g_FF ?_ | refine g_TF ?_ | refine g_FT ?_ | refine g_PT ?_ ?_ | refine g_PF ?_ ?_ | refine g_BT ?_ ?_ | refine g_BF ?_ ?_ | fail)) | (refine b_g1 (by exact rfl) (by exact rfl) (by exact rfl) (by (conv => {lhs; whnf}); done) ?_; (first | refine g_TT ?_ | refine g_FF ?_ | refine g_TF ?_ | refine g_FT ?_ | refine g_PT ?_ ?_ | refine g_PF ?_ ?_ | refine g_BT ?_ ?_ | refine g_BF ?_ ?_ | fail)) | refine b_c1 (by exact rfl) ?_ | fail))
    | (refine gateO ?_; (first | refine b_move (by (conv => {lhs; whnf}); done) ?_ | (refine b_fa (by (conv => {lhs; whnf}); done) ?_; first | refine f_loc (by (conv => {lhs; whnf}); done) ?_ | refine f_ptr (by (conv => {lhs; whnf}); done) ?_) | (refine b_load (by (conv => {lhs; whnf}); done) ?_; (first | refine l_loc1 (by exact rfl) (by exact rfl) ?_ | refine l_locA (by exact rfl) (by exact rfl) ?_ | fail)) | (refine b_bin (by (conv => {lhs; whnf}); done) (by (conv => {lhs; whnf}); done) (by (conv => {lhs; whnf}); done) ?_; (first | refine v_w (by first | omega | (have hp := good_place hG (i := 0) (j := j) (by omega) (by omega) (by omega) (by omega); omega) | fail) ?_ | refine v_T (by omega) ?_ | refine v_F (by omega) ?_ | refine v_w (by omega) ?_ | refine v_wu (by omega) ?_ | refine v_nT ?_ | refine v_nF ?_ | refine v_nP ?_ | refine v_k ?_ | refine v_c (by omega) ?_ | fail)) | (refine b_pick (by (conv => {lhs; whnf}); done) ?_; (first | refine p_T (by (conv => {lhs; whnf}); done) ?_ | refine p_F (by (conv => {lhs; whnf}); done) ?_ | fail)) | (refine b_un (by (conv => {lhs; whnf}); done) (by (conv => {lhs; whnf}); done) ?_; (first | refine v_w (by first | omega | (have hp := good_place hG (i := 0) (j := j) (by omega) (by omega) (by omega) (by omega); omega) | fail) ?_ | refine v_T (by omega) ?_ | refine v_F (by omega) ?_ | refine v_w (by omega) ?_ | refine v_wu (by omega) ?_ | refine v_nT ?_ | refine v_nF ?_ | refine v_nP ?_ | refine v_k ?_ | refine v_c (by omega) ?_ | fail)) | refine b_callB ?_ | refine b_stL (by (conv => {lhs; whnf}); done) (by (conv => {lhs; whnf}); done) (by first | exact (by exact rfl) | exact cells_of_len hF.len | fail) (by exact rfl) (by exact rfl) (by exact Nat.le_of_ble_eq_true rfl) (by (conv => {lhs; simp only [sc, List.set_cons_zero, List.set_cons_succ]}); done) ?_ | refine b_box (by (conv => {lhs; whnf}); done) (by exact rfl) (by exact rfl) (by exact rfl) (by exact rfl) ?_ | refine b_alloc (by exact rfl) (by exact rfl) ?_ | refine b_build ?_ | fail))
    | (refine gateT ?_; (first | refine b_thn ?_ | refine b_thr ?_ | refine b_the ?_ | fail))
    | (refine gateX ?_; (first | refine b_seq ?_ | refine b_region ?_ | (refine b_cond (by (conv => {lhs; whnf}); done) ?_; (first | refine c_T ?_ | refine c_F ?_ | refine c_P ?_ ?_ | refine c_B ?_ ?_ | fail)) | refine b_ret ?_ | refine b_skip ?_ | refine b_block ?_ | refine b_exit ?_ | fail))
    | refine a_cons (by (conv => {lhs; whnf}); done) ?_
    | refine a_nil ?_
    | (refine gateK ?_; (first | refine c_call (good_c _ D l.length off rows cols ld hF.len hI) (OldOk.app (by simp)) ?_ | fail))
    | refine fk_cons (by (conv => {lhs; whnf}); done) (by first | exact (by exact rfl) | exact cells_of_len hF.len | fail) (by exact rfl) (by exact rfl) (by (conv => {lhs; simp only [sc, List.set_cons_zero, List.set_cons_succ]}); done) ?_
    | refine fk_nil ?_
    | (refine gateQ ?_; refine b_retK (by simp) (by (conv => {lhs; whnf}); done) ?_)
    | (refine gateR ?_; (first | refine rk_tmp (by (conv => {lhs; whnf}); done) ?_ | refine rk_cellA (by (conv => {lhs; whnf}); done) (by exact rfl) (by exact rfl) ?_ | refine rk_cell1 (by (conv => {lhs; whnf}); done) (by exact rfl) (by exact rfl) ?_ | refine rk_nil ?_ | fail))
    | intro _)
  all_goals first
    | (exfalso; contradiction)
    | (exfalso; omega)
    | (refine rv_old rfl (by have := hF.mx; simp [mx, mxL, resOne, aOf, aOf1]; omega) ?_; first | (unfold cOff; rw [if_pos (by omega)]; exact rfl) | (unfold cOff; rw [if_neg (by omega)]; exact rfl) | (unfold rOff; rw [if_pos (by omega)]; exact rfl) | (unfold rOff; rw [if_neg (by omega)]; exact rfl) | fail)

set_option maxHeartbeats 4000000 in
theorem row_c (H : List (List AV)) (D : AV) (l : List Nat) (hF : FL H D l) (off rows cols ld : Int) (hI : MI l.length off rows cols ld) (hG : GoodP l.length off rows cols ld) (i : Int) (hi : 0 ≤ i) (hi' : i < rows) :
    CSpec Try.prog 88 [mt D off rows cols ld, .int .i64 i] H (vt D (rOff off cols i) cols ld) H := by
  obtain ⟨hn, ho1, ho2, hr1, hr2, hc1, hc2, hl1, hl2⟩ := id hI
  refine .mk (fun args w => Try.call88 args w) (Spec.intro' (fn := Try.f88) Try.func88 rfl (by kernel_rfl) (by simp) false [] (draw := drawX Try.prog ⟨false, _, []⟩) dOk ?_)
  simp only [argE, Nat.reduceAdd]
  repeat' (first
    | (refine gateE ?_; (first | refine b_c0 ?_ | refine b_nil ?_ | refine b_gT (by exact rfl) (by exact rfl) ?_ | refine b_gF (by exact rfl) (by exact rfl) (by exact rfl) ?_ | refine b_gU (by exact rfl) (by exact rfl) (by constructor <;> simp) (by exact rfl) (by exact rfl) ?_ | (refine b_g0 (by exact rfl) (by exact rfl) (by (conv => {lhs; whnf}); done) ?_; (first | refine g_TT ?_ | refine g_FF ?_ | refine g_TF ?_ | refine g_FT ?_ | refine g_PT ?_ ?_ | refine g_PF ?_ ?_ | refine g_BT ?_ ?_ | refine g_BF ?_ ?_ | fail)) | (refine b_g1 (by exact rfl) (by exact rfl) (by exact rfl) (by (conv => {lhs; whnf}); done) ?_; (first | refine g_TT ?_ | refine g_FF ?_ | refine g_TF ?_ | refine g_FT ?_ | refine g_PT ?_ ?_ | refine g_PF ?_ ?_ | refine g_BT ?_ ?_ | refine g_BF ?_ ?_ | fail)) | refine b_c1 (by exact rfl) ?_ | fail))
    | (refine gateO ?_; (first | refine b_move (by (conv => {lhs; whnf}); done) ?_ | (refine b_fa (by (conv => {lhs; whnf}); done) ?_; first | refine f_loc (by (conv => {lhs; whnf}); done) ?_ | refine f_ptr (by (conv => {lhs; whnf}); done) ?_) | (refine b_load (by (conv => {lhs; whnf}); done) ?_; (first | refine l_loc1 (by exact rfl) (by exact rfl) ?_ | refine l_locA (by exact rfl) (by exact rfl) ?_ | fail)) | (refine b_bin (by (conv => {lhs; whnf}); done) (by (conv => {lhs; whnf}); done) (by (conv => {lhs; whnf}); done) ?_; (first | refine v_w (by first | omega | (have hp := good_place hG (i := i) (j := 0) (by omega) (by omega) (by omega) (by omega); omega) | fail) ?_ | refine v_T (by omega) ?_ | refine v_F (by omega) ?_ | refine v_w (by omega) ?_ | refine v_wu (by omega) ?_ | refine v_nT ?_ | refine v_nF ?_ | refine v_nP ?_ | refine v_k ?_ | refine v_c (by omega) ?_ | fail)) | (refine b_pick (by (conv => {lhs; whnf}); done) ?_; (first | refine p_T (by (conv => {lhs; whnf}); done) ?_ | refine p_F (by (conv => {lhs; whnf}); done) ?_ | fail)) | (refine b_un (by (conv => {lhs; whnf}); done) (by (conv => {lhs; whnf}); done) ?_; (first | refine v_w (by first | omega | (have hp := good_place hG (i := i) (j := 0) (by omega) (by omega) (by omega) (by omega); omega) | fail) ?_ | refine v_T (by omega) ?_ | refine v_F (by omega) ?_ | refine v_w (by omega) ?_ | refine v_wu (by omega) ?_ | refine v_nT ?_ | refine v_nF ?_ | refine v_nP ?_ | refine v_k ?_ | refine v_c (by omega) ?_ | fail)) | refine b_callB ?_ | refine b_stL (by (conv => {lhs; whnf}); done) (by (conv => {lhs; whnf}); done) (by first | exact (by exact rfl) | exact cells_of_len hF.len | fail) (by exact rfl) (by exact rfl) (by exact Nat.le_of_ble_eq_true rfl) (by (conv => {lhs; simp only [sc, List.set_cons_zero, List.set_cons_succ]}); done) ?_ | refine b_box (by (conv => {lhs; whnf}); done) (by exact rfl) (by exact rfl) (by exact rfl) (by exact rfl) ?_ | refine b_alloc (by exact rfl) (by exact rfl) ?_ | refine b_build ?_ | fail))
    | (refine gateT ?_; (first | refine b_thn ?_ | refine b_thr ?_ | refine b_the ?_ | fail))
    | (refine gateX ?_; (first | refine b_seq ?_ | refine b_region ?_ | (refine b_cond (by (conv => {lhs; whnf}); done) ?_; (first | refine c_T ?_ | refine c_F ?_ | refine c_P ?_ ?_ | refine c_B ?_ ?_ | fail)) | refine b_ret ?_ | refine b_skip ?_ | refine b_block ?_ | refine b_exit ?_ | fail))
    | refine a_cons (by (conv => {lhs; whnf}); done) ?_
    | refine a_nil ?_
    | (refine gateK ?_; (first | refine c_call (good_c _ D l.length off rows cols ld hF.len hI) (OldOk.app (by simp)) ?_ | fail))
    | refine fk_cons (by (conv => {lhs; whnf}); done) (by first | exact (by exact rfl) | exact cells_of_len hF.len | fail) (by exact rfl) (by exact rfl) (by (conv => {lhs; simp only [sc, List.set_cons_zero, List.set_cons_succ]}); done) ?_
    | refine fk_nil ?_
    | (refine gateQ ?_; refine b_retK (by simp) (by (conv => {lhs; whnf}); done) ?_)
    | (refine gateR ?_; (first | refine rk_tmp (by (conv => {lhs; whnf}); done) ?_ | refine rk_cellA (by (conv => {lhs; whnf}); done) (by exact rfl) (by exact rfl) ?_ | refine rk_cell1 (by (conv => {lhs; whnf}); done) (by exact rfl) (by exact rfl) ?_ | refine rk_nil ?_ | fail))
    | intro _)
  all_goals first
    | (exfalso; contradiction)
    | (exfalso; omega)
    | (refine rv_old rfl (by have := hF.mx; simp [mx, mxL, resOne, aOf, aOf1]; omega) ?_; first | (unfold cOff; rw [if_pos (by omega)]; exact rfl) | (unfold cOff; rw [if_neg (by omega)]; exact rfl) | (unfold rOff; rw [if_pos (by omega)]; exact rfl) | (unfold rOff; rw [if_neg (by omega)]; exact rfl) | fail)

end Go.Sx

set_option linter.unusedVariables false
set_option linter.unusedSimpArgs false
set_option maxRecDepth 20000
namespace Go.Sx
open Go.Proofs
attribute [local irreducible] Ex exOps exD opX opE thenX blkX RetQ Spec CSpec Fr condK guardK guardD ckK valK pickK loadK faK callK argK gK fK rK RetV lpX prK
set_option maxHeartbeats 4000000 in
theorem greatm_c (H : List (List AV)) (D : AV) (l : List Nat) (hF : FL H D l) (off rows cols ld : Int) (hI : MI l.length off rows cols ld) :
    CSpec Try.prog 23 [mt D off rows cols ld] H (.bool (decide (1000 < (l.length : Int) ∨ 20 < rows ∨ 20 < cols))) H := by
  obtain ⟨hn, ho1, ho2, hr1, hr2, hc1, hc2, hl1, hl2⟩ := id hI
  refine .mk (fun args w => Try.call23 args w) (Spec.intro' (fn := Try.f23) Try.func23 rfl (by kernel_rfl) (by simp) false [] (draw := drawX Try.prog ⟨false, _, []⟩) dOk ?_)
  simp only [argE, Nat.reduceAdd]
  repeat' (first
    | (refine gateE ?_; (first | refine b_c0 ?_ | refine b_nil ?_ | refine b_gT (by exact rfl) (by exact rfl) ?_ | refine b_gF (by exact rfl) (by exact rfl) (by exact rfl) ?_ | refine b_gU (by exact rfl) (by exact rfl) (by constructor <;> simp) (by exact rfl) (by exact rfl) ?_ | (refine b_g0 (by exact rfl) (by exact rfl) (by (conv => {lhs; whnf}); done) ?_; (first | refine g_TT ?_ | refine g_FF ?_ | refine g_TF ?_ | refine g_FT ?_ | refine g_PT ?_ ?_ | refine g_PF ?_ ?_ | refine g_BT ?_ ?_ | refine g_BF ?_ ?_ | fail)) | (refine b_g1 (by exact rfl) (by exact rfl) (by exact rfl) (by (conv => {lhs; whnf}); done) ?_; (first | refine g_TT ?_ | refine g_FF ?_ | refine g_TF ?_ | refine g_FT ?_ | refine g_PT ?_ ?_ | refine g_PF ?_ ?_ | refine g_BT ?_ ?_ | refine g_BF ?_ ?_ | fail)) | refine b_c1 (by exact rfl) ?_ | fail))
    | (refine gateO ?_; (first | refine b_move (by (conv => {lhs; whnf}); done) ?_ | (refine b_fa (by (conv => {lhs; whnf}); done) ?_; first | refine f_loc (by (conv => {lhs; whnf}); done) ?_ | refine f_ptr (by (conv => {lhs; whnf}); done) ?_) | (refine b_load (by (conv => {lhs; whnf}); done) ?_; (first | refine l_loc1 (by exact rfl) (by exact rfl) ?_ | refine l_locA (by exact rfl) (by exact rfl) ?_ | fail)) | refine b_lenA (by (conv => {lhs; whnf}); done) (by exact hF.len) ?_ | (refine b_bin (by (conv => {lhs; whnf}); done) (by (conv => {lhs; whnf}); done) (by (conv => {lhs; whnf}); done) ?_; (first | refine v_T (by omega) ?_ | refine v_F (by omega) ?_ | refine v_w (by omega) ?_ | refine v_wu (by omega) ?_ | refine v_k ?_ | refine v_c (by omega) ?_ | fail)) | (refine b_pick (by (conv => {lhs; whnf}); done) ?_; (first | refine p_T (by (conv => {lhs; whnf}); done) ?_ | refine p_F (by (conv => {lhs; whnf}); done) ?_ | fail)) | refine b_assignF (by kernel_rfl) ?_ | refine b_assignI ?_ | refine b_assignN ?_ | refine b_assign (by (conv => {lhs; whnf}); done) ?_ | refine b_lenA (by (conv => {lhs; whnf}); done) (by first | rfl | assumption) ?_ | refine b_box (by (conv => {lhs; whnf}); done) (by exact rfl) (by exact rfl) (by exact rfl) (by exact rfl) ?_ | fail))
    | (refine gateT ?_; (first | refine b_thn ?_ | refine b_thr ?_ | refine b_the ?_ | fail))
    | (refine gateX ?_; (first | refine b_seq ?_ | refine b_region ?_ | (refine b_cond (by (conv => {lhs; whnf}); done) ?_; (first | refine c_T ?_ | refine c_F ?_ | refine c_P ?_ ?_ | refine c_B ?_ ?_ | fail)) | refine b_ret ?_ | refine b_skip ?_ | refine b_block ?_ | refine b_exit ?_ | fail))
    | (refine gateQ ?_; refine b_retK (by simp) (by (conv => {lhs; whnf}); done) ?_)
    | (refine gateR ?_; (first | refine rk_tmp (by (conv => {lhs; whnf}); done) ?_ | refine rk_cellA (by (conv => {lhs; whnf}); done) (by exact rfl) (by exact rfl) ?_ | refine rk_cell1 (by (conv => {lhs; whnf}); done) (by exact rfl) (by exact rfl) ?_ | refine rk_nil ?_ | fail))
    | intro _)
  all_goals first | refine rv_old rfl (by simp [mx, mxL, aOf, aOf1, resOne]) ?_ | (trace_state; fail)
  all_goals first
    | exact rtF (by omega)
    | exact rtT (by omega)
    | exact rvT (by omega)
    | exact rvP (by omega)

set_option maxHeartbeats 4000000 in
theorem new_k (H H' : List (List AV)) (r c : Nat) (hr : r ≤ 1000) (hc : c ≤ 1000) (m : Nat) (hm : H.length = m) (hH : H ++ [fl (List.replicate (r * c) 0)] = H') :
    CSpec Try.prog 93 [.int .i64 (r : Int), .int .i64 (c : Int)] H (mM (.slm m (r * c) 0 (r * c) 1) r c) H' := by
  subst hH hm
  have hrc : r * c ≤ 1000000 := by (have := Nat.mul_le_mul hr hc; omega)
  refine .mk (fun args w => Try.call93 args w) (Spec.intro' (fn := Try.f93) Try.func93 rfl (by kernel_rfl) (by simp) false [] (draw := drawX Try.prog ⟨false, _, []⟩) dOk ?_)
  simp only [argE, Nat.reduceAdd]
  repeat' (first
    | (refine gateE ?_; (first | refine b_c0 ?_ | refine b_nil ?_ | fail))
    | (refine gateO ?_; (first | refine b_move (by (conv => {lhs; whnf}); done) ?_ | refine b_mkf (by (conv => {lhs; whnf}); done) (by (conv => {lhs; whnf}); done) (by exact rfl) (by (conv => {lhs; whnf}); done) (by (conv => {lhs; simp only [List.nil_append, List.cons_append]}); done) (by exact rfl) (by omega) ?_ | (refine b_bin (by (conv => {lhs; whnf}); done) (by (conv => {lhs; whnf}); done) (by (conv => {lhs; whnf}); done) ?_; (first | refine v_mulN (by omega) ?_ | refine v_addN (by omega) ?_ | refine v_w (by omega) ?_ | refine v_wu (by omega) ?_ | refine v_k ?_ | refine v_c (by omega) ?_ | fail)) | refine b_stL (by (conv => {lhs; whnf}); done) (by (conv => {lhs; whnf}); done) (by first | exact (by exact rfl) | exact cells_of_len hF.len | fail) (by exact rfl) (by exact rfl) (by exact Nat.le_of_ble_eq_true rfl) (by (conv => {lhs; simp only [sc, List.set_cons_zero, List.set_cons_succ]}); done) ?_ | refine b_alloc (by exact rfl) (by exact rfl) ?_ | refine b_build ?_ | fail))
    | (refine gateT ?_; (first | refine b_thn ?_ | refine b_thr ?_ | refine b_the ?_ | fail))
    | (refine gateX ?_; (first | refine b_seq ?_ | refine b_region ?_ | (refine b_cond (by (conv => {lhs; whnf}); done) ?_; (first | refine c_T ?_ | refine c_F ?_ | refine c_P ?_ ?_ | refine c_B ?_ ?_ | fail)) | refine b_ret ?_ | refine b_skip ?_ | refine b_block ?_ | refine b_exit ?_ | fail))
    | refine fk_cons (by (conv => {lhs; whnf}); done) (by first | exact (by exact rfl) | exact cells_of_len hF.len | fail) (by exact rfl) (by exact rfl) (by (conv => {lhs; simp only [sc, List.set_cons_zero, List.set_cons_succ]}); done) ?_
    | refine fk_nil ?_
    | (refine gateQ ?_; refine b_retK (by simp) (by (conv => {lhs; whnf}); done) ?_)
    | (refine gateR ?_; (first | refine rk_tmp (by (conv => {lhs; whnf}); done) ?_ | refine rk_cellA (by (conv => {lhs; whnf}); done) (by exact rfl) (by exact rfl) ?_ | refine rk_cell1 (by (conv => {lhs; whnf}); done) (by exact rfl) (by exact rfl) ?_ | refine rk_nil ?_ | fail))
    | intro _)
  all_goals first
    | exact rv_kp (j := 0) (cs := fl (List.replicate (r * c) 0)) rfl rfl (by rw [mxL_fl]; exact Nat.zero_le _) (Fr.agg (Frs.cons (Fr.old (by simp [mx])) (Frs.cons (Fr.old (by simp [mx])) (Frs.cons (Fr.kp (j := 0) (cs := fl (List.replicate (r * c) 0)) rfl (hg_new rfl rfl) (by simp)) Frs.nil))))

set_option maxHeartbeats 4000000 in
theorem tat_c (H : List (List AV)) (A : AV) (a : List Nat) (hA : FL H A a) (r c : Nat) (ha : a.length = r * c) (hr : r ≤ 1000) (hc : c ≤ 1000) (i j : Nat) (hi : i < r) (hj : j < c) :
    CSpec Try.prog 42 [mM A r c, .int .i64 (i : Int), .int .i64 (j : Int)] H (.flt (a.getD (i * c + j) 0)) H := by
  have hrc : r * c ≤ 1000000 := by (have := Nat.mul_le_mul hr hc; omega)
  have hlt := ix_lt hi hj
  have hic : i * c ≤ 1000000 := by omega
  refine .mk (fun args w => Try.call42 args w) (Spec.intro' (fn := Try.f42) Try.func42 rfl (by kernel_rfl) (by simp) false [] (draw := drawX Try.prog ⟨false, _, []⟩) dOk ?_)
  simp only [argE, Nat.reduceAdd]
  repeat' (first
    | (refine gateE ?_; (first | refine b_c0 ?_ | refine b_nil ?_ | fail))
    | (refine gateO ?_; (first | refine b_move (by (conv => {lhs; whnf}); done) ?_ | (refine b_fa (by (conv => {lhs; whnf}); done) ?_; first | refine f_loc (by (conv => {lhs; whnf}); done) ?_ | refine f_ptr (by (conv => {lhs; whnf}); done) ?_) | (refine b_load (by (conv => {lhs; whnf}); done) ?_; (first | refine l_loc1 (by exact rfl) (by exact rfl) ?_ | refine l_locA (by exact rfl) (by exact rfl) ?_ | refine l_FL (FL.app hA _) (by omega) ?_ | fail)) | refine b_iaN (by (conv => {lhs; whnf}); done) (by (conv => {lhs; whnf}); done) (by exact hA.len) (by omega) ?_ | (refine b_bin (by (conv => {lhs; whnf}); done) (by (conv => {lhs; whnf}); done) (by (conv => {lhs; whnf}); done) ?_; (first | refine v_mulN (by omega) ?_ | refine v_addN (by omega) ?_ | refine v_w (by omega) ?_ | refine v_wu (by omega) ?_ | refine v_k ?_ | refine v_c (by omega) ?_ | fail)) | refine b_assignF (by kernel_rfl) ?_ | refine b_assignI ?_ | refine b_assignN ?_ | refine b_assign (by (conv => {lhs; whnf}); done) ?_ | refine b_box (by (conv => {lhs; whnf}); done) (by exact rfl) (by exact rfl) (by exact rfl) (by exact rfl) ?_ | fail))
    | (refine gateT ?_; (first | refine b_thn ?_ | refine b_thr ?_ | refine b_the ?_ | fail))
    | (refine gateX ?_; (first | refine b_seq ?_ | refine b_region ?_ | (refine b_cond (by (conv => {lhs; whnf}); done) ?_; (first | refine c_T ?_ | refine c_F ?_ | refine c_P ?_ ?_ | refine c_B ?_ ?_ | fail)) | refine b_ret ?_ | refine b_skip ?_ | refine b_block ?_ | refine b_exit ?_ | fail))
    | (refine gateQ ?_; refine b_retK (by simp) (by (conv => {lhs; whnf}); done) ?_)
    | (refine gateR ?_; (first | refine rk_tmp (by (conv => {lhs; whnf}); done) ?_ | refine rk_cellA (by (conv => {lhs; whnf}); done) (by exact rfl) (by exact rfl) ?_ | refine rk_cell1 (by (conv => {lhs; whnf}); done) (by exact rfl) (by exact rfl) ?_ | refine rk_nil ?_ | fail))
    | intro _)
  all_goals first | refine rv_old rfl (by simp [mx, mxL, aOf, aOf1, resOne]) ?_ | (trace_state; fail)
  all_goals exact rfl

set_option maxHeartbeats 4000000 in
theorem tset_c (H H' : List (List AV)) (b : Nat) (a : List Nat) (hb : H[b]? = some (fl a)) (r c : Nat) (ha : a.length = r * c) (hr : r ≤ 1000) (hc : c ≤ 1000) (i j : Nat) (hi : i < r) (hj : j < c) (x : Nat) (hH : H.set b (fl (a.set (i * c + j) x)) = H') :
    CSpec Try.prog 94 [mM (.slm b (r * c) 0 (r * c) 1) r c, .int .i64 (i : Int), .int .i64 (j : Int), .flt x] H (.tup []) H' := by
  subst hH
  have hrc : r * c ≤ 1000000 := by (have := Nat.mul_le_mul hr hc; omega)
  have hlt := ix_lt hi hj
  have hic : i * c ≤ 1000000 := by omega
  refine .mk (fun args w => Try.call94 args w) (Spec.intro' (fn := Try.f94) Try.func94 rfl (by kernel_rfl) (by simp) false [] (draw := drawX Try.prog ⟨false, _, []⟩) dOk ?_)
  simp only [argE, Nat.reduceAdd]
  repeat' (first
    | (refine gateE ?_; (first | refine b_c0 ?_ | refine b_nil ?_ | fail))
    | (refine gateO ?_; (first | refine b_move (by (conv => {lhs; whnf}); done) ?_ | (refine b_fa (by (conv => {lhs; whnf}); done) ?_; first | refine f_loc (by (conv => {lhs; whnf}); done) ?_ | refine f_ptr (by (conv => {lhs; whnf}); done) ?_) | (refine b_load (by (conv => {lhs; whnf}); done) ?_; (first | refine l_loc1 (by exact rfl) (by exact rfl) ?_ | refine l_locA (by exact rfl) (by exact rfl) ?_ | fail)) | refine b_iaN (by (conv => {lhs; whnf}); done) (by (conv => {lhs; whnf}); done) (by exact rfl) (by omega) ?_ | refine b_stF (by (conv => {lhs; whnf}); done) (by (conv => {lhs; whnf}); done) hb ha (by omega) (m' := a.set (i * c + j) x) (by rw [Nat.zero_add]) ?_ | (refine b_bin (by (conv => {lhs; whnf}); done) (by (conv => {lhs; whnf}); done) (by (conv => {lhs; whnf}); done) ?_; (first | refine v_mulN (by omega) ?_ | refine v_addN (by omega) ?_ | refine v_w (by omega) ?_ | refine v_wu (by omega) ?_ | refine v_k ?_ | refine v_c (by omega) ?_ | fail)) | refine b_stL (by (conv => {lhs; whnf}); done) (by (conv => {lhs; whnf}); done) (by first | exact (by exact rfl) | exact cells_of_len hF.len | fail) (by exact rfl) (by exact rfl) (by exact Nat.le_of_ble_eq_true rfl) (by (conv => {lhs; simp only [sc, List.set_cons_zero, List.set_cons_succ]}); done) ?_ | refine b_box (by (conv => {lhs; whnf}); done) (by exact rfl) (by exact rfl) (by exact rfl) (by exact rfl) ?_ | fail))
    | (refine gateT ?_; (first | refine b_thn ?_ | refine b_thr ?_ | refine b_the ?_ | fail))
    | (refine gateX ?_; (first | refine b_seq ?_ | refine b_region ?_ | (refine b_cond (by (conv => {lhs; whnf}); done) ?_; (first | refine c_T ?_ | refine c_F ?_ | refine c_P ?_ ?_ | refine c_B ?_ ?_ | fail)) | refine b_ret ?_ | refine b_skip ?_ | refine b_block ?_ | refine b_exit ?_ | fail))
    | (refine gateQ ?_; refine b_retK (by simp) (by (conv => {lhs; whnf}); done) ?_)
    | (refine gateR ?_; (first | refine rk_tmp (by (conv => {lhs; whnf}); done) ?_ | refine rk_cellA (by (conv => {lhs; whnf}); done) (by exact rfl) (by exact rfl) ?_ | refine rk_cell1 (by (conv => {lhs; whnf}); done) (by exact rfl) (by exact rfl) ?_ | refine rk_nil ?_ | fail))
    | intro _)
  all_goals first
    | (refine rv_old (by simp) (by simp [mx, mxL, resOne]) ?_; exact rfl)

end Go.Sx

set_option linter.unusedVariables false
set_option linter.unusedSimpArgs false
set_option maxRecDepth 20000
namespace Go.Sx
open Go.Proofs
attribute [local irreducible] Ex exOps exD opX opE thenX blkX RetQ Spec CSpec Fr condK guardK guardD ckK valK pickK loadK faK callK argK gK fK rK RetV lpX prK
set_option maxHeartbeats 4000000 in
theorem of_c (H : List (List AV)) (D : AV) (l : List Nat) (hF : FL H D l) (off rows cols ld : Int) (hI : MI l.length off rows cols ld) (hG : GoodP l.length off rows cols ld) (hr : rows ≤ 1000) (hc : cols ≤ 1000) :
    CSpec Try.prog 27 [mt D off rows cols ld] H (mM (.sl none (rows.toNat * cols.toNat) (fl (rmA (mel l off ld) rows.toNat cols.toNat))) rows cols) H := by
  obtain ⟨r, rfl⟩ : ∃ r : Nat, rows = (r : Int) := ⟨rows.toNat, by have := hG.1; omega⟩
  obtain ⟨c, rfl⟩ : ∃ c : Nat, cols = (c : Int) := ⟨cols.toNat, by have := hG.2.1; omega⟩
  simp only [Int.toNat_natCast]
  obtain ⟨hn, ho1, ho2, hr1, hr2, hc1, hc2, hl1, hl2⟩ := id hI
  have hrc : r * c ≤ 1000000 := by (have := Nat.mul_le_mul (show r ≤ 1000 by omega) (show c ≤ 1000 by omega); omega)
  refine .mk (fun args w => Try.call27 args w) (Spec.intro' (fn := Try.f27) Try.func27 rfl (by kernel_rfl) (by simp) false [] (draw := drawX Try.prog ⟨false, _, []⟩) dOk ?_)
  simp only [argE, Nat.reduceAdd]
  repeat' (first
    | (refine gateE ?_; (first | refine b_c0 ?_ | refine b_nil ?_ | fail))
    | (refine gateO ?_; (first | refine b_move (by (conv => {lhs; whnf}); done) ?_ | (refine b_fa (by (conv => {lhs; whnf}); done) ?_; first | refine f_loc (by (conv => {lhs; whnf}); done) ?_ | refine f_ptr (by (conv => {lhs; whnf}); done) ?_) | (refine b_load (by (conv => {lhs; whnf}); done) ?_; (first | refine l_loc1 (by exact rfl) (by exact rfl) ?_ | refine l_locA (by exact rfl) (by exact rfl) ?_ | refine l_FL (FL.app hF _) (by first | omega | (have hp := good_place hG (i := (k : Int)) (j := (j : Int)) (by omega) (by omega) (by omega) (by omega); omega) | fail) ?_ | fail)) | refine b_iaF (by (conv => {lhs; whnf}); done) (by (conv => {lhs; whnf}); done) (by exact hF.len) (by first | omega | (have hp := good_place hG (i := (k : Int)) (j := (j : Int)) (by omega) (by omega) (by omega) (by omega); omega) | fail) ?_ | (refine b_bin (by (conv => {lhs; whnf}); done) (by (conv => {lhs; whnf}); done) (by (conv => {lhs; whnf}); done) ?_; (first | refine v_w (by first | omega | (have hp := good_place hG (i := (k : Int)) (j := (j : Int)) (by omega) (by omega) (by omega) (by omega); omega) | fail) ?_ | refine v_T (by omega) ?_ | refine v_F (by omega) ?_ | refine v_w (by omega) ?_ | refine v_wu (by omega) ?_ | refine v_k ?_ | refine v_c (by omega) ?_ | fail)) | refine b_assignF (by kernel_rfl) ?_ | refine b_assignI ?_ | refine b_assignN ?_ | refine b_assign (by (conv => {lhs; whnf}); done) ?_ | refine b_callB ?_ | refine b_stL (by (conv => {lhs; whnf}); done) (by (conv => {lhs; whnf}); done) (by first | exact (by exact rfl) | exact cells_of_len hF.len | fail) (by exact rfl) (by exact rfl) (by exact Nat.le_of_ble_eq_true rfl) (by (conv => {lhs; simp only [sc, List.set_cons_zero, List.set_cons_succ]}); done) ?_ | refine b_box (by (conv => {lhs; whnf}); done) (by exact rfl) (by exact rfl) (by exact rfl) (by exact rfl) ?_ | refine b_alloc (by exact rfl) (by exact rfl) ?_ | fail))
    | (refine gateD ?_; (first | refine d_c0 (by exact rfl) ?_ | refine d_nil ?_ | fail))
    | (refine gateC ?_; (first | refine k_lt ?_ | refine k_ld (by (conv => {lhs; whnf}); done) (by exact rfl) ?_ | refine k_ldT (by (conv => {lhs; whnf}); done) ?_ | refine k_bin (by (conv => {lhs; whnf}); done) (by exact rfl) ?_ | refine k_mn ?_ | refine k_mnB (by exact rfl) ?_ | refine k_mnF ?_ | fail))
    | (refine gateT ?_; (first | refine b_thn ?_ | refine b_thr ?_ | refine b_the ?_ | fail))
    | (refine gateX ?_; (first | refine b_seq ?_ | refine b_region ?_ | (refine b_cond (by (conv => {lhs; whnf}); done) ?_; (first | refine c_T ?_ | refine c_F ?_ | refine c_P ?_ ?_ | refine c_B ?_ ?_ | fail)) | refine b_ret ?_ | refine b_skip ?_ | refine b_block ?_ | refine b_exit ?_ | refine b_draw [] [16] [(0, .ld true), (1, .lt), (2, .lt), (3, .lt), (4, .ld true), (5, .lt), (6, .ld true), (7, .lt), (8, .lt), (9, .lt), (10, .lt), (11, .ld true), (12, .lt), (13, .lt), (14, .lt), (15, .ld true), (16, .mn false)] (by kernel_rfl) ?_ | (refine b_loop [5, 4, 1, 2, 3] c (fun j => ⟨[(5, .val (.int .i64 (j : Int))), (4, .val (.int .i64 (k : Int))), (1, .loc 1 0), (2, .loc 2 0), (3, .loc 3 0)], [(1, [D, .int .i64 off, .int .i64 (r : Int), .int .i64 (c : Int), .int .i64 ld]), (2, [.int .i64 0, .int .i64 0, .slnil]), (3, [.int .i64 (r : Int), .int .i64 (c : Int), .slm (H.length + 0) (r * c) 0 (r * c) 1])], H ++ [fl (ofL (mel l off ld) r c (k * c + j))]⟩) (by exact rfl) ?_ ?_ <;> (first | intro j hj K hK | intro K) <;> (try dsimp only at *) <;> (try simp only [Int.natCast_add, Int.natCast_one] at *)) | (refine b_loop [4, 1, 2, 3] r (fun k => ⟨[(4, .val (.int .i64 (k : Int))), (1, .loc 1 0), (2, .loc 2 0), (3, .loc 3 0)], [(1, [D, .int .i64 off, .int .i64 (r : Int), .int .i64 (c : Int), .int .i64 ld]), (2, [.int .i64 0, .int .i64 0, .slnil]), (3, [.int .i64 (r : Int), .int .i64 (c : Int), .slm (H.length + 0) (r * c) 0 (r * c) 1])], H ++ [fl (ofL (mel l off ld) r c (k * c))]⟩) (by simp only [Nat.zero_mul, ofL_zero]; exact rfl) ?_ ?_ <;> (first | intro k hk K hK | intro K) <;> (try dsimp only at *) <;> (try simp only [Int.natCast_add, Int.natCast_one, Nat.add_mul, Nat.one_mul] at *)) | fail))
    | refine a_cons (by (conv => {lhs; whnf}); done) ?_
    | refine a_nil ?_
    | (refine gateK ?_; (first | refine c_call (new_k _ _ r c (by omega) (by omega) _ (by (conv => {lhs; simp only [List.length_append, List.length_cons, List.length_nil, List.length_set, Nat.reduceAdd, Nat.zero_add]}); done) (by (conv => {lhs; simp only [List.append_assoc, List.cons_append, List.nil_append]}); done)) (OldOk.app (by simp)) ?_ | refine c_call (tset_c _ _ _ (ofL (mel l off ld) r c (k * c + j)) (hg_new (by exact rfl) rfl) r c (by simp) (by omega) (by omega) k j (by omega) (by omega) _ (by rw [ofL_set (by omega) (by omega) (by exact rfl)]; exact hs_new (by exact rfl) (by (conv => {lhs; simp only [List.set_cons_zero, List.set_cons_succ]}); done))) (OldOk.app (by simp)) ?_ | fail))
    | (refine gateB ?_; (first | refine b_bln ?_ | refine b_blr ?_ | refine b_ble ?_ | refine b_blo (by exact rfl) ?_ | fail))
    | (refine gateL ?_; (first | refine lp_n ?_ | refine lp_r ?_ | refine lp_e ?_ | fail))
    | (refine pr_k (by exact rfl) ?_; first | exact hK | fail | (exfalso; first | omega | (simp_all; done) | (simp_all; omega)))
    | (refine gateQ ?_; refine b_retK (by simp) (by (conv => {lhs; whnf}); done) ?_)
    | (refine gateR ?_; (first | refine rk_tmp (by (conv => {lhs; whnf}); done) ?_ | refine rk_cellA (by (conv => {lhs; whnf}); done) (by exact rfl) (by exact rfl) ?_ | refine rk_cell1 (by (conv => {lhs; whnf}); done) (by exact rfl) (by exact rfl) ?_ | refine rk_nil ?_ | fail))
    | intro _)
  all_goals first
    | (refine rv_fr rfl ?_; simp only [ofL_all]; exact Fr.agg (Frs.cons (Fr.old (by simp [mx])) (Frs.cons (Fr.old (by simp [mx])) (Frs.cons (Fr.fz (by omega) (by simp) (hg_new rfl rfl) (by simp) (gc_all _ (by simp)) (Frs.old (by rw [mxL_fl]; exact Nat.zero_le _))) Frs.nil))))


end Go.Sx

set_option linter.unusedVariables false
set_option linter.unusedSimpArgs false
set_option maxRecDepth 20000
namespace Go.Sx
open Go.Proofs
attribute [local irreducible] Ex exOps exD opX opE thenX blkX RetQ Spec CSpec Fr condK guardK guardD ckK valK pickK loadK faK callK argK gK fK rK RetV lpX prK
set_option maxHeartbeats 4000000 in
theorem numbers_c (H : List (List AV)) (D : AV) (l : List Nat) (hF : FL H D l) (off rows cols ld : Int) (hI : MI l.length off rows cols ld) (hG : GoodP l.length off rows cols ld) (hr : rows ≤ 1000) (hc : cols ≤ 1000) :
    CSpec Try.prog 92 [mt D off rows cols ld] H (.sl none (rows.toNat * cols.toNat) (fl (cmA (mel l off ld) rows.toNat cols.toNat))) H := by
  obtain ⟨r, rfl⟩ : ∃ r : Nat, rows = (r : Int) := ⟨rows.toNat, by have := hG.1; omega⟩
  obtain ⟨c, rfl⟩ : ∃ c : Nat, cols = (c : Int) := ⟨cols.toNat, by have := hG.2.1; omega⟩
  simp only [Int.toNat_natCast]
  obtain ⟨hn, ho1, ho2, hr1, hr2, hc1, hc2, hl1, hl2⟩ := id hI
  have hrc : c * r ≤ 1000000 := by (have := Nat.mul_le_mul (show c ≤ 1000 by omega) (show r ≤ 1000 by omega); omega)
  have hcO : ∀ k : Nat, 0 < r → cOff off (r : Int) ld (k : Int) = off + (k : Int) * ld := fun k h => by (unfold cOff; exact if_pos (by omega))
  have hx : ∀ k j, k < c → j < r → l.getD (cOff off (r : Int) ld (k : Int) + (j : Int)).toNat 0 = (fun n => mel l off ld (n % r) (n / r)) (k * r + j) := fun k j hk hj => by
    simp only [ix_mod hj, ix_div hj, mel, hcO k (by omega)]
    congr 2; omega
  refine .mk (fun args w => Try.call92 args w) (Spec.intro' (fn := Try.f92) Try.func92 rfl (by kernel_rfl) (by simp) false [40] (draw := drawX Try.prog ⟨false, _, [40]⟩) dOk ?_)
  simp only [argE, Nat.reduceAdd]
  repeat' (first
    | (refine gateE ?_; (first | refine b_c0 ?_ | refine b_nil ?_ | fail))
    | (refine gateO ?_; (first | refine b_moveF (by kernel_rfl) ?_ | refine b_moveI ?_ | refine b_move (by (conv => {lhs; whnf}); done) ?_ | (refine b_fa (by (conv => {lhs; whnf}); done) ?_; first | refine f_loc (by (conv => {lhs; whnf}); done) ?_ | refine f_ptr (by (conv => {lhs; whnf}); done) ?_) | (refine b_load (by (conv => {lhs; whnf}); done) ?_; (first | refine l_loc1 (by exact rfl) (by exact rfl) ?_ | refine l_locA (by exact rfl) (by exact rfl) ?_ | refine l_FL (FL.app hF _) (by first | omega | (have hp := good_place hG (i := (j : Int)) (j := (k : Int)) (by omega) (by omega) (by omega) (by omega); have hco := hcO k (by omega); omega) | fail) ?_ | fail)) | refine b_iaF (by (conv => {lhs; whnf}); done) (by (conv => {lhs; whnf}); done) (by exact hF.len) (by first | omega | (have hp := good_place hG (i := (j : Int)) (j := (k : Int)) (by omega) (by omega) (by omega) (by omega); have hco := hcO k (by omega); omega) | fail) ?_ | refine b_grow (i := 0) (N₀ := []) (by (conv => {lhs; whnf}); done) (by (conv => {lhs; whnf}); done) (by exact rfl) (by exact rfl) (by simp) (by have := ix_lt hk hj; omega) (by exact rfl) (by exact rfl) (l' := fl (rml (fun n => mel l off ld (n % r) (n / r)) (k * r + j + 1))) (by rw [hx k j hk hj]; exact rml_fl (fun n => mel l off ld (n % r) (n / r)) _) ?_ | (refine b_bin (by (conv => {lhs; whnf}); done) (by (conv => {lhs; whnf}); done) (by (conv => {lhs; whnf}); done) ?_; (first | refine v_w (by first | omega | (have hp := good_place hG (i := (j : Int)) (j := (k : Int)) (by omega) (by omega) (by omega) (by omega); have hco := hcO k (by omega); omega) | fail) ?_ | refine v_T (by omega) ?_ | refine v_F (by omega) ?_ | refine v_w (by omega) ?_ | refine v_wu (by omega) ?_ | refine v_nT ?_ | refine v_nF ?_ | refine v_nP ?_ | refine v_k ?_ | refine v_c (by omega) ?_ | fail)) | refine b_assignF (by kernel_rfl) ?_ | refine b_assignI ?_ | refine b_assignN ?_ | refine b_assign (by (conv => {lhs; whnf}); done) ?_ | (refine b_un (by (conv => {lhs; whnf}); done) (by (conv => {lhs; whnf}); done) ?_; (first | refine v_w (by first | omega | (have hp := good_place hG (i := (j : Int)) (j := (k : Int)) (by omega) (by omega) (by omega) (by omega); have hco := hcO k (by omega); omega) | fail) ?_ | refine v_T (by omega) ?_ | refine v_F (by omega) ?_ | refine v_w (by omega) ?_ | refine v_wu (by omega) ?_ | refine v_nT ?_ | refine v_nF ?_ | refine v_nP ?_ | refine v_k ?_ | refine v_c (by omega) ?_ | fail)) | refine b_callB ?_ | refine b_ext (by (conv => {lhs; whnf}); done) (by exact rfl) ?_ | refine b_stL (by (conv => {lhs; whnf}); done) (by (conv => {lhs; whnf}); done) (by first | exact (by exact rfl) | exact cells_of_len hF.len | fail) (by exact rfl) (by exact rfl) (by exact Nat.le_of_ble_eq_true rfl) (by (conv => {lhs; simp only [sc, List.set_cons_zero, List.set_cons_succ]}); done) ?_ | refine b_box (by (conv => {lhs; whnf}); done) (by exact rfl) (by exact rfl) (by exact rfl) (by exact rfl) ?_ | refine b_alloc (by exact rfl) (by exact rfl) ?_ | refine b_bslZ (by exact rfl) (by exact rfl) (by decide) ?_ | fail))
    | (refine gateT ?_; (first | refine b_thn ?_ | refine b_thr ?_ | refine b_the ?_ | fail))
    | (refine gateX ?_; (first | refine b_seq ?_ | refine b_region ?_ | (refine b_cond (by (conv => {lhs; whnf}); done) ?_; (first | refine c_T ?_ | refine c_F ?_ | refine c_P ?_ ?_ | refine c_B ?_ ?_ | fail)) | refine b_ret ?_ | refine b_skip ?_ | refine b_block ?_ | refine b_exit ?_ | (refine b_loop [28, 27, 20, 19, 1, 6, 8] r (fun j => ⟨[(28, .val (.int .i64 (j : Int))), (27, .val (.int .i64 (r : Int))), (20, .val (.int .i64 (k : Int))), (19, .val (.int .i64 (c : Int))), (1, .loc 1 0), (6, .val (gV H.length 0 (k * r + j))), (8, .loc 8 0)], [(1, [D, .int .i64 off, .int .i64 (r : Int), .int .i64 (c : Int), .int .i64 ld]), (8, [D, .int .i64 (cOff off (r : Int) ld (k : Int)), .int .i64 (r : Int), .int .i64 1])], H ++ ([] ++ gN (fl (rml (fun n => mel l off ld (n % r) (n / r)) (k * r + j))))⟩) (by exact rfl) ?_ ?_ <;> (first | intro j hj K hK | intro K) <;> (try dsimp only at *) <;> (try simp only [Int.natCast_add, Int.natCast_one] at *)) | (refine b_loop [20, 19, 1, 6] c (fun k => ⟨[(20, .val (.int .i64 (k : Int))), (19, .val (.int .i64 (c : Int))), (1, .loc 1 0), (6, .val (gV H.length 0 (k * r)))], [(1, [D, .int .i64 off, .int .i64 (r : Int), .int .i64 (c : Int), .int .i64 ld])], H ++ ([] ++ gN (fl (rml (fun n => mel l off ld (n % r) (n / r)) (k * r))))⟩) (by simp only [Nat.zero_mul]; exact rfl) ?_ ?_ <;> (first | intro k hk K hK | intro K) <;> (try dsimp only at *) <;> (try simp only [Int.natCast_add, Int.natCast_one, Nat.add_mul, Nat.one_mul] at *)) | fail))
    | refine a_cons (by (conv => {lhs; whnf}); done) ?_
    | refine a_nil ?_
    | (refine gateK ?_; (first | refine c_call (span_c _ D l.length off _ _ ld hF.len hI) (OldOk.app (by simp)) ?_ | refine c_call (col_c _ D l (FL.app hF _) off _ _ ld hI hG (k : Int) (by omega) (by omega)) (OldOk.app (by simp)) ?_ | fail))
    | refine gk_consF (by kernel_rfl) ?_
    | refine gk_cons (by (conv => {lhs; whnf}); done) ?_
    | (refine gk_nilN (by (conv => {lhs; simp only [List.nil_append, List.cons_append]}); done) ?_; first | refine ⟨by exact rfl, ?_⟩ | skip)
    | refine gk_nil ?_
    | (intro N' hN'; simp only [List.nil_append, List.cons_append] at hN'; subst hN')
    | (refine gateB ?_; (first | refine b_bln ?_ | refine b_blr ?_ | refine b_ble ?_ | refine b_blo (by exact rfl) ?_ | fail))
    | (refine gateL ?_; (first | refine lp_n ?_ | refine lp_r ?_ | refine lp_e ?_ | fail))
    | (refine pr_k (by exact rfl) ?_; first | exact hK | fail | (exfalso; first | omega | (simp_all; done) | (simp_all; omega)))
    | (refine gateQ ?_; refine b_retK (by simp) (by (conv => {lhs; whnf}); done) ?_)
    | (refine gateR ?_; (first | refine rk_tmp (by (conv => {lhs; whnf}); done) ?_ | refine rk_cellA (by (conv => {lhs; whnf}); done) (by exact rfl) (by exact rfl) ?_ | refine rk_cell1 (by (conv => {lhs; whnf}); done) (by exact rfl) (by exact rfl) ?_ | refine rk_nil ?_ | fail))
    | intro _)
  all_goals first
    | (refine rv_fr rfl ?_; have hz : r * c = 0 := by (have hsp : ¬ SpanP l.length off r c ld := by assumption); (have : r = 0 ∨ c = 0 := by (rcases Nat.eq_zero_or_pos r with h | h; exact .inl h; rcases Nat.eq_zero_or_pos c with h' | h'; exact .inr h'; exact absurd ⟨hG, by omega, by omega⟩ hsp)); rcases this with h | h <;> simp [h]
       rw [show fl (cmA (mel l off ld) r c) = [] from by rw [cmA, hz]; rfl, hz]; exact Fr.nil)
    | (refine rv_fr rfl ?_; rw [Nat.mul_comm r c, cmA, Nat.mul_comm r c]; exact gV_fr (N₀ := []) (i := 0) rfl rfl (by simp) (by rw [mxL_fl]; exact Nat.zero_le _))


end Go.Sx

set_option linter.unusedVariables false
set_option linter.unusedSimpArgs false
set_option maxRecDepth 20000
namespace Go.Sx
open Go.Proofs
attribute [local irreducible] Ex exOps exD opX opE thenX blkX RetQ Spec CSpec Fr condK guardK guardD ckK valK pickK loadK faK callK argK gK fK rK RetV lpX prK
set_option maxHeartbeats 4000000 in
theorem rmax_c (H : List (List AV)) (A : AV) (a : List Nat) (hA : FL H A a) (r c : Nat) (ha : a.length = r * c) (hr : r ≤ 1000) (hc : c ≤ 1000) :
    CSpec Try.prog 31 [mM A r c] H (.flt (greatF (a.map absF))) H := by
  have hrc : r * c ≤ 1000000 := by (have := Nat.mul_le_mul hr hc; omega)
  refine .mk (fun args w => Try.call31 args w) (Spec.intro' (fn := Try.f31) Try.func31 rfl (by kernel_rfl) (by simp) false [] (draw := drawX Try.prog ⟨false, _, []⟩) dOk ?_)
  simp only [argE, Nat.reduceAdd]
  repeat' (first
    | (refine gateE ?_; (first | refine b_c0 ?_ | refine b_nil ?_ | fail))
    | (refine gateO ?_; (first | (refine b_fa (by (conv => {lhs; whnf}); done) ?_; first | refine f_loc (by (conv => {lhs; whnf}); done) ?_ | refine f_ptr (by (conv => {lhs; whnf}); done) ?_) | (refine b_load (by (conv => {lhs; whnf}); done) ?_; (first | refine l_loc1 (by exact rfl) (by exact rfl) ?_ | refine l_locA (by exact rfl) (by exact rfl) ?_ | fail)) | refine b_assignF (by kernel_rfl) ?_ | refine b_assignI ?_ | refine b_assignN ?_ | refine b_assign (by (conv => {lhs; whnf}); done) ?_ | refine b_callB ?_ | refine b_box (by (conv => {lhs; whnf}); done) (by exact rfl) (by exact rfl) (by exact rfl) (by exact rfl) ?_ | fail))
    | (refine gateT ?_; (first | refine b_thn ?_ | refine b_thr ?_ | refine b_the ?_ | fail))
    | (refine gateX ?_; (first | refine b_seq ?_ | refine b_region ?_ | (refine b_cond (by (conv => {lhs; whnf}); done) ?_; (first | refine c_T ?_ | refine c_F ?_ | refine c_P ?_ ?_ | refine c_B ?_ ?_ | fail)) | refine b_ret ?_ | refine b_skip ?_ | refine b_block ?_ | refine b_exit ?_ | fail))
    | refine a_cons (by (conv => {lhs; whnf}); done) ?_
    | refine a_nil ?_
    | (refine gateK ?_; (first | refine c_call (rmost_c _ A a (FL.app hA _) (by omega)) (OldOk.app (by simp)) ?_ | fail))
    | (refine gateQ ?_; refine b_retK (by simp) (by (conv => {lhs; whnf}); done) ?_)
    | (refine gateR ?_; (first | refine rk_tmp (by (conv => {lhs; whnf}); done) ?_ | refine rk_cellA (by (conv => {lhs; whnf}); done) (by exact rfl) (by exact rfl) ?_ | refine rk_cell1 (by (conv => {lhs; whnf}); done) (by exact rfl) (by exact rfl) ?_ | refine rk_nil ?_ | fail))
    | intro _)
  all_goals first | refine rv_old rfl (by simp [mx, mxL, aOf, aOf1, resOne]) ?_ | (trace_state; fail)
  all_goals exact rfl


end Go.Sx

set_option linter.unusedVariables false
set_option linter.unusedSimpArgs false
set_option maxRecDepth 20000
namespace Go.Sx
open Go.Proofs
attribute [local irreducible] Ex exOps exD opX opE thenX blkX RetQ Spec CSpec Fr condK guardK guardD ckK valK pickK loadK faK callK argK gK fK rK RetV lpX prK
set_option maxHeartbeats 4000000 in
theorem vat_c (H : List (List AV)) (D : AV) (l : List Nat) (hF : FL H D l) (off rows cols ld : Int) (hI : MI l.length off rows cols ld) (hG : GoodP l.length off rows cols ld) (i j : Int) (hi : 0 ≤ i) (hj : 0 ≤ j) (hi' : i < rows) (hj' : j < cols) :
    CSpec Try.prog 105 [mt D off rows cols ld, .int .i64 i, .int .i64 j] H (.flt (mel l off ld i.toNat j.toNat)) H := by
  obtain ⟨hn, ho1, ho2, hr1, hr2, hc1, hc2, hl1, hl2⟩ := id hI
  have hpl := (plV_T (show PlaceP l.length off rows cols ld i j from ⟨hG, hi, hj, hi', hj'⟩)).1
  have hpl0 := (plV_T (show PlaceP l.length off rows cols ld i j from ⟨hG, hi, hj, hi', hj'⟩)).2
  have hpl9 := pl_lt hpl0
  have hij : (i.toNat : Int) = i ∧ (j.toNat : Int) = j := ⟨by omega, by omega⟩
  have hmul : (j.toNat : Int) * ld = j * ld := by rw [hij.2]
  refine .mk (fun args w => Try.call105 args w) (Spec.intro' (fn := Try.f105) Try.func105 rfl (by kernel_rfl) (by simp) false [] (draw := drawX Try.prog ⟨false, _, []⟩) dOk ?_)
  simp only [argE, Nat.reduceAdd]
  repeat' (first
    | (refine gateE ?_; (first | refine b_c0 ?_ | refine b_nil ?_ | fail))
    | (refine gateO ?_; (first | refine b_move (by (conv => {lhs; whnf}); done) ?_ | (refine b_fa (by (conv => {lhs; whnf}); done) ?_; first | refine f_loc (by (conv => {lhs; whnf}); done) ?_ | refine f_ptr (by (conv => {lhs; whnf}); done) ?_) | (refine b_load (by (conv => {lhs; whnf}); done) ?_; (first | refine l_loc1 (by exact rfl) (by exact rfl) ?_ | refine l_locA (by exact rfl) (by exact rfl) ?_ | refine l_FL (FL.app hF _) (by omega) ?_ | fail)) | refine b_iaF (by (conv => {lhs; whnf}); done) (by (conv => {lhs; whnf}); done) (by exact hF.len) (by omega) ?_ | (refine b_bin (by (conv => {lhs; whnf}); done) (by (conv => {lhs; whnf}); done) (by (conv => {lhs; whnf}); done) ?_; (first | refine v_T (by omega) ?_ | refine v_F (by omega) ?_ | refine v_w (by omega) ?_ | refine v_wu (by omega) ?_ | refine v_k ?_ | refine v_c (by omega) ?_ | fail)) | refine b_assignF (by kernel_rfl) ?_ | refine b_assignI ?_ | refine b_assignN ?_ | refine b_assign (by (conv => {lhs; whnf}); done) ?_ | refine b_callB ?_ | refine b_box (by (conv => {lhs; whnf}); done) (by exact rfl) (by exact rfl) (by exact rfl) (by exact rfl) ?_ | fail))
    | (refine gateT ?_; (first | refine b_thn ?_ | refine b_thr ?_ | refine b_the ?_ | fail))
    | (refine gateX ?_; (first | refine b_seq ?_ | refine b_region ?_ | (refine b_cond (by (conv => {lhs; whnf}); done) ?_; (first | refine c_T ?_ | refine c_F ?_ | refine c_P ?_ ?_ | refine c_B ?_ ?_ | fail)) | refine b_ret ?_ | refine b_skip ?_ | refine b_block ?_ | refine b_exit ?_ | fail))
    | refine a_cons (by (conv => {lhs; whnf}); done) ?_
    | refine a_nil ?_
    | (refine gateK ?_; (first | refine c_call (place_c _ D l.length off rows cols ld hF.len hI i j (by omega) (by omega) (by omega) (by omega)) (OldOk.app (by simp)) ?_ | fail))
    | (refine gateQ ?_; refine b_retK (by simp) (by (conv => {lhs; whnf}); done) ?_)
    | (refine gateR ?_; (first | refine rk_tmp (by (conv => {lhs; whnf}); done) ?_ | refine rk_cellA (by (conv => {lhs; whnf}); done) (by exact rfl) (by exact rfl) ?_ | refine rk_cell1 (by (conv => {lhs; whnf}); done) (by exact rfl) (by exact rfl) ?_ | refine rk_nil ?_ | fail))
    | intro _)
  all_goals first | refine rv_old rfl (by simp [mx, mxL, aOf, aOf1, resOne]) ?_ | (trace_state; fail)
  all_goals first
    | (refine congrArg AV.flt ?_; rw [mel_pos, hpl]; unfold pos; congr 2; omega)
    | (exfalso; omega)

set_option maxHeartbeats 4000000 in
theorem grow_c (H : List (List AV)) (D : AV) (l : List Nat) (hF : FL H D l) (off n inc : Int) (hI : VI l.length off n inc) :
    CSpec Try.prog 142 [vt D off n inc] H (mt D off 1 n inc) H := by
  refine .mk (fun args w => Try.call142 args w) (Spec.intro' (fn := Try.f142) Try.func142 rfl (by kernel_rfl) (by simp) false [] (draw := drawX Try.prog ⟨false, _, []⟩) dOk ?_)
  simp only [argE, Nat.reduceAdd]
  repeat' (first
    | (refine gateE ?_; (first | refine b_c0 ?_ | refine b_nil ?_ | fail))
    | (refine gateO ?_; (first | (refine b_fa (by (conv => {lhs; whnf}); done) ?_; first | refine f_loc (by (conv => {lhs; whnf}); done) ?_ | refine f_ptr (by (conv => {lhs; whnf}); done) ?_) | (refine b_load (by (conv => {lhs; whnf}); done) ?_; (first | refine l_loc1 (by exact rfl) (by exact rfl) ?_ | refine l_locA (by exact rfl) (by exact rfl) ?_ | fail)) | refine b_stL (by (conv => {lhs; whnf}); done) (by (conv => {lhs; whnf}); done) (by first | exact (by exact rfl) | exact cells_of_len hF.len | fail) (by exact rfl) (by exact rfl) (by exact Nat.le_of_ble_eq_true rfl) (by (conv => {lhs; simp only [sc, List.set_cons_zero, List.set_cons_succ]}); done) ?_ | refine b_box (by (conv => {lhs; whnf}); done) (by exact rfl) (by exact rfl) (by exact rfl) (by exact rfl) ?_ | refine b_alloc (by exact rfl) (by exact rfl) ?_ | refine b_build ?_ | fail))
    | (refine gateT ?_; (first | refine b_thn ?_ | refine b_thr ?_ | refine b_the ?_ | fail))
    | (refine gateX ?_; (first | refine b_seq ?_ | refine b_region ?_ | (refine b_cond (by (conv => {lhs; whnf}); done) ?_; (first | refine c_T ?_ | refine c_F ?_ | refine c_P ?_ ?_ | refine c_B ?_ ?_ | fail)) | refine b_ret ?_ | refine b_skip ?_ | refine b_block ?_ | refine b_exit ?_ | fail))
    | refine fk_cons (by (conv => {lhs; whnf}); done) (by first | exact (by exact rfl) | exact cells_of_len hF.len | fail) (by exact rfl) (by exact rfl) (by (conv => {lhs; simp only [sc, List.set_cons_zero, List.set_cons_succ]}); done) ?_
    | refine fk_nil ?_
    | (refine gateQ ?_; refine b_retK (by simp) (by (conv => {lhs; whnf}); done) ?_)
    | (refine gateR ?_; (first | refine rk_tmp (by (conv => {lhs; whnf}); done) ?_ | refine rk_cellA (by (conv => {lhs; whnf}); done) (by exact rfl) (by exact rfl) ?_ | refine rk_cell1 (by (conv => {lhs; whnf}); done) (by exact rfl) (by exact rfl) ?_ | refine rk_nil ?_ | fail))
    | intro _)
  all_goals first
    | (refine rv_old rfl (by have := hF.mx; simp [mx, mxL, resOne, aOf, aOf1]; omega) ?_; exact rfl)

set_option maxHeartbeats 4000000 in
theorem swap_c (H H' : List (List AV)) (b : Nat) (l : List Nat) (hb : H[b]? = some (fl l)) (off ld : Int) (r c : Nat) (hI : MI l.length off r c ld) (hG : GoodP l.length off r c ld) (i k : Nat) (hi : i < r) (hk : k < r) (hik : i ≠ k) (hH : H.set b (fl (setM l off ld r c (swpG (mel l off ld) i k))) = H') :
    CSpec Try.prog 159 [vt (.slm b l.length 0 l.length 1) (rOff off (c : Int) (i : Int)) c ld, vt (.slm b l.length 0 l.length 1) (rOff off (c : Int) (k : Int)) c ld] H (.tup []) H' := by
  subst hH
  obtain ⟨hn, ho1, ho2, hr1, hr2, hc1, hc2, hl1, hl2⟩ := id hI
  have hbl : b < H.length := (List.getElem?_eq_some_iff.1 hb).1
  have hgd := id hG
  obtain ⟨hg1, hg2, hg3, hg4, hg5, hg6⟩ := hgd
  have hS0 : H.set b (fl (setM l off ld r c (swpS (mel l off ld) i k 0))) = H := by (rw [setM_congr (g' := mel l off ld) (by omega) (by omega) (fun i' j _ _ => by simp [swpS]), setM_mel (by omega) (by omega)]; exact set_self hb)
  have hS9 : setM l off ld r c (swpG (mel l off ld) i k) = setM l off ld r c (swpS (mel l off ld) i k c) := setM_congr (by omega) (by omega) (fun i' j _ hj => by simp [swpS, hj])
  rw [hS9]
  refine .mk (fun args w => Try.call159 args w) (Spec.intro' (fn := Try.f159) Try.func159 rfl (by kernel_rfl) (by simp) false [] (draw := drawX Try.prog ⟨false, _, []⟩) dOk ?_)
  simp only [argE, Nat.reduceAdd]
  repeat' (first
    | (refine gateE ?_; (first | refine b_c0 ?_ | refine b_nil ?_ | fail))
    | (refine gateO ?_; (first | refine b_moveF (by kernel_rfl) ?_ | refine b_moveI ?_ | refine b_move (by (conv => {lhs; whnf}); done) ?_ | (refine b_fa (by (conv => {lhs; whnf}); done) ?_; first | refine f_loc (by (conv => {lhs; whnf}); done) ?_ | refine f_ptr (by (conv => {lhs; whnf}); done) ?_) | (refine b_load (by (conv => {lhs; whnf}); done) ?_; (first | refine l_loc1 (by exact rfl) (by exact rfl) ?_ | refine l_locA (by exact rfl) (by exact rfl) ?_ | refine l_bF hbl (by simp) (by simp; first | exact pos_lt hG hi ht | exact pos_lt hG hk ht | fail) ?_ | fail)) | refine b_nilC (by (conv => {lhs; whnf}); done) ?_ | refine b_iaM (m := pos off ld i t) (by (conv => {lhs; whnf}); done) (by (conv => {lhs; whnf}); done) (by exact rfl) (by exact row_pos hG hi ht) (by exact pos_lt hG hi ht) ?_ | refine b_iaM (m := pos off ld k t) (by (conv => {lhs; whnf}); done) (by (conv => {lhs; whnf}); done) (by exact rfl) (by exact row_pos hG hk ht) (by exact pos_lt hG hk ht) ?_ | refine b_stB (X' := setM l off ld r c (updG (swpS (mel l off ld) i k t) i t (mel l off ld k t))) (by (conv => {lhs; whnf}); done) (by (conv => {lhs; whnf}); done) hbl (by simp) (by simp; exact pos_lt hG hi ht) (by rw [Nat.zero_add, Nat.zero_add, ← mel_pos, mel_setM hG hk ht, set_setM hG hi ht]; simp [swpS]) ?_ | refine b_stB (X' := setM l off ld r c (swpS (mel l off ld) i k (t + 1))) (by (conv => {lhs; whnf}); done) (by (conv => {lhs; whnf}); done) hbl (by simp) (by simp; exact pos_lt hG hk ht) (by rw [Nat.zero_add, Nat.zero_add, ← mel_pos, mel_setM hG hi ht, set_setM hG hk ht]; exact setM_congr (by omega) (by omega) (fun i' j _ _ => by rw [← swpS_step hik]; simp [swpS])) ?_ | (refine b_bin (by (conv => {lhs; whnf}); done) (by (conv => {lhs; whnf}); done) (by (conv => {lhs; whnf}); done) ?_; (first | refine v_w (by first | omega | (have h1 := row_pos hG hi ht; have h2 := pos_lt hG hi ht; have h3 := row_pos hG hk ht; have h4 := pos_lt hG hk ht; have h5 := good_place hG (i := 0) (j := (t : Int)) (by omega) (by omega) (by omega) (by omega); omega) | fail) ?_ | refine v_T (by omega) ?_ | refine v_F (by omega) ?_ | refine v_w (by omega) ?_ | refine v_wu (by omega) ?_ | refine v_k ?_ | refine v_c (by omega) ?_ | fail)) | refine b_assign (by (conv => {lhs; whnf}); done) ?_ | refine b_stL (by (conv => {lhs; whnf}); done) (by (conv => {lhs; whnf}); done) (by first | exact (by exact rfl) | exact cells_of_len hF.len | fail) (by exact rfl) (by exact rfl) (by exact Nat.le_of_ble_eq_true rfl) (by (conv => {lhs; simp only [sc, List.set_cons_zero, List.set_cons_succ]}); done) ?_ | refine b_box (by (conv => {lhs; whnf}); done) (by exact rfl) (by exact rfl) (by exact rfl) (by exact rfl) ?_ | fail))
    | (refine gateD ?_; (first | refine d_c0 (by exact rfl) ?_ | refine d_nil ?_ | fail))
    | (refine gateC ?_; (first | refine k_lt ?_ | refine k_ld (by (conv => {lhs; whnf}); done) (by exact rfl) ?_ | refine k_ldT (by (conv => {lhs; whnf}); done) ?_ | refine k_bin (by (conv => {lhs; whnf}); done) (by exact rfl) ?_ | refine k_mn ?_ | refine k_mnB (by exact rfl) ?_ | refine k_mnF ?_ | fail))
    | (refine gateT ?_; (first | refine b_thn ?_ | refine b_thr ?_ | refine b_the ?_ | fail))
    | (refine gateX ?_; (first | refine b_seq ?_ | refine b_region ?_ | (refine b_cond (by (conv => {lhs; whnf}); done) ?_; (first | refine c_T ?_ | refine c_F ?_ | refine c_P ?_ ?_ | refine c_B ?_ ?_ | fail)) | refine b_ret ?_ | refine b_skip ?_ | refine b_block ?_ | refine b_exit ?_ | refine b_draw (id := 4) [] [] [(0, .lt), (1, .ld true), (2, .lt), (3, .ld true), (4, .lt), (5, .lt), (6, .ld true), (7, .lt), (8, .lt), (9, .lt), (10, .lt), (11, .ld true), (12, .lt), (13, .ld true), (14, .lt), (15, .lt), (16, .ld true), (17, .lt), (18, .lt), (19, .lt), (20, .lt), (21, .lt)] (by kernel_rfl) ?_ | refine b_draw (id := 5) [] [9, 11] [(0, .lt), (1, .lt), (2, .lt), (3, .lt), (4, .ld true), (5, .lt), (6, .lt), (7, .ld true), (8, .lt), (9, .mn false), (10, .lt), (11, .mn false)] (by kernel_rfl) ?_ | (refine b_loop [9, 8, 2, 3] c (fun t => ⟨[(9, .val (.int .i64 (t : Int))), (8, .val (.int .i64 (c : Int))), (2, .loc 2 0), (3, .loc 3 0)], [(2, [(.slm b l.length 0 l.length 1), .int .i64 (rOff off (c : Int) (i : Int)), .int .i64 (c : Int), .int .i64 ld]), (3, [(.slm b l.length 0 l.length 1), .int .i64 (rOff off (c : Int) (k : Int)), .int .i64 (c : Int), .int .i64 ld])], H.set b (fl (setM l off ld r c (swpS (mel l off ld) i k t))) ++ []⟩) (by simp only [hS0]; exact rfl) ?_ ?_ <;> (first | intro t ht K hK | intro K) <;> (try dsimp only at *) <;> (try simp only [Int.natCast_add, Int.natCast_one] at *)) | fail))
    | (refine gateB ?_; (first | refine b_bln ?_ | refine b_blr ?_ | refine b_ble ?_ | refine b_blo (by exact rfl) ?_ | fail))
    | (refine gateL ?_; (first | refine lp_n ?_ | refine lp_r ?_ | refine lp_e ?_ | fail))
    | (refine pr_k (by exact rfl) ?_; first | exact hK | fail | (exfalso; first | omega | (simp_all; done) | (simp_all; omega)))
    | (refine gateQ ?_; refine b_retK (by simp) (by (conv => {lhs; whnf}); done) ?_)
    | (refine gateR ?_; (first | refine rk_tmp (by (conv => {lhs; whnf}); done) ?_ | refine rk_cellA (by (conv => {lhs; whnf}); done) (by exact rfl) (by exact rfl) ?_ | refine rk_cell1 (by (conv => {lhs; whnf}); done) (by exact rfl) (by exact rfl) ?_ | refine rk_nil ?_ | fail))
    | intro _)
  all_goals first
    | (refine rv_old (by simp) (by simp [mx, mxL, resOne]) ?_; exact rfl)


end Go.Sx

set_option linter.unusedVariables false
set_option linter.unusedSimpArgs false
set_option maxRecDepth 20000
namespace Go.Sx
open Go.Proofs
attribute [local irreducible] Ex exOps exD opX opE thenX blkX RetQ Spec CSpec Fr condK guardK guardD ckK valK pickK loadK faK callK argK gK fK rK RetV lpX prK
set_option maxHeartbeats 4000000 in
theorem rows_c (H H' : List (List AV)) (b : Nat) (l : List Nat) (hb : H[b]? = some (fl l)) (off ld : Int) (r c : Nat) (hI : MI l.length off r c ld) (hG : GoodP l.length off r c ld) (i k : Nat) (hi : i < r) (hk : k < r) (hH : H.set b (fl (setM l off ld r c (swpG (mel l off ld) i k))) = H') :
    CSpec Try.prog 140 [mt (.slm b l.length 0 l.length 1) off r c ld, .int .i64 (i : Int), .int .i64 (k : Int)] H (.int .i64 0) H' := by
  subst hH
  obtain ⟨hn, ho1, ho2, hr1, hr2, hc1, hc2, hl1, hl2⟩ := id hI
  have hbl : b < H.length := (List.getElem?_eq_some_iff.1 hb).1
  have hgd := id hG
  obtain ⟨hg1, hg2, hg3, hg4, hg5, hg6⟩ := hgd
  refine .mk (fun args w => Try.call140 args w) (Spec.intro' (fn := Try.f140) Try.func140 rfl (by kernel_rfl) (by simp) false [] (draw := drawX Try.prog ⟨false, _, []⟩) dOk ?_)
  simp only [argE, Nat.reduceAdd]
  repeat' (first
    | (refine gateE ?_; (first | refine b_c0 ?_ | refine b_nil ?_ | refine b_gT (by exact rfl) (by exact rfl) ?_ | refine b_gF (by exact rfl) (by exact rfl) (by exact rfl) ?_ | refine b_gU (by exact rfl) (by exact rfl) (by constructor <;> simp) (by exact rfl) (by exact rfl) ?_ | (refine b_g0 (by exact rfl) (by exact rfl) (by (conv => {lhs; whnf}); done) ?_; (first | refine g_TT ?_ | refine g_FF ?_ | refine g_TF ?_ | refine g_FT ?_ | refine g_PT ?_ ?_ | refine g_PF ?_ ?_ | refine g_BT ?_ ?_ | refine g_BF ?_ ?_ | fail)) | (refine b_g1 (by exact rfl) (by exact rfl) (by exact rfl) (by (conv => {lhs; whnf}); done) ?_; (first | refine g_TT ?_ | refine g_FF ?_ | refine g_TF ?_ | refine g_FT ?_ | refine g_PT ?_ ?_ | refine g_PF ?_ ?_ | refine g_BT ?_ ?_ | refine g_BF ?_ ?_ | fail)) | refine b_c1 (by exact rfl) ?_ | fail))
    | (refine gateO ?_; (first | refine b_move (by (conv => {lhs; whnf}); done) ?_ | (refine b_fa (by (conv => {lhs; whnf}); done) ?_; first | refine f_loc (by (conv => {lhs; whnf}); done) ?_ | refine f_ptr (by (conv => {lhs; whnf}); done) ?_) | (refine b_load (by (conv => {lhs; whnf}); done) ?_; (first | refine l_loc1 (by exact rfl) (by exact rfl) ?_ | refine l_locA (by exact rfl) (by exact rfl) ?_ | fail)) | (refine b_bin (by (conv => {lhs; whnf}); done) (by (conv => {lhs; whnf}); done) (by (conv => {lhs; whnf}); done) ?_; (first | refine v_neT (by omega) ?_ | refine v_neF (by omega) ?_ | refine v_neP ?_ | refine v_T (by omega) ?_ | refine v_F (by omega) ?_ | refine v_w (by omega) ?_ | refine v_wu (by omega) ?_ | refine v_nT ?_ | refine v_nF ?_ | refine v_nP ?_ | refine v_k ?_ | refine v_c (by omega) ?_ | fail)) | (refine b_pick (by (conv => {lhs; whnf}); done) ?_; (first | refine p_T (by (conv => {lhs; whnf}); done) ?_ | refine p_F (by (conv => {lhs; whnf}); done) ?_ | fail)) | refine b_assignF (by kernel_rfl) ?_ | refine b_assignI ?_ | refine b_assignN ?_ | refine b_assign (by (conv => {lhs; whnf}); done) ?_ | (refine b_un (by (conv => {lhs; whnf}); done) (by (conv => {lhs; whnf}); done) ?_; (first | refine v_neT (by omega) ?_ | refine v_neF (by omega) ?_ | refine v_neP ?_ | refine v_T (by omega) ?_ | refine v_F (by omega) ?_ | refine v_w (by omega) ?_ | refine v_wu (by omega) ?_ | refine v_nT ?_ | refine v_nF ?_ | refine v_nP ?_ | refine v_k ?_ | refine v_c (by omega) ?_ | fail)) | refine b_callB ?_ | refine b_box (by (conv => {lhs; whnf}); done) (by exact rfl) (by exact rfl) (by exact rfl) (by exact rfl) ?_ | fail))
    | (refine gateD ?_; (first | refine d_c0 (by exact rfl) ?_ | refine d_nil ?_ | refine d_gT (by exact rfl) (by exact rfl) (by exact rfl) ?_ | refine d_gF (by exact rfl) (by exact rfl) (by exact rfl) (by exact rfl) ?_ | refine d_gU (by exact rfl) (by exact rfl) (by exact rfl) (by constructor <;> simp) (by exact rfl) (by exact rfl) ?_ | (refine d_g0 (by exact rfl) (by exact rfl) (by exact rfl) (by (conv => {lhs; whnf}); done) ?_; (first | refine dg_TT ?_ | refine dg_FF ?_ | refine dg_TF ?_ | refine dg_FT ?_ | refine dg_PT ?_ ?_ | refine dg_PF ?_ ?_ | refine dg_BT ?_ ?_ | refine dg_BF ?_ ?_ | fail)) | (refine d_g1 (by exact rfl) (by exact rfl) (by exact rfl) (by exact rfl) (by (conv => {lhs; whnf}); done) ?_; (first | refine dg_TT ?_ | refine dg_FF ?_ | refine dg_TF ?_ | refine dg_FT ?_ | refine dg_PT ?_ ?_ | refine dg_PF ?_ ?_ | refine dg_BT ?_ ?_ | refine dg_BF ?_ ?_ | fail)) | refine d_c1 (by exact rfl) (by exact rfl) ?_ | fail))
    | (refine gateC ?_; (first | refine k_lt ?_ | refine k_ld (by (conv => {lhs; whnf}); done) (by exact rfl) ?_ | refine k_ldT (by (conv => {lhs; whnf}); done) ?_ | refine k_bin (by (conv => {lhs; whnf}); done) (by exact rfl) ?_ | refine k_mn ?_ | refine k_mnB (by exact rfl) ?_ | refine k_mnF ?_ | fail))
    | (refine gateT ?_; (first | refine b_thn ?_ | refine b_thr ?_ | refine b_the ?_ | fail))
    | (refine gateX ?_; (first | refine b_seq ?_ | refine b_region ?_ | (refine b_cond (by (conv => {lhs; whnf}); done) ?_; (first | refine c_T ?_ | refine c_F ?_ | refine c_P ?_ ?_ | refine c_B ?_ ?_ | fail)) | refine b_ret ?_ | refine b_skip ?_ | refine b_block ?_ | refine b_exit ?_ | refine b_draw (id := 4) [] [6] [(0, .ld true), (1, .lt), (3, .ld true), (4, .lt), (2, .mn true), (5, .mn true), (6, .mn false)] (by kernel_rfl) ?_ | fail))
    | refine a_cons (by (conv => {lhs; whnf}); done) ?_
    | refine a_nil ?_
    | (refine gateK ?_; (first | refine c_call (good_c _ _ l.length off _ _ ld (by exact rfl) hI) (OldOk.app (by simp)) ?_ | refine c_call (row_c _ _ l ((FL.old hb (by exact rfl) rfl).app _) off _ _ ld hI hG (i : Int) (by omega) (by omega)) (OldOk.app (by simp)) ?_ | refine c_call (row_c _ _ l ((FL.old hb (by exact rfl) rfl).app _) off _ _ ld hI hG (k : Int) (by omega) (by omega)) (OldOk.app (by simp)) ?_ | refine c_call (swap_c _ _ b l (hg_old hb) off ld r c hI hG i k hi hk (by omega) (hs_old hbl)) (OldOk.set (by simp) (by rw [mxL_fl]; omega)) ?_ | fail))
    | (refine gateQ ?_; refine b_retK (by simp) (by (conv => {lhs; whnf}); done) ?_)
    | (refine gateR ?_; (first | refine rk_tmp (by (conv => {lhs; whnf}); done) ?_ | refine rk_cellA (by (conv => {lhs; whnf}); done) (by exact rfl) (by exact rfl) ?_ | refine rk_cell1 (by (conv => {lhs; whnf}); done) (by exact rfl) (by exact rfl) ?_ | refine rk_nil ?_ | fail))
    | intro _)
  all_goals first
    | (exfalso; first | contradiction | omega)
    | (have hik : i = k := by omega
       subst hik
       rw [setM_congr (g' := mel l off ld) (by omega) (by omega) (fun i' j _ _ => swpG_same i' j), setM_mel (by omega) (by omega), set_self hb]
       refine rv_old rfl (by simp [mx, mxL, aOf, aOf1, resOne]) ?_; exact rfl)
    | (refine rv_old (by simp) (by simp [mx, mxL, aOf, aOf1, resOne]) ?_; exact rfl)

set_option maxHeartbeats 4000000 in
theorem most_c (H : List (List AV)) (D : AV) (l : List Nat) (hF : FL H D l) (off inc : Int) (n : Nat) (hI : VI l.length off n inc) (hR : RightP l.length off n inc) (hn0 : 0 < n) :
    CSpec Try.prog 139 [vt D off n inc] H (.tup [.int .i64 (moN (vecL l off (n : Int) inc) n : Int), .int .i64 0]) H := by
  obtain ⟨hm, ho1, ho2, hn1, hn2, hi1, hi2⟩ := id hI
  have hlt : ∀ k, 0 < k → moN (vecL l off (n : Int) inc) k < k := fun k hk => moN_lt _ k hk
  have hg : ∀ k : Nat, k < n → l.getD (off + (k : Int) * inc).toNat 0 = (vecL l off (n : Int) inc).getD k 0 := fun k hk => (vecL_get (by omega)).symm
  refine .mk (fun args w => Try.call139 args w) (Spec.intro' (fn := Try.f139) Try.func139 rfl (by kernel_rfl) (by simp) false [] (draw := drawX Try.prog ⟨false, _, []⟩) dOk ?_)
  simp only [argE, Nat.reduceAdd]
  repeat' (first
    | (refine gateE ?_; (first | refine b_c0 ?_ | refine b_nil ?_ | refine b_gT (by exact rfl) (by exact rfl) ?_ | refine b_gF (by exact rfl) (by exact rfl) (by exact rfl) ?_ | refine b_gU (by exact rfl) (by exact rfl) (by constructor <;> simp) (by exact rfl) (by exact rfl) ?_ | (refine b_g0 (by exact rfl) (by exact rfl) (by (conv => {lhs; whnf}); done) ?_; (first | refine g_TT ?_ | refine g_FF ?_ | refine g_TF ?_ | refine g_FT ?_ | refine g_PT ?_ ?_ | refine g_PF ?_ ?_ | refine g_BT ?_ ?_ | refine g_BF ?_ ?_ | fail)) | (refine b_g1 (by exact rfl) (by exact rfl) (by exact rfl) (by (conv => {lhs; whnf}); done) ?_; (first | refine g_TT ?_ | refine g_FF ?_ | refine g_TF ?_ | refine g_FT ?_ | refine g_PT ?_ ?_ | refine g_PF ?_ ?_ | refine g_BT ?_ ?_ | refine g_BF ?_ ?_ | fail)) | refine b_c1 (by exact rfl) ?_ | fail))
    | (refine gateO ?_; (first | refine b_moveF (by kernel_rfl) ?_ | refine b_moveI ?_ | refine b_move (by (conv => {lhs; whnf}); done) ?_ | (refine b_fa (by (conv => {lhs; whnf}); done) ?_; first | refine f_loc (by (conv => {lhs; whnf}); done) ?_ | refine f_ptr (by (conv => {lhs; whnf}); done) ?_) | (refine b_load (by (conv => {lhs; whnf}); done) ?_; (first | refine l_loc1 (by exact rfl) (by exact rfl) ?_ | refine l_locA (by exact rfl) (by exact rfl) ?_ | fail)) | (refine b_bin (by (conv => {lhs; whnf}); done) (by (conv => {lhs; whnf}); done) (by (conv => {lhs; whnf}); done) ?_; (first | refine v_T (by omega) ?_ | refine v_F (by omega) ?_ | refine v_w (by omega) ?_ | refine v_wu (by omega) ?_ | refine v_nT ?_ | refine v_nF ?_ | refine v_nP ?_ | refine v_k ?_ | refine v_c (by omega) ?_ | fail)) | (refine b_pick (by (conv => {lhs; whnf}); done) ?_; (first | refine p_T (by (conv => {lhs; whnf}); done) ?_ | refine p_F (by (conv => {lhs; whnf}); done) ?_ | fail)) | refine b_assignF (by kernel_rfl) ?_ | refine b_assignI ?_ | refine b_assignN ?_ | refine b_assign (by (conv => {lhs; whnf}); done) ?_ | (refine b_un (by (conv => {lhs; whnf}); done) (by (conv => {lhs; whnf}); done) ?_; (first | refine v_T (by omega) ?_ | refine v_F (by omega) ?_ | refine v_w (by omega) ?_ | refine v_wu (by omega) ?_ | refine v_nT ?_ | refine v_nF ?_ | refine v_nP ?_ | refine v_k ?_ | refine v_c (by omega) ?_ | fail)) | refine b_callB ?_ | refine b_box (by (conv => {lhs; whnf}); done) (by exact rfl) (by exact rfl) (by exact rfl) (by exact rfl) ?_ | fail))
    | (refine gateD ?_; (first | refine d_c0 (by exact rfl) ?_ | refine d_nil ?_ | refine d_gT (by exact rfl) (by exact rfl) (by exact rfl) ?_ | refine d_gF (by exact rfl) (by exact rfl) (by exact rfl) (by exact rfl) ?_ | refine d_gU (by exact rfl) (by exact rfl) (by exact rfl) (by constructor <;> simp) (by exact rfl) (by exact rfl) ?_ | (refine d_g0 (by exact rfl) (by exact rfl) (by exact rfl) (by (conv => {lhs; whnf}); done) ?_; (first | refine dg_TT ?_ | refine dg_FF ?_ | refine dg_TF ?_ | refine dg_FT ?_ | refine dg_PT ?_ ?_ | refine dg_PF ?_ ?_ | refine dg_BT ?_ ?_ | refine dg_BF ?_ ?_ | fail)) | (refine d_g1 (by exact rfl) (by exact rfl) (by exact rfl) (by exact rfl) (by (conv => {lhs; whnf}); done) ?_; (first | refine dg_TT ?_ | refine dg_FF ?_ | refine dg_TF ?_ | refine dg_FT ?_ | refine dg_PT ?_ ?_ | refine dg_PF ?_ ?_ | refine dg_BT ?_ ?_ | refine dg_BF ?_ ?_ | fail)) | refine d_c1 (by exact rfl) (by exact rfl) ?_ | fail))
    | (refine gateC ?_; (first | refine k_lt ?_ | refine k_ld (by (conv => {lhs; whnf}); done) (by exact rfl) ?_ | refine k_ldT (by (conv => {lhs; whnf}); done) ?_ | refine k_bin (by (conv => {lhs; whnf}); done) (by exact rfl) ?_ | refine k_mn ?_ | refine k_mnB (by exact rfl) ?_ | refine k_mnF ?_ | fail))
    | (refine gateT ?_; (first | refine b_thn ?_ | refine b_thr ?_ | refine b_the ?_ | fail))
    | (refine gateX ?_; (first | refine b_seq ?_ | refine b_region ?_ | (refine b_cond (by (conv => {lhs; whnf}); done) ?_; (first | refine c_T ?_ | refine c_F ?_ | refine c_P ?_ ?_ | refine c_B ?_ ?_ | fail)) | refine b_ret ?_ | refine b_skip ?_ | refine b_block ?_ | refine b_exit ?_ | refine b_draw (id := 7) [] [] [(0, .lt), (1, .lt), (2, .lt), (3, .ld true), (4, .lt), (7, .ld true), (8, .lt), (5, .mn true), (6, .mn true), (9, .mn true), (10, .mn true), (11, .lt), (12, .lt)] (by kernel_rfl) ?_ | (refine b_loop [11, 10, 1, 4, 3, 2] n (fun k => ⟨[(11, .val (.int .i64 (k : Int))), (10, .val (.int .i64 (n : Int))), (1, .loc 1 0), (4, .val (.int .i64 (moI (vecL l off (n : Int) inc) k))), (3, .val (.int .i64 0)), (2, .val (.int .i64 0))], [(1, [D, .int .i64 off, .int .i64 (n : Int), .int .i64 inc])], H ++ []⟩) (by exact rfl) ?_ ?_ <;> (first | (intro k hk K hK; rcases Nat.eq_zero_or_pos k with h0 | h0) | intro K) <;> (try dsimp only at *) <;> (try simp only [Int.natCast_add, Int.natCast_one] at *) <;> (try (first | (subst h0; simp only [moI_zero, moI_one] at *) | (simp only [moI_pos h0, moI_pos (Nat.succ_pos k)] at *)))) | fail))
    | refine a_cons (by (conv => {lhs; whnf}); done) ?_
    | refine a_nil ?_
    | (refine gateK ?_; (first | refine c_call (right_c _ D l (FL.app hF _) off n inc hI) (OldOk.app (by simp)) ?_ | refine c_call (at_c _ D l (FL.app hF _) off _ inc hI hR (k : Int) (by omega) (by omega)) (OldOk.app (by simp)) ?_ | refine c_call (at_c _ D l (FL.app hF _) off _ inc hI hR ((moN _ k : Nat) : Int) (by omega) (by have := hlt k h0; omega)) (OldOk.app (by simp)) ?_ | refine c_call (mabs_c _ _) (OldOk.app (by simp)) ?_ | fail))
    | (refine gateB ?_; (first | refine b_bln ?_ | refine b_blr ?_ | refine b_ble ?_ | refine b_blo (by exact rfl) ?_ | fail))
    | (refine gateL ?_; (first | refine lp_n ?_ | refine lp_r ?_ | refine lp_e ?_ | fail))
    | (refine pr_k (by exact rfl) ?_; first | exact hK | (rw [moN_T h0 (by rw [← hg k hk, ← hg _ (by have := hlt k h0; omega)]; assumption)] at hK; exact hK) | (rw [moN_F h0 (by rw [← hg k hk, ← hg _ (by have := hlt k h0; omega)]; assumption)] at hK; exact hK) | (exfalso; first | omega | (simp_all; done) | (simp_all; omega)))
    | (refine gateQ ?_; refine b_retK (by simp) (by (conv => {lhs; whnf}); done) ?_)
    | (refine gateR ?_; (first | refine rk_tmp (by (conv => {lhs; whnf}); done) ?_ | refine rk_cellA (by (conv => {lhs; whnf}); done) (by exact rfl) (by exact rfl) ?_ | refine rk_cell1 (by (conv => {lhs; whnf}); done) (by exact rfl) (by exact rfl) ?_ | refine rk_nil ?_ | fail))
    | intro _)
  all_goals first
    | (exfalso; contradiction)
    | (refine rv_old rfl (by simp [mx, mxL, aOf, aOf1, resOne]) ?_; rw [moI_pos hn0]; exact rfl)


end Go.Sx

set_option linter.unusedVariables false
set_option linter.unusedSimpArgs false
set_option maxRecDepth 20000
namespace Go.Sx
open Go.Proofs
attribute [local irreducible] Ex exOps exD opX opE thenX blkX RetQ Spec CSpec Fr condK guardK guardD ckK valK pickK loadK faK callK argK gK fK rK RetV lpX prK
theorem tat_m (H : List (List AV)) (A : AV) (g : Nat → Nat → Nat) (r c : Nat) (hA : FL H A (rmA g r c)) (hr : r ≤ 1000) (hc : c ≤ 1000) (i j : Nat) (hi : i < r) (hj : j < c) : CSpec Try.prog 42 [mM A r c, .int .i64 (i : Int), .int .i64 (j : Int)] H (.flt (g i j)) H := by
  have := tat_c H A _ hA r c (by simp) hr hc i j hi hj
  rwa [rmA_get hi hj] at this
theorem tset_m (H H' : List (List AV)) (b : Nat) (g g' : Nat → Nat → Nat) (r c : Nat) (hb : H[b]? = some (fl (rmA g r c))) (hr : r ≤ 1000) (hc : c ≤ 1000) (i j : Nat) (hi : i < r) (hj : j < c) (x : Nat) (hg : ∀ i' j', i' < r → j' < c → updG g i j x i' j' = g' i' j') (hH : H.set b (fl (rmA g' r c)) = H') : CSpec Try.prog 94 [mM (.slm b (r * c) 0 (r * c) 1) r c, .int .i64 (i : Int), .int .i64 (j : Int), .flt x] H (.tup []) H' :=
  tset_c H H' b _ hb r c (by simp) hr hc i j hi hj x (by rw [rmA_set hi hj, rmA_congr hg]; exact hH)
end Go.Sx

set_option linter.unusedVariables false
set_option linter.unusedSimpArgs false
set_option maxRecDepth 20000
namespace Go.Sx
open Go.Proofs
attribute [local irreducible] Ex exOps exD opX opE thenX blkX RetQ Spec CSpec Fr condK guardK guardD ckK valK pickK loadK faK callK argK gK fK rK RetV lpX prK
def pOff (off ld i j r c : Int) : Int := if 0 < r ∧ 0 < c then off + (i + j * ld) else off
set_option maxHeartbeats 4000000 in
theorem part_c (H : List (List AV)) (D : AV) (l : List Nat) (hF : FL H D l) (off rows cols ld : Int) (hI : MI l.length off rows cols ld) (hG : GoodP l.length off rows cols ld) (i j r c : Int) (hi : 0 ≤ i) (hj : 0 ≤ j) (hr : 0 ≤ r) (hc : 0 ≤ c) (hir : i + r ≤ rows) (hjc : j + c ≤ cols) :
    CSpec Try.prog 107 [mt D off rows cols ld, .int .i64 i, .int .i64 j, .int .i64 r, .int .i64 c] H (mt D (pOff off ld i j r c) r c ld) H := by
  obtain ⟨hn, ho1, ho2, hr1, hr2, hc1, hc2, hl1, hl2⟩ := id hI
  have hgd := id hG
  obtain ⟨hg1, hg2, hg3, hg4, hg5, hg6⟩ := hgd
  refine .mk (fun args w => Try.call107 args w) (Spec.intro' (fn := Try.f107) Try.func107 rfl (by kernel_rfl) (by simp) false [] (draw := drawX Try.prog ⟨false, _, []⟩) dOk ?_)
  simp only [argE, Nat.reduceAdd]
  repeat' (first
    | (refine gateE ?_; (first | refine b_c0 ?_ | refine b_nil ?_ | refine b_gT (by exact rfl) (by exact rfl) ?_ | refine b_gF (by exact rfl) (by exact rfl) (by exact rfl) ?_ | refine b_gU (by exact rfl) (by exact rfl) (by constructor <;> simp) (by exact rfl) (by exact rfl) ?_ | (refine b_g0 (by exact rfl) (by exact rfl) (by (conv => {lhs; whnf}); done) ?_; (first | refine g_TT ?_ | refine g_FF ?_ | refine g_TF ?_ | refine g_FT ?_ | refine g_PT ?_ ?_ | refine g_PF ?_ ?_ | refine g_BT ?_ ?_ | refine g_BF ?_ ?_ | fail)) | (refine b_g1 (by exact rfl) (by exact rfl) (by exact rfl) (by (conv => {lhs; whnf}); done) ?_; (first | refine g_TT ?_ | refine g_FF ?_ | refine g_TF ?_ | refine g_FT ?_ | refine g_PT ?_ ?_ | refine g_PF ?_ ?_ | refine g_BT ?_ ?_ | refine g_BF ?_ ?_ | fail)) | refine b_c1 (by exact rfl) ?_ | fail))
    | (refine gateO ?_; (first | refine b_move (by (conv => {lhs; whnf}); done) ?_ | (refine b_fa (by (conv => {lhs; whnf}); done) ?_; first | refine f_loc (by (conv => {lhs; whnf}); done) ?_ | refine f_ptr (by (conv => {lhs; whnf}); done) ?_) | (refine b_load (by (conv => {lhs; whnf}); done) ?_; (first | refine l_loc1 (by exact rfl) (by exact rfl) ?_ | refine l_locA (by exact rfl) (by exact rfl) ?_ | fail)) | (refine b_bin (by (conv => {lhs; whnf}); done) (by (conv => {lhs; whnf}); done) (by (conv => {lhs; whnf}); done) ?_; (first | refine v_w (by first | omega | (have hp := good_place hG (i := i) (j := j) (by omega) (by omega) (by omega) (by omega); have hp2 := good_place hG (i := 0) (j := j) (by omega) (by omega) (by omega) (by omega); omega) | fail) ?_ | refine v_T (by omega) ?_ | refine v_F (by omega) ?_ | refine v_w (by omega) ?_ | refine v_wu (by omega) ?_ | refine v_nT ?_ | refine v_nF ?_ | refine v_nP ?_ | refine v_k ?_ | refine v_c (by omega) ?_ | fail)) | (refine b_pick (by (conv => {lhs; whnf}); done) ?_; (first | refine p_T (by (conv => {lhs; whnf}); done) ?_ | refine p_F (by (conv => {lhs; whnf}); done) ?_ | fail)) | (refine b_un (by (conv => {lhs; whnf}); done) (by (conv => {lhs; whnf}); done) ?_; (first | refine v_w (by first | omega | (have hp := good_place hG (i := i) (j := j) (by omega) (by omega) (by omega) (by omega); have hp2 := good_place hG (i := 0) (j := j) (by omega) (by omega) (by omega) (by omega); omega) | fail) ?_ | refine v_T (by omega) ?_ | refine v_F (by omega) ?_ | refine v_w (by omega) ?_ | refine v_wu (by omega) ?_ | refine v_nT ?_ | refine v_nF ?_ | refine v_nP ?_ | refine v_k ?_ | refine v_c (by omega) ?_ | fail)) | refine b_callB ?_ | refine b_stL (by (conv => {lhs; whnf}); done) (by (conv => {lhs; whnf}); done) (by first | exact (by exact rfl) | exact cells_of_len hF.len | fail) (by exact rfl) (by exact rfl) (by exact Nat.le_of_ble_eq_true rfl) (by (conv => {lhs; simp only [sc, List.set_cons_zero, List.set_cons_succ]}); done) ?_ | refine b_box (by (conv => {lhs; whnf}); done) (by exact rfl) (by exact rfl) (by exact rfl) (by exact rfl) ?_ | refine b_alloc (by exact rfl) (by exact rfl) ?_ | refine b_build ?_ | fail))
    | (refine gateT ?_; (first | refine b_thn ?_ | refine b_thr ?_ | refine b_the ?_ | fail))
    | (refine gateX ?_; (first | refine b_seq ?_ | refine b_region ?_ | (refine b_cond (by (conv => {lhs; whnf}); done) ?_; (first | refine c_T ?_ | refine c_F ?_ | refine c_P ?_ ?_ | refine c_B ?_ ?_ | fail)) | refine b_ret ?_ | refine b_skip ?_ | refine b_block ?_ | refine b_exit ?_ | fail))
    | refine a_cons (by (conv => {lhs; whnf}); done) ?_
    | refine a_nil ?_
    | (refine gateK ?_; (first | refine c_call (good_c _ D l.length off rows cols ld hF.len hI) (OldOk.app (by simp)) ?_ | fail))
    | refine fk_cons (by (conv => {lhs; whnf}); done) (by first | exact (by exact rfl) | exact cells_of_len hF.len | fail) (by exact rfl) (by exact rfl) (by (conv => {lhs; simp only [sc, List.set_cons_zero, List.set_cons_succ]}); done) ?_
    | refine fk_nil ?_
    | (refine gateQ ?_; refine b_retK (by simp) (by (conv => {lhs; whnf}); done) ?_)
    | (refine gateR ?_; (first | refine rk_tmp (by (conv => {lhs; whnf}); done) ?_ | refine rk_cellA (by (conv => {lhs; whnf}); done) (by exact rfl) (by exact rfl) ?_ | refine rk_cell1 (by (conv => {lhs; whnf}); done) (by exact rfl) (by exact rfl) ?_ | refine rk_nil ?_ | fail))
    | intro _)
  all_goals first
    | (exfalso; contradiction)
    | (exfalso; omega)
    | (refine rv_old rfl (by have := hF.mx; simp [mx, mxL, resOne, aOf, aOf1]; omega) ?_; unfold pOff; first | (rw [if_pos (by omega)]; exact rfl) | (rw [if_neg (by omega)]; exact rfl) | fail)

set_option maxHeartbeats 4000000 in
theorem clone_k (H H' : List (List AV)) (D : AV) (l : List Nat) (hF : FL H D l) (off ld : Int) (r c : Nat) (hI : MI l.length off r c ld) (hG : GoodP l.length off r c ld) (hr : r ≤ 64) (hc : c ≤ 64) (m : Nat) (hm : H.length = m) (hH : H ++ [fl (cmA (mel l off ld) r c)] = H') :
    CSpec Try.prog 138 [mt D off r c ld] H (.tup [mt (.slm m (r * c) 0 (r * c) 1) 0 r c ((max r 1 : Nat) : Int), .int .i64 0]) H' := by
  subst hH hm
  obtain ⟨hn, ho1, ho2, hr1, hr2, hc1, hc2, hl1, hl2⟩ := id hI
  refine .mk (fun args w => Try.call138 args w) (Spec.intro' (fn := Try.f138) Try.func138 rfl (by kernel_rfl) (by simp) false [] (draw := drawX Try.prog ⟨false, _, []⟩) dOk ?_)
  simp only [argE, Nat.reduceAdd]
  repeat' (first
    | (refine gateE ?_; (first | refine b_c0 ?_ | refine b_nil ?_ | refine b_gT (by exact rfl) (by exact rfl) ?_ | refine b_gF (by exact rfl) (by exact rfl) (by exact rfl) ?_ | refine b_gU (by exact rfl) (by exact rfl) (by constructor <;> simp) (by exact rfl) (by exact rfl) ?_ | (refine b_g0 (by exact rfl) (by exact rfl) (by (conv => {lhs; whnf}); done) ?_; (first | refine g_TT ?_ | refine g_FF ?_ | refine g_TF ?_ | refine g_FT ?_ | refine g_PT ?_ ?_ | refine g_PF ?_ ?_ | refine g_BT ?_ ?_ | refine g_BF ?_ ?_ | fail)) | (refine b_g1 (by exact rfl) (by exact rfl) (by exact rfl) (by (conv => {lhs; whnf}); done) ?_; (first | refine g_TT ?_ | refine g_FF ?_ | refine g_TF ?_ | refine g_FT ?_ | refine g_PT ?_ ?_ | refine g_PF ?_ ?_ | refine g_BT ?_ ?_ | refine g_BF ?_ ?_ | fail)) | refine b_c1 (by exact rfl) ?_ | fail))
    | (refine gateO ?_; (first | refine b_move (by (conv => {lhs; whnf}); done) ?_ | (refine b_fa (by (conv => {lhs; whnf}); done) ?_; first | refine f_loc (by (conv => {lhs; whnf}); done) ?_ | refine f_ptr (by (conv => {lhs; whnf}); done) ?_) | (refine b_load (by (conv => {lhs; whnf}); done) ?_; (first | refine l_loc1 (by exact rfl) (by exact rfl) ?_ | refine l_locA (by exact rfl) (by exact rfl) ?_ | fail)) | refine b_cpyF (by (conv => {lhs; whnf}); done) (by (conv => {lhs; whnf}); done) (by exact rfl) (by exact rfl) (by simp [denseL_len]) (by exact rfl) (by simp) (by simp) (by exact rfl) (by (conv => {lhs; simp only [List.set_cons_zero, List.set_cons_succ]}); done) ?_ | (refine b_bin (by (conv => {lhs; whnf}); done) (by (conv => {lhs; whnf}); done) (by (conv => {lhs; whnf}); done) ?_; (first | refine v_T (by omega) ?_ | refine v_F (by omega) ?_ | refine v_w (by omega) ?_ | refine v_wu (by omega) ?_ | refine v_nT ?_ | refine v_nF ?_ | refine v_nP ?_ | refine v_k ?_ | refine v_c (by omega) ?_ | fail)) | (refine b_pick (by (conv => {lhs; whnf}); done) ?_; (first | refine p_T (by (conv => {lhs; whnf}); done) ?_ | refine p_F (by (conv => {lhs; whnf}); done) ?_ | fail)) | refine b_assignF (by kernel_rfl) ?_ | refine b_assignI ?_ | refine b_assignN ?_ | refine b_assign (by (conv => {lhs; whnf}); done) ?_ | (refine b_un (by (conv => {lhs; whnf}); done) (by (conv => {lhs; whnf}); done) ?_; (first | refine v_T (by omega) ?_ | refine v_F (by omega) ?_ | refine v_w (by omega) ?_ | refine v_wu (by omega) ?_ | refine v_nT ?_ | refine v_nF ?_ | refine v_nP ?_ | refine v_k ?_ | refine v_c (by omega) ?_ | fail)) | refine b_callB ?_ | refine b_stL (by (conv => {lhs; whnf}); done) (by (conv => {lhs; whnf}); done) (by first | exact (by exact rfl) | exact cells_of_len hF.len | fail) (by exact rfl) (by exact rfl) (by exact Nat.le_of_ble_eq_true rfl) (by (conv => {lhs; simp only [sc, List.set_cons_zero, List.set_cons_succ]}); done) ?_ | refine b_box (by (conv => {lhs; whnf}); done) (by exact rfl) (by exact rfl) (by exact rfl) (by exact rfl) ?_ | refine b_alloc (by exact rfl) (by exact rfl) ?_ | refine b_build ?_ | fail))
    | (refine gateD ?_; (first | refine d_c0 (by exact rfl) ?_ | refine d_nil ?_ | refine d_gT (by exact rfl) (by exact rfl) (by exact rfl) ?_ | refine d_gF (by exact rfl) (by exact rfl) (by exact rfl) (by exact rfl) ?_ | refine d_gU (by exact rfl) (by exact rfl) (by exact rfl) (by constructor <;> simp) (by exact rfl) (by exact rfl) ?_ | (refine d_g0 (by exact rfl) (by exact rfl) (by exact rfl) (by (conv => {lhs; whnf}); done) ?_; (first | refine dg_TT ?_ | refine dg_FF ?_ | refine dg_TF ?_ | refine dg_FT ?_ | refine dg_PT ?_ ?_ | refine dg_PF ?_ ?_ | refine dg_BT ?_ ?_ | refine dg_BF ?_ ?_ | fail)) | (refine d_g1 (by exact rfl) (by exact rfl) (by exact rfl) (by exact rfl) (by (conv => {lhs; whnf}); done) ?_; (first | refine dg_TT ?_ | refine dg_FF ?_ | refine dg_TF ?_ | refine dg_FT ?_ | refine dg_PT ?_ ?_ | refine dg_PF ?_ ?_ | refine dg_BT ?_ ?_ | refine dg_BF ?_ ?_ | fail)) | refine d_c1 (by exact rfl) (by exact rfl) ?_ | fail))
    | (refine gateC ?_; (first | refine k_lt ?_ | refine k_ld (by (conv => {lhs; whnf}); done) (by exact rfl) ?_ | refine k_ldT (by (conv => {lhs; whnf}); done) ?_ | refine k_bin (by (conv => {lhs; whnf}); done) (by exact rfl) ?_ | refine k_mn ?_ | refine k_mnB (by exact rfl) ?_ | refine k_mnF ?_ | refine k_mnL (by exact rfl) ?_ | fail))
    | (refine gateT ?_; (first | refine b_thn ?_ | refine b_thr ?_ | refine b_the ?_ | fail))
    | (refine gateX ?_; (first | refine b_seq ?_ | refine b_region ?_ | (refine b_cond (by (conv => {lhs; whnf}); done) ?_; (first | refine c_T ?_ | refine c_F ?_ | refine c_P ?_ ?_ | refine c_B ?_ ?_ | fail)) | refine b_ret ?_ | refine b_skip ?_ | refine b_block ?_ | refine b_exit ?_ | refine b_draw (id := 6) [] [4] [(0, .lt), (1, .ld true), (2, .ld true), (3, .mn true), (4, .mn false)] (by kernel_rfl) ?_ | fail))
    | refine a_consF (by kernel_rfl) ?_
    | refine a_consI ?_
    | refine a_cons (by (conv => {lhs; whnf}); done) ?_
    | refine a_nil ?_
    | (refine gateK ?_; (first | refine c_call (good_c _ D l.length off _ _ ld hF.len hI) (OldOk.app (by simp)) ?_ | refine c_call (dense_k _ _ r c hr hc .slnil [] (FL.nil _) (by simp) _ (by (conv => {lhs; simp only [List.length_append, List.length_cons, List.length_nil, List.length_set, Nat.reduceAdd, Nat.zero_add]}); done) (by (conv => {lhs; simp only [List.append_assoc, List.cons_append, List.nil_append]}); done)) (OldOk.app (by simp)) ?_ | refine c_call (numbers_c _ D l (FL.app hF _) off r c ld hI hG (by omega) (by omega)) (OldOk.app (by simp)) ?_ | fail))
    | refine fk_cons (by (conv => {lhs; whnf}); done) (by first | exact (by exact rfl) | exact cells_of_len hF.len | fail) (by exact rfl) (by exact rfl) (by (conv => {lhs; simp only [sc, List.set_cons_zero, List.set_cons_succ]}); done) ?_
    | refine fk_nil ?_
    | (refine gateB ?_; (first | refine b_bln ?_ | refine b_blr ?_ | refine b_ble ?_ | refine b_blo (by exact rfl) ?_ | fail))
    | (refine gateQ ?_; refine b_retK (by simp) (by (conv => {lhs; whnf}); done) ?_)
    | (refine gateR ?_; (first | refine rk_tmp (by (conv => {lhs; whnf}); done) ?_ | refine rk_cellA (by (conv => {lhs; whnf}); done) (by exact rfl) (by exact rfl) ?_ | refine rk_cell1 (by (conv => {lhs; whnf}); done) (by exact rfl) (by exact rfl) ?_ | refine rk_nil ?_ | fail))
    | intro _)
  all_goals first
    | (exfalso; contradiction)
    | (exfalso; omega)
    | exact rv_kp (j := 0) (cs := fl (cmA (mel l off ld) r c)) rfl rfl (by rw [mxL_fl]; exact Nat.zero_le _) (Fr.tup (Frs.cons (Fr.agg (Frs.cons (Fr.kp (j := 0) (cs := fl (cmA (mel l off ld) r c)) rfl (hg_new rfl rfl) (by simp)) (Frs.old (by simp [mxL, mx])))) (Frs.cons (Fr.old (by simp [mx])) Frs.nil)))

set_option maxHeartbeats 4000000 in
theorem square_b (H : List (List AV)) (D : AV) (l : List Nat) (hF : FL H D l) (off rows cols ld : Int) (hI : MI l.length off rows cols ld) (hG : ¬ GoodP l.length off rows cols ld) :
    CSpec Try.prog 102 [mt D off rows cols ld] H (.tup [mt .slnil 0 0 0 0, .int .i64 1]) H := by
  obtain ⟨hn, ho1, ho2, hr1, hr2, hc1, hc2, hl1, hl2⟩ := id hI
  refine .mk (fun args w => Try.call102 args w) (Spec.intro' (fn := Try.f102) Try.func102 rfl (by kernel_rfl) (by simp) false [] (draw := drawX Try.prog ⟨false, _, []⟩) dOk ?_)
  simp only [argE, Nat.reduceAdd]
  repeat' (first
    | (refine gateE ?_; (first | refine b_c0 ?_ | refine b_nil ?_ | fail))
    | (refine gateO ?_; (first | (refine b_fa (by (conv => {lhs; whnf}); done) ?_; first | refine f_loc (by (conv => {lhs; whnf}); done) ?_ | refine f_ptr (by (conv => {lhs; whnf}); done) ?_) | (refine b_load (by (conv => {lhs; whnf}); done) ?_; (first | refine l_loc1 (by exact rfl) (by exact rfl) ?_ | refine l_locA (by exact rfl) (by exact rfl) ?_ | fail)) | (refine b_bin (by (conv => {lhs; whnf}); done) (by (conv => {lhs; whnf}); done) (by (conv => {lhs; whnf}); done) ?_; (first | refine v_neT (by omega) ?_ | refine v_neF (by omega) ?_ | refine v_neP ?_ | refine v_w (by omega) ?_ | refine v_wu (by omega) ?_ | refine v_nT ?_ | refine v_nF ?_ | refine v_nP ?_ | refine v_k ?_ | refine v_c (by omega) ?_ | fail)) | refine b_assignF (by kernel_rfl) ?_ | refine b_assignI ?_ | refine b_assignN ?_ | refine b_assign (by (conv => {lhs; whnf}); done) ?_ | (refine b_un (by (conv => {lhs; whnf}); done) (by (conv => {lhs; whnf}); done) ?_; (first | refine v_neT (by omega) ?_ | refine v_neF (by omega) ?_ | refine v_neP ?_ | refine v_w (by omega) ?_ | refine v_wu (by omega) ?_ | refine v_nT ?_ | refine v_nF ?_ | refine v_nP ?_ | refine v_k ?_ | refine v_c (by omega) ?_ | fail)) | refine b_callB ?_ | refine b_ext (by (conv => {lhs; whnf}); done) (by exact rfl) ?_ | refine b_stL (by (conv => {lhs; whnf}); done) (by (conv => {lhs; whnf}); done) (by first | exact (by exact rfl) | exact cells_of_len hF.len | fail) (by exact rfl) (by exact rfl) (by exact Nat.le_of_ble_eq_true rfl) (by (conv => {lhs; simp only [sc, List.set_cons_zero, List.set_cons_succ]}); done) ?_ | refine b_box (by (conv => {lhs; whnf}); done) (by exact rfl) (by exact rfl) (by exact rfl) (by exact rfl) ?_ | refine b_alloc (by exact rfl) (by exact rfl) ?_ | refine b_build ?_ | fail))
    | (refine gateT ?_; (first | refine b_thn ?_ | refine b_thr ?_ | refine b_the ?_ | fail))
    | (refine gateX ?_; (first | refine b_seq ?_ | refine b_region ?_ | (refine b_cond (by (conv => {lhs; whnf}); done) ?_; (first | refine c_T ?_ | refine c_F ?_ | refine c_P ?_ ?_ | refine c_B ?_ ?_ | fail)) | refine b_ret ?_ | refine b_skip ?_ | refine b_block ?_ | refine b_exit ?_ | fail))
    | refine a_cons (by (conv => {lhs; whnf}); done) ?_
    | refine a_nil ?_
    | (refine gateK ?_; (first | refine c_call (good_c _ D l.length off rows cols ld hF.len hI) (OldOk.app (by simp)) ?_ | fail))
    | refine fk_cons (by (conv => {lhs; whnf}); done) (by first | exact (by exact rfl) | exact cells_of_len hF.len | fail) (by exact rfl) (by exact rfl) (by (conv => {lhs; simp only [sc, List.set_cons_zero, List.set_cons_succ]}); done) ?_
    | refine fk_nil ?_
    | (refine gateB ?_; (first | refine b_bln ?_ | refine b_blr ?_ | refine b_ble ?_ | refine b_blo (by exact rfl) ?_ | fail))
    | (refine gateQ ?_; refine b_retK (by simp) (by (conv => {lhs; whnf}); done) ?_)
    | (refine gateR ?_; (first | refine rk_tmp (by (conv => {lhs; whnf}); done) ?_ | refine rk_cellA (by (conv => {lhs; whnf}); done) (by exact rfl) (by exact rfl) ?_ | refine rk_cell1 (by (conv => {lhs; whnf}); done) (by exact rfl) (by exact rfl) ?_ | refine rk_nil ?_ | fail))
    | intro _)
  all_goals first
    | (exfalso; contradiction)
    | (exfalso; omega)
    | (refine rv_old rfl (by simp [mx, mxL, resOne, aOf, aOf1]) ?_; exact rfl)

set_option maxHeartbeats 4000000 in
theorem square_n (H : List (List AV)) (D : AV) (l : List Nat) (hF : FL H D l) (off rows cols ld : Int) (hI : MI l.length off rows cols ld) (hG : GoodP l.length off rows cols ld) (hne : rows ≠ cols) :
    CSpec Try.prog 102 [mt D off rows cols ld] H (.tup [mt .slnil 0 0 0 0, .int .i64 3]) H := by
  obtain ⟨hn, ho1, ho2, hr1, hr2, hc1, hc2, hl1, hl2⟩ := id hI
  refine .mk (fun args w => Try.call102 args w) (Spec.intro' (fn := Try.f102) Try.func102 rfl (by kernel_rfl) (by simp) false [] (draw := drawX Try.prog ⟨false, _, []⟩) dOk ?_)
  simp only [argE, Nat.reduceAdd]
  repeat' (first
    | (refine gateE ?_; (first | refine b_c0 ?_ | refine b_nil ?_ | fail))
    | (refine gateO ?_; (first | (refine b_fa (by (conv => {lhs; whnf}); done) ?_; first | refine f_loc (by (conv => {lhs; whnf}); done) ?_ | refine f_ptr (by (conv => {lhs; whnf}); done) ?_) | (refine b_load (by (conv => {lhs; whnf}); done) ?_; (first | refine l_loc1 (by exact rfl) (by exact rfl) ?_ | refine l_locA (by exact rfl) (by exact rfl) ?_ | fail)) | (refine b_bin (by (conv => {lhs; whnf}); done) (by (conv => {lhs; whnf}); done) (by (conv => {lhs; whnf}); done) ?_; (first | refine v_neT (by omega) ?_ | refine v_neF (by omega) ?_ | refine v_neP ?_ | refine v_w (by omega) ?_ | refine v_wu (by omega) ?_ | refine v_nT ?_ | refine v_nF ?_ | refine v_nP ?_ | refine v_k ?_ | refine v_c (by omega) ?_ | fail)) | refine b_assignF (by kernel_rfl) ?_ | refine b_assignI ?_ | refine b_assignN ?_ | refine b_assign (by (conv => {lhs; whnf}); done) ?_ | (refine b_un (by (conv => {lhs; whnf}); done) (by (conv => {lhs; whnf}); done) ?_; (first | refine v_neT (by omega) ?_ | refine v_neF (by omega) ?_ | refine v_neP ?_ | refine v_w (by omega) ?_ | refine v_wu (by omega) ?_ | refine v_nT ?_ | refine v_nF ?_ | refine v_nP ?_ | refine v_k ?_ | refine v_c (by omega) ?_ | fail)) | refine b_callB ?_ | refine b_ext (by (conv => {lhs; whnf}); done) (by exact rfl) ?_ | refine b_stL (by (conv => {lhs; whnf}); done) (by (conv => {lhs; whnf}); done) (by first | exact (by exact rfl) | exact cells_of_len hF.len | fail) (by exact rfl) (by exact rfl) (by exact Nat.le_of_ble_eq_true rfl) (by (conv => {lhs; simp only [sc, List.set_cons_zero, List.set_cons_succ]}); done) ?_ | refine b_box (by (conv => {lhs; whnf}); done) (by exact rfl) (by exact rfl) (by exact rfl) (by exact rfl) ?_ | refine b_alloc (by exact rfl) (by exact rfl) ?_ | refine b_build ?_ | fail))
    | (refine gateT ?_; (first | refine b_thn ?_ | refine b_thr ?_ | refine b_the ?_ | fail))
    | (refine gateX ?_; (first | refine b_seq ?_ | refine b_region ?_ | (refine b_cond (by (conv => {lhs; whnf}); done) ?_; (first | refine c_T ?_ | refine c_F ?_ | refine c_P ?_ ?_ | refine c_B ?_ ?_ | fail)) | refine b_ret ?_ | refine b_skip ?_ | refine b_block ?_ | refine b_exit ?_ | fail))
    | refine a_cons (by (conv => {lhs; whnf}); done) ?_
    | refine a_nil ?_
    | (refine gateK ?_; (first | refine c_call (good_c _ D l.length off rows cols ld hF.len hI) (OldOk.app (by simp)) ?_ | fail))
    | refine fk_cons (by (conv => {lhs; whnf}); done) (by first | exact (by exact rfl) | exact cells_of_len hF.len | fail) (by exact rfl) (by exact rfl) (by (conv => {lhs; simp only [sc, List.set_cons_zero, List.set_cons_succ]}); done) ?_
    | refine fk_nil ?_
    | (refine gateB ?_; (first | refine b_bln ?_ | refine b_blr ?_ | refine b_ble ?_ | refine b_blo (by exact rfl) ?_ | fail))
    | (refine gateQ ?_; refine b_retK (by simp) (by (conv => {lhs; whnf}); done) ?_)
    | (refine gateR ?_; (first | refine rk_tmp (by (conv => {lhs; whnf}); done) ?_ | refine rk_cellA (by (conv => {lhs; whnf}); done) (by exact rfl) (by exact rfl) ?_ | refine rk_cell1 (by (conv => {lhs; whnf}); done) (by exact rfl) (by exact rfl) ?_ | refine rk_nil ?_ | fail))
    | intro _)
  all_goals first
    | (exfalso; contradiction)
    | (exfalso; omega)
    | (refine rv_old rfl (by simp [mx, mxL, resOne, aOf, aOf1]) ?_; exact rfl)

set_option maxHeartbeats 4000000 in
theorem square_k (H H' : List (List AV)) (D : AV) (l : List Nat) (hF : FL H D l) (off ld : Int) (n : Nat) (hI : MI l.length off n n ld) (hG : GoodP l.length off n n ld) (hn6 : n ≤ 64) (m : Nat) (hm : H.length = m) (hH : H ++ [fl (cmA (mel l off ld) n n)] = H') :
    CSpec Try.prog 102 [mt D off n n ld] H (.tup [mt (.slm m (n * n) 0 (n * n) 1) 0 n n ((max n 1 : Nat) : Int), .int .i64 0]) H' := by
  subst hH hm
  obtain ⟨hn, ho1, ho2, hr1, hr2, hc1, hc2, hl1, hl2⟩ := id hI
  refine .mk (fun args w => Try.call102 args w) (Spec.intro' (fn := Try.f102) Try.func102 rfl (by kernel_rfl) (by simp) false [] (draw := drawX Try.prog ⟨false, _, []⟩) dOk ?_)
  simp only [argE, Nat.reduceAdd]
  repeat' (first
    | (refine gateE ?_; (first | refine b_c0 ?_ | refine b_nil ?_ | fail))
    | (refine gateO ?_; (first | (refine b_fa (by (conv => {lhs; whnf}); done) ?_; first | refine f_loc (by (conv => {lhs; whnf}); done) ?_ | refine f_ptr (by (conv => {lhs; whnf}); done) ?_) | (refine b_load (by (conv => {lhs; whnf}); done) ?_; (first | refine l_loc1 (by exact rfl) (by exact rfl) ?_ | refine l_locA (by exact rfl) (by exact rfl) ?_ | fail)) | (refine b_bin (by (conv => {lhs; whnf}); done) (by (conv => {lhs; whnf}); done) (by (conv => {lhs; whnf}); done) ?_; (first | refine v_neT (by omega) ?_ | refine v_neF (by omega) ?_ | refine v_neP ?_ | refine v_w (by omega) ?_ | refine v_wu (by omega) ?_ | refine v_nT ?_ | refine v_nF ?_ | refine v_nP ?_ | refine v_k ?_ | refine v_c (by omega) ?_ | fail)) | refine b_assignF (by kernel_rfl) ?_ | refine b_assignI ?_ | refine b_assignN ?_ | refine b_assign (by (conv => {lhs; whnf}); done) ?_ | (refine b_un (by (conv => {lhs; whnf}); done) (by (conv => {lhs; whnf}); done) ?_; (first | refine v_neT (by omega) ?_ | refine v_neF (by omega) ?_ | refine v_neP ?_ | refine v_w (by omega) ?_ | refine v_wu (by omega) ?_ | refine v_nT ?_ | refine v_nF ?_ | refine v_nP ?_ | refine v_k ?_ | refine v_c (by omega) ?_ | fail)) | refine b_callB ?_ | refine b_ext (by (conv => {lhs; whnf}); done) (by exact rfl) ?_ | refine b_stL (by (conv => {lhs; whnf}); done) (by (conv => {lhs; whnf}); done) (by first | exact (by exact rfl) | exact cells_of_len hF.len | fail) (by exact rfl) (by exact rfl) (by exact Nat.le_of_ble_eq_true rfl) (by (conv => {lhs; simp only [sc, List.set_cons_zero, List.set_cons_succ]}); done) ?_ | refine b_box (by (conv => {lhs; whnf}); done) (by exact rfl) (by exact rfl) (by exact rfl) (by exact rfl) ?_ | refine b_alloc (by exact rfl) (by exact rfl) ?_ | refine b_build ?_ | fail))
    | (refine gateT ?_; (first | refine b_thn ?_ | refine b_thr ?_ | refine b_the ?_ | fail))
    | (refine gateX ?_; (first | refine b_seq ?_ | refine b_region ?_ | (refine b_cond (by (conv => {lhs; whnf}); done) ?_; (first | refine c_T ?_ | refine c_F ?_ | refine c_P ?_ ?_ | refine c_B ?_ ?_ | fail)) | refine b_ret ?_ | refine b_skip ?_ | refine b_block ?_ | refine b_exit ?_ | fail))
    | refine a_cons (by (conv => {lhs; whnf}); done) ?_
    | refine a_nil ?_
    | (refine gateK ?_; (first | refine c_call (good_c _ D l.length off _ _ ld hF.len hI) (OldOk.app (by simp)) ?_ | refine c_call (clone_k _ _ D l (FL.app hF _) off ld n n hI hG hn6 hn6 _ (by (conv => {lhs; simp only [List.length_append, List.length_cons, List.length_nil, List.length_set, Nat.reduceAdd, Nat.zero_add]}); done) (by (conv => {lhs; simp only [List.append_assoc, List.cons_append, List.nil_append]}); done)) (OldOk.app (by simp)) ?_ | fail))
    | refine fk_cons (by (conv => {lhs; whnf}); done) (by first | exact (by exact rfl) | exact cells_of_len hF.len | fail) (by exact rfl) (by exact rfl) (by (conv => {lhs; simp only [sc, List.set_cons_zero, List.set_cons_succ]}); done) ?_
    | refine fk_nil ?_
    | (refine gateB ?_; (first | refine b_bln ?_ | refine b_blr ?_ | refine b_ble ?_ | refine b_blo (by exact rfl) ?_ | fail))
    | (refine gateQ ?_; refine b_retK (by simp) (by (conv => {lhs; whnf}); done) ?_)
    | (refine gateR ?_; (first | refine rk_tmp (by (conv => {lhs; whnf}); done) ?_ | refine rk_cellA (by (conv => {lhs; whnf}); done) (by exact rfl) (by exact rfl) ?_ | refine rk_cell1 (by (conv => {lhs; whnf}); done) (by exact rfl) (by exact rfl) ?_ | refine rk_nil ?_ | fail))
    | intro _)
  all_goals first
    | (exfalso; contradiction)
    | (exfalso; omega)
    | exact rv_kp (j := 0) (cs := fl (cmA (mel l off ld) n n)) rfl rfl (by rw [mxL_fl]; exact Nat.zero_le _) (Fr.tup (Frs.cons (Fr.agg (Frs.cons (Fr.kp (j := 0) (cs := fl (cmA (mel l off ld) n n)) rfl (hg_new rfl rfl) (by simp)) (Frs.old (by simp [mxL, mx])))) (Frs.cons (Fr.old (by simp [mx])) Frs.nil)))


end Go.Sx

set_option linter.unusedVariables false
set_option linter.unusedSimpArgs false
set_option maxRecDepth 20000
namespace Go.Sx
open Go.Proofs
attribute [local irreducible] Ex exOps exD opX opE thenX blkX RetQ Spec CSpec Fr condK guardK guardD ckK valK pickK loadK faK callK argK gK fK rK RetV lpX prK
set_option maxHeartbeats 4000000 in
theorem pivot_c (H H' : List (List AV)) (b : Nat) (l : List Nat) (hb : H[b]? = some (fl l)) (off ld : Int) (r c : Nat) (hI : MI l.length off r c ld) (hG : GoodP l.length off r c ld) (k : Nat) (hk : k < r) (hkc : k < c) (hH : H.set b (fl (setM l off ld r c (swK (mel l off ld) k r))) = H') :
    CSpec Try.prog 103 [mt (.slm b l.length 0 l.length 1) off r c ld, .int .i64 (k : Int)] H (.tup [.int .i64 (pvK (mel l off ld) k r : Int), .bool (!(feq (swK (mel l off ld) k r k k) 0))]) H' := by
  subst hH
  obtain ⟨hn, ho1, ho2, hr1, hr2, hc1, hc2, hl1, hl2⟩ := id hI
  have hbl : b < H.length := (List.getElem?_eq_some_iff.1 hb).1
  have hgd := id hG
  obtain ⟨hg1, hg2, hg3, hg4, hg5, hg6⟩ := hgd
  have hvat : ∀ (i j : Nat) (g : Nat → Nat → Nat) (N : List (List AV)), i < r → j < c → CSpec Try.prog 105 [mt (.slm b l.length 0 l.length 1) off r c ld, .int .i64 (i : Int), .int .i64 (j : Int)] (H.set b (fl (setM l off ld r c g)) ++ N) (.flt (g i j)) (H.set b (fl (setM l off ld r c g)) ++ N) := fun i j g N h1 h2 => (by (have := vat_c (H.set b (fl (setM l off ld r c g)) ++ N) (.slm b l.length 0 l.length 1) _ (FL.set hbl (by simp) (by simp)) off r c ld (by simpa using hI) (by simpa using hG) i j (by omega) (by omega) (by omega) (by omega)); simp only [Int.toNat_natCast] at this; rwa [mel_setM hG h1 h2] at this)
  have hco := cOff_le hG (j := (k : Int)) (by omega) (by omega) hn
  have hco2 := (colk_right hG hkc (Nat.le_of_lt hk)).2.2.1
  have hco3 : cOff off (r : Int) ld (k : Int) + (k : Int) ≤ 9223372036854775807 := by (have h1 := col_pos hG (i := k) (t := k) hk hkc; have h2 := pos_lt hG (i := k) (j := k) hk hkc; omega)
  have hco4 := (col_right hG (j := (k : Int)) (by omega) (by omega)).2.2.1
  have hvr := colk_right hG hkc (Nat.le_of_lt hk)
  have hvi := right_VI hvr hn (by omega) (by omega) hco3
  have hmost : ∀ N, CSpec Try.prog 139 [vt (.slm b l.length 0 l.length 1) (cOff off (r : Int) ld (k : Int) + (k : Int)) ((r - k : Nat) : Int) 1] (H ++ N) (.tup [.int .i64 ((moN (colK (mel l off ld) k r) (r - k)) : Int), .int .i64 0]) (H ++ N) := fun N => (by (have := most_c (H ++ N) (.slm b l.length 0 l.length 1) l ((FL.old hb rfl rfl).app N) _ 1 (r - k) hvi hvr (by omega)); rwa [colk_vec hG hkc (Nat.le_of_lt hk)] at this)
  have hmo : (moN (colK (mel l off ld) k r) (r - k)) < r - k := moN_lt _ _ (by omega)
  refine .mk (fun args w => Try.call103 args w) (Spec.intro' (fn := Try.f103) Try.func103 rfl (by kernel_rfl) (by simp) false [] (draw := drawX Try.prog ⟨false, _, []⟩) dOk ?_)
  simp only [argE, Nat.reduceAdd]
  repeat' (first
    | (refine gateE ?_; (first | refine b_c0 ?_ | refine b_nil ?_ | fail))
    | (refine gateO ?_; (first | refine b_move (by (conv => {lhs; whnf}); done) ?_ | (refine b_fa (by (conv => {lhs; whnf}); done) ?_; first | refine f_loc (by (conv => {lhs; whnf}); done) ?_ | refine f_ptr (by (conv => {lhs; whnf}); done) ?_) | (refine b_load (by (conv => {lhs; whnf}); done) ?_; (first | refine l_loc1 (by exact rfl) (by exact rfl) ?_ | refine l_locA (by exact rfl) (by exact rfl) ?_ | fail)) | (refine b_bin (by (conv => {lhs; whnf}); done) (by (conv => {lhs; whnf}); done) (by (conv => {lhs; whnf}); done) ?_; (first | refine v_subN (by omega) (by omega) ?_ | refine v_to (pvK (mel l off ld) k r : Int) (by have := @pvK_lt (mel l off ld) k r hk; unfold pvK at this; omega) (by unfold pvK; omega) ?_ | refine v_neT (by omega) ?_ | refine v_neF (by omega) ?_ | refine v_neP ?_ | refine v_w (by omega) ?_ | refine v_wu (by omega) ?_ | refine v_k ?_ | refine v_c (by omega) ?_ | fail)) | refine b_assignF (by kernel_rfl) ?_ | refine b_assignI ?_ | refine b_assignN ?_ | refine b_assign (by (conv => {lhs; whnf}); done) ?_ | refine b_callB ?_ | refine b_ext (by (conv => {lhs; whnf}); done) (by exact rfl) ?_ | refine b_stL (by (conv => {lhs; whnf}); done) (by (conv => {lhs; whnf}); done) (by first | exact (by exact rfl) | exact cells_of_len hF.len | fail) (by exact rfl) (by exact rfl) (by exact Nat.le_of_ble_eq_true rfl) (by (conv => {lhs; simp only [sc, List.set_cons_zero, List.set_cons_succ]}); done) ?_ | refine b_box (by (conv => {lhs; whnf}); done) (by exact rfl) (by exact rfl) (by exact rfl) (by exact rfl) ?_ | refine b_alloc (by exact rfl) (by exact rfl) ?_ | fail))
    | (refine gateT ?_; (first | refine b_thn ?_ | refine b_thr ?_ | refine b_the ?_ | fail))
    | (refine gateX ?_; (first | refine b_seq ?_ | refine b_region ?_ | (refine b_cond (by (conv => {lhs; whnf}); done) ?_; (first | refine c_T ?_ | refine c_F ?_ | refine c_P ?_ ?_ | refine c_B ?_ ?_ | fail)) | refine b_ret ?_ | refine b_skip ?_ | refine b_block ?_ | refine b_exit ?_ | fail))
    | refine a_cons (by (conv => {lhs; whnf}); done) ?_
    | refine a_nil ?_
    | (refine gateK ?_; (first | refine c_call (col_c _ (.slm b l.length 0 l.length 1) l ((FL.old hb (by exact rfl) rfl).app _) off _ _ ld hI hG (k : Int) (by omega) (by omega)) (OldOk.app (by simp)) ?_ | refine c_call (hmost _) (OldOk.app (by simp)) ?_ | refine c_call (rows_c _ _ b l (hg_old hb) off ld r c hI hG k (pvK (mel l off ld) k r) hk (pvK_lt hk) (hs_old hbl)) (OldOk.set (by simp) (by rw [mxL_fl]; exact Nat.zero_le _)) ?_ | refine c_call (hvat k k _ _ hk hkc) (OldOk.app (by simp)) ?_ | fail))
    | (refine gateQ ?_; refine b_retK (by simp) (by (conv => {lhs; whnf}); done) ?_)
    | (refine gateR ?_; (first | refine rk_tmp (by (conv => {lhs; whnf}); done) ?_ | refine rk_cellA (by (conv => {lhs; whnf}); done) (by exact rfl) (by exact rfl) ?_ | refine rk_cell1 (by (conv => {lhs; whnf}); done) (by exact rfl) (by exact rfl) ?_ | refine rk_nil ?_ | fail))
    | intro _)
  all_goals first
    | (refine rv_old (by simp) (by simp [mx, mxL, aOf, aOf1, resOne]) ?_; exact rfl)

set_option maxHeartbeats 4000000 in
theorem column_c (H H' : List (List AV)) (b : Nat) (l : List Nat) (hb : H[b]? = some (fl l)) (off ld : Int) (r c : Nat) (hI : MI l.length off r c ld) (hG : GoodP l.length off r c ld) (k : Nat) (hk : k < r) (hkc : k < c) (hH : H.set b (fl (setM l off ld r c (divG (mel l off ld) k))) = H') :
    CSpec Try.prog 104 [mt (.slm b l.length 0 l.length 1) off r c ld, .int .i64 (k : Int)] H (vt (.slm b l.length 0 l.length 1) (cOff off (r : Int) ld (k : Int) + ((k + 1 : Nat) : Int)) ((r - (k + 1) : Nat) : Int) 1) H' := by
  subst hH
  obtain ⟨hn, ho1, ho2, hr1, hr2, hc1, hc2, hl1, hl2⟩ := id hI
  have hbl : b < H.length := (List.getElem?_eq_some_iff.1 hb).1
  have hgd := id hG
  obtain ⟨hg1, hg2, hg3, hg4, hg5, hg6⟩ := hgd
  have hvat : ∀ (i j : Nat) (g : Nat → Nat → Nat) (N : List (List AV)), i < r → j < c → CSpec Try.prog 105 [mt (.slm b l.length 0 l.length 1) off r c ld, .int .i64 (i : Int), .int .i64 (j : Int)] (H.set b (fl (setM l off ld r c g)) ++ N) (.flt (g i j)) (H.set b (fl (setM l off ld r c g)) ++ N) := fun i j g N h1 h2 => (by (have := vat_c (H.set b (fl (setM l off ld r c g)) ++ N) (.slm b l.length 0 l.length 1) _ (FL.set hbl (by simp) (by simp)) off r c ld (by simpa using hI) (by simpa using hG) i j (by omega) (by omega) (by omega) (by omega)); simp only [Int.toNat_natCast] at this; rwa [mel_setM hG h1 h2] at this)
  have hco := cOff_le hG (j := (k : Int)) (by omega) (by omega) hn
  have hco2 := (colk_right hG hkc (Nat.le_of_lt hk)).2.2.1
  have hco3 : cOff off (r : Int) ld (k : Int) + (k : Int) ≤ 9223372036854775807 := by (have h1 := col_pos hG (i := k) (t := k) hk hkc; have h2 := pos_lt hG (i := k) (j := k) hk hkc; omega)
  have hco4 := (col_right hG (j := (k : Int)) (by omega) (by omega)).2.2.1
  have hco5 : cOff off (r : Int) ld (k : Int) + ((k + 1 : Nat) : Int) ≤ 9223372036854775807 := by (have h1 := col_pos hG (i := k) (t := k) hk hkc; have h2 := pos_lt hG (i := k) (j := k) hk hkc; omega)
  have hS0 : H.set b (fl (setM l off ld r c (dvS (mel l off ld) k 0))) = H := by (rw [setM_congr (g' := (mel l off ld)) (by omega) (by omega) (fun i' j _ _ => dvS_zero i' j), setM_mel (by omega) (by omega)]; exact set_self hb)
  have hS9 : setM l off ld r c (divG (mel l off ld) k) = setM l off ld r c (dvS (mel l off ld) k (r - (k + 1))) := setM_congr (by omega) (by omega) (fun i' j hi _ => (dvS_all hk i' j hi).symm)
  rw [hS9]
  refine .mk (fun args w => Try.call104 args w) (Spec.intro' (fn := Try.f104) Try.func104 rfl (by kernel_rfl) (by simp) false [] (draw := drawX Try.prog ⟨false, _, []⟩) dOk ?_)
  simp only [argE, Nat.reduceAdd]
  repeat' (first
    | (refine gateE ?_; (first | refine b_c0 ?_ | refine b_nil ?_ | fail))
    | (refine gateO ?_; (first | refine b_moveF (by kernel_rfl) ?_ | refine b_moveI ?_ | refine b_move (by (conv => {lhs; whnf}); done) ?_ | (refine b_fa (by (conv => {lhs; whnf}); done) ?_; first | refine f_loc (by (conv => {lhs; whnf}); done) ?_ | refine f_ptr (by (conv => {lhs; whnf}); done) ?_) | (refine b_load (by (conv => {lhs; whnf}); done) ?_; (first | refine l_loc1 (by exact rfl) (by exact rfl) ?_ | refine l_locA (by exact rfl) (by exact rfl) ?_ | refine l_bF hbl (by simp) (by simp; exact pos_lt hG (by omega) hkc) ?_ | fail)) | refine b_iaM (m := pos off ld (k + 1 + t) k) (by (conv => {lhs; whnf}); done) (by (conv => {lhs; whnf}); done) (by exact rfl) (by exact rfl) (by exact pos_lt hG (by omega) hkc) ?_ | refine b_stB (X' := setM l off ld r c (dvS (mel l off ld) k (t + 1))) (by (conv => {lhs; whnf}); done) (by (conv => {lhs; whnf}); done) hbl (by simp) (by simp; exact pos_lt hG (by omega) hkc) (by rw [Nat.zero_add, ← mel_pos, mel_setM hG (by omega) hkc, set_setM hG (by omega) hkc]; exact setM_congr (by omega) (by omega) (fun i' j _ _ => by rw [← dvS_step])) ?_ | (refine b_bin (by (conv => {lhs; whnf}); done) (by (conv => {lhs; whnf}); done) (by (conv => {lhs; whnf}); done) ?_; (first | refine v_to ((k + 1 : Nat) : Int) (by omega) (by omega) ?_ | refine v_subN (by omega) (by omega) ?_ | refine v_to ((pos off ld (k + 1 + t) k : Nat) : Int) (by have h1 := col_pos hG (i := k + 1 + t) (t := k) (by omega) hkc; have h2 := pos_lt hG (i := k + 1 + t) (j := k) (by omega) hkc; omega) (by first | (have h1 := col_pos hG (i := k + 1 + t) (t := k) (by omega) hkc; omega) | fail) ?_ | refine v_w (by omega) ?_ | refine v_T (by omega) ?_ | refine v_F (by omega) ?_ | refine v_w (by omega) ?_ | refine v_wu (by omega) ?_ | refine v_qc (by omega) (by omega) ?_ | refine v_k ?_ | refine v_c (by omega) ?_ | fail)) | refine b_assign (by (conv => {lhs; whnf}); done) ?_ | refine b_callB ?_ | refine b_stL (by (conv => {lhs; whnf}); done) (by (conv => {lhs; whnf}); done) (by first | exact (by exact rfl) | exact cells_of_len hF.len | fail) (by exact rfl) (by exact rfl) (by exact Nat.le_of_ble_eq_true rfl) (by (conv => {lhs; simp only [sc, List.set_cons_zero, List.set_cons_succ]}); done) ?_ | refine b_box (by (conv => {lhs; whnf}); done) (by exact rfl) (by exact rfl) (by exact rfl) (by exact rfl) ?_ | refine b_alloc (by exact rfl) (by exact rfl) ?_ | fail))
    | (refine gateT ?_; (first | refine b_thn ?_ | refine b_thr ?_ | refine b_the ?_ | fail))
    | (refine gateX ?_; (first | refine b_seq ?_ | refine b_region ?_ | (refine b_cond (by (conv => {lhs; whnf}); done) ?_; (first | refine c_T ?_ | refine c_F ?_ | refine c_P ?_ ?_ | refine c_B ?_ ?_ | fail)) | refine b_ret ?_ | refine b_skip ?_ | refine b_block ?_ | refine b_exit ?_ | (refine b_loop [29, 28, 6, 5, 4] (r - (k + 1)) (fun t => ⟨[(29, .val (.int .i64 (t : Int))), (28, .val (.int .i64 ((r - (k + 1) : Nat) : Int))), (6, .loc 6 0), (5, .val (.flt ((mel l off ld) k k))), (4, .loc 4 0)], [(6, [(.slm b l.length 0 l.length 1), .int .i64 (cOff off (r : Int) ld (k : Int) + ((k + 1 : Nat) : Int)), .int .i64 ((r - (k + 1) : Nat) : Int), .int .i64 1]), (4, [.slnil, .int .i64 0, .int .i64 0, .int .i64 0])], H.set b (fl (setM l off ld r c (dvS (mel l off ld) k t))) ++ []⟩) (by simp only [hS0]; exact rfl) ?_ ?_ <;> (first | intro t ht K hK | intro K) <;> (try dsimp only at *) <;> (try simp only [Int.natCast_add, Int.natCast_one] at *)) | fail))
    | refine a_cons (by (conv => {lhs; whnf}); done) ?_
    | refine a_nil ?_
    | (refine gateK ?_; (first | refine c_call (col_c _ (.slm b l.length 0 l.length 1) l ((FL.old hb (by exact rfl) rfl).app _) off _ _ ld hI hG (k : Int) (by omega) (by omega)) (OldOk.app (by simp)) ?_ | refine c_call (vat_c _ (.slm b l.length 0 l.length 1) l ((FL.old hb (by exact rfl) rfl).app _) off _ _ ld hI hG (k : Int) (k : Int) (by omega) (by omega) (by omega) (by omega)) (OldOk.app (by simp)) ?_ | fail))
    | (refine gateB ?_; (first | refine b_bln ?_ | refine b_blr ?_ | refine b_ble ?_ | refine b_blo (by exact rfl) ?_ | fail))
    | (refine gateL ?_; (first | refine lp_n ?_ | refine lp_r ?_ | refine lp_e ?_ | fail))
    | (refine pr_k (by exact rfl) ?_; first | exact hK | fail | (exfalso; first | omega | (simp_all; done) | (simp_all; omega)))
    | (refine gateQ ?_; refine b_retK (by simp) (by (conv => {lhs; whnf}); done) ?_)
    | (refine gateR ?_; (first | refine rk_tmp (by (conv => {lhs; whnf}); done) ?_ | refine rk_cellA (by (conv => {lhs; whnf}); done) (by exact rfl) (by exact rfl) ?_ | refine rk_cell1 (by (conv => {lhs; whnf}); done) (by exact rfl) (by exact rfl) ?_ | refine rk_nil ?_ | fail))
    | intro _)
  all_goals first
    | (refine rv_old (by simp) (by simp [mx, mxL, aOf, aOf1, resOne]; omega) ?_; exact rfl)


end Go.Sx

set_option linter.unusedVariables false
set_option linter.unusedSimpArgs false
set_option maxRecDepth 20000
namespace Go.Sx
open Go.Proofs
attribute [local irreducible] Ex exOps exD opX opE thenX blkX RetQ Spec CSpec Fr condK guardK guardD ckK valK pickK loadK faK callK argK gK fK rK RetV lpX prK
set_option maxHeartbeats 4000000 in
theorem each_c (S : Nat → List (List AV)) (Lf : Nat → List Nat) (D : AV) (hF : ∀ t, FL (S t) D (Lf t)) (n : Nat) (hl : ∀ t, (Lf t).length = n) (off ld : Int) (r c : Nat) (hI : MI n off r c ld) (hG : GoodP n off r c ld) (fid : Nat) (caps : List AV) (hSl : ∀ t, (S t).length = (S 0).length) (hO : ∀ t N N', OldOk (S 0).length (S t ++ N) (S (t + 1) ++ N')) (hS : ∀ j i N, j < c → i < r → CSpec Try.prog fid ([.int .i64 (i : Int), .int .i64 (j : Int), .eptr D (pos off ld i j)] ++ caps) (S (j * r + i) ++ N) (.tup []) (S (j * r + i + 1) ++ N)) :
    CSpec Try.prog 143 [mt D off r c ld, .func fid [] caps] (S 0) (.tup []) (S (c * r)) := by
  obtain ⟨hn, ho1, ho2, hr1, hr2, hc1, hc2, hl1, hl2⟩ := id hI
  refine .mk (fun args w => Try.call143 args w) (Spec.intro' (fn := Try.f143) Try.func143 rfl (by kernel_rfl) (by simp) false [] (draw := drawX Try.prog ⟨false, _, []⟩) dOk ?_)
  simp only [argE, Nat.reduceAdd]
  repeat' (first
    | (refine gateE ?_; (first | refine b_c0 ?_ | refine b_nil ?_ | fail))
    | (refine gateO ?_; (first | refine b_moveF (by kernel_rfl) ?_ | refine b_moveI ?_ | refine b_move (by (conv => {lhs; whnf}); done) ?_ | (refine b_fa (by (conv => {lhs; whnf}); done) ?_; first | refine f_loc (by (conv => {lhs; whnf}); done) ?_ | refine f_ptr (by (conv => {lhs; whnf}); done) ?_) | (refine b_load (by (conv => {lhs; whnf}); done) ?_; (first | refine l_loc1 (by exact rfl) (by exact rfl) ?_ | refine l_locA (by exact rfl) (by exact rfl) ?_ | fail)) | refine b_iaM (m := pos off ld i j) (by (conv => {lhs; whnf}); done) (by (conv => {lhs; whnf}); done) (by exact (hl (j * r)) ▸ (hF (j * r)).len) (by exact rfl) (by exact pos_lt hG hi hj) ?_ | (refine b_binB (by first | (conv => {lhs; whnf}; done) | exact (by exact rfl) | fail) (by first | (conv => {lhs; whnf}; done) | exact (by exact rfl) | fail) ?_; (first | refine v_to ((pos off ld i j : Nat) : Int) (by have h1 := col_pos hG (i := i) (t := j) hi hj; have h2 := pos_lt hG hi hj; omega) (by have h1 := col_pos hG (i := i) (t := j) hi hj; omega) ?_ | refine v_bbT (by exact rfl) ?_ | refine v_k ?_ | fail)) | (refine b_bin (by (conv => {lhs; whnf}); done) (by (conv => {lhs; whnf}); done) (by (conv => {lhs; whnf}); done) ?_; (first | refine v_to ((pos off ld i j : Nat) : Int) (by have h1 := col_pos hG (i := i) (t := j) hi hj; have h2 := pos_lt hG hi hj; omega) (by have h1 := col_pos hG (i := i) (t := j) hi hj; omega) ?_ | refine v_eT (by omega) ?_ | refine v_eF (by omega) ?_ | refine v_eP ?_ | refine v_T (by omega) ?_ | refine v_F (by omega) ?_ | refine v_w (by omega) ?_ | refine v_wu (by omega) ?_ | refine v_k ?_ | refine v_c (by omega) ?_ | fail)) | refine b_assign (by (conv => {lhs; whnf}); done) ?_ | refine b_callB ?_ | refine b_callV (by first | (conv => {lhs; whnf}; done) | exact (by exact rfl) | fail) ?_ | refine b_stL (by (conv => {lhs; whnf}); done) (by (conv => {lhs; whnf}); done) (by first | exact (by exact rfl) | exact cells_of_len hF.len | fail) (by exact rfl) (by exact rfl) (by exact Nat.le_of_ble_eq_true rfl) (by (conv => {lhs; simp only [sc, List.set_cons_zero, List.set_cons_succ]}); done) ?_ | refine b_box (by (conv => {lhs; whnf}); done) (by exact rfl) (by exact rfl) (by exact rfl) (by exact rfl) ?_ | refine b_alloc (by exact rfl) (by exact rfl) ?_ | fail))
    | (refine gateT ?_; (first | refine b_thn ?_ | refine b_thr ?_ | refine b_the ?_ | fail))
    | (refine gateX ?_; (first | refine b_seq ?_ | refine b_region ?_ | (refine b_cond (by (conv => {lhs; whnf}); done) ?_; (first | refine c_T ?_ | refine c_F ?_ | refine c_P ?_ ?_ | refine c_B ?_ ?_ | fail)) | refine b_ret ?_ | refine b_skip ?_ | refine b_block ?_ | refine b_exit ?_ | (refine b_loop [20, 19, 12, 11, 2, 5, 4, 1] r (fun i => ⟨[(20, .val (.int .i64 (i : Int))), (19, .val (.int .i64 (r : Int))), (12, .val (.int .i64 (j : Int))), (11, .val (.int .i64 (c : Int))), (2, .loc 2 0), (5, .loc 5 0), (4, .val (.int .i64 (j : Int))), (1, .val (.func fid [] caps))], [(2, [D, .int .i64 off, .int .i64 (r : Int), .int .i64 (c : Int), .int .i64 ld]), (5, [D, .int .i64 (cOff off (r : Int) ld (j : Int)), .int .i64 (r : Int), .int .i64 1])], S (j * r + i) ++ []⟩) (by exact rfl) ?_ ?_ <;> (first | intro i hi K hK | intro K) <;> (try dsimp only at *) <;> (try simp only [Int.natCast_add, Int.natCast_one] at *)) | (refine b_loop [12, 11, 2, 1] c (fun j => ⟨[(12, .val (.int .i64 (j : Int))), (11, .val (.int .i64 (c : Int))), (2, .loc 2 0), (1, .val (.func fid [] caps))], [(2, [D, .int .i64 off, .int .i64 (r : Int), .int .i64 (c : Int), .int .i64 ld])], S (j * r) ++ []⟩) (by simp only [Nat.zero_mul]; exact rfl) ?_ ?_ <;> (first | intro j hj K hK | intro K) <;> (try dsimp only at *) <;> (try simp only [Int.natCast_add, Int.natCast_one, Nat.add_mul, Nat.one_mul] at *)) | fail))
    | refine a_cons (by (conv => {lhs; whnf}); done) ?_
    | refine a_nil ?_
    | (refine gateK ?_; (first | refine c_call (col_c _ D (Lf (j * r)) ((hF _).app _) off _ _ ld (by rw [hl]; exact hI) (by rw [hl]; exact hG) (j : Int) (by omega) (by omega)) (OldOk.app (Nat.le_of_eq (hSl _).symm)) ?_ | refine c_call (hS j i [] hj hi) (hO _ _ _) ?_ | fail))
    | refine gk_consF (by kernel_rfl) ?_
    | refine gk_cons (by (conv => {lhs; whnf}); done) ?_
    | (refine gk_nilN (by (conv => {lhs; simp only [List.nil_append, List.cons_append]}); done) ?_; first | refine ⟨by exact rfl, ?_⟩ | skip)
    | refine gk_nil ?_
    | (intro N' hN'; simp only [List.nil_append, List.cons_append] at hN'; subst hN')
    | (refine gateB ?_; (first | refine b_bln ?_ | refine b_blr ?_ | refine b_ble ?_ | refine b_blo (by exact rfl) ?_ | fail))
    | (refine gateL ?_; (first | refine lp_n ?_ | refine lp_r ?_ | refine lp_e ?_ | fail))
    | (refine pr_k (by exact rfl) ?_; first | exact hK | fail | (exfalso; first | omega | (simp_all; done) | (simp_all; omega)))
    | (refine gateQ ?_; refine b_retK (by simp) (by (conv => {lhs; whnf}); done) ?_)
    | (refine gateR ?_; (first | refine rk_tmp (by (conv => {lhs; whnf}); done) ?_ | refine rk_cellA (by (conv => {lhs; whnf}); done) (by exact rfl) (by exact rfl) ?_ | refine rk_cell1 (by (conv => {lhs; whnf}); done) (by exact rfl) (by exact rfl) ?_ | refine rk_nil ?_ | fail))
    | intro _)
  all_goals first
    | (have hr0 : r = 0 := by omega
       subst hr0; rw [Nat.mul_zero]; refine rv_old rfl (by simp [mx, mxL, resOne]) ?_; exact rfl)
    | (refine rv_old (hSl _) (by simp [mx, mxL, resOne]) ?_; exact rfl)

set_option maxHeartbeats 4000000 in
theorem ger1_c (H H' : List (List AV)) (b : Nat) (l : List Nat) (hb : H[b]? = some (fl l)) (p : Nat) (hp : p < l.length) (a ba : Nat) (hba : H[ba]? = some [.flt a]) (Y : AV) (ly : List Nat) (hFY : FL H Y ly) (oY nY iY : Int) (hIY : VI ly.length oY nY iY) (hRY : RightP ly.length oY nY iY) (bY : Nat) (hbY : H[bY]? = some [Y, .int .i64 oY, .int .i64 nY, .int .i64 iY]) (X : AV) (lx : List Nat) (hFX : FL H X lx) (oX nX iX : Int) (hIX : VI lx.length oX nX iX) (hRX : RightP lx.length oX nX iX) (bX : Nat) (hbX : H[bX]? = some [X, .int .i64 oX, .int .i64 nX, .int .i64 iX]) (i j : Nat) (hi : (i : Int) < nX) (hj : (j : Int) < nY) (hH : H.set b (fl (l.set p (fadd (l.getD p 0) (fmul (fmul a (ly.getD (oY + (j : Int) * iY).toNat 0)) (lx.getD (oX + (i : Int) * iX).toNat 0))))) = H') :
    CSpec Try.prog 144 [.int .i64 (i : Int), .int .i64 (j : Int), .eptr (.slm b l.length 0 l.length 1) p, .eptr (.slm ba 1 0 1 1) 0, .eptr (.slm bY 4 0 1 4) 0, .eptr (.slm bX 4 0 1 4) 0] H (.tup []) H' := by
  subst hH
  have hbl : b < H.length := (List.getElem?_eq_some_iff.1 hb).1
  have h1 := right_at hRX (i := (i : Int)) (by omega) hi
  have h2 := right_at hRY (i := (j : Int)) (by omega) hj
  obtain ⟨hmY, ho1Y, ho2Y, hn1Y, hn2Y, hi1Y, hi2Y⟩ := id hIY
  obtain ⟨hmX, ho1X, ho2X, hn1X, hn2X, hi1X, hi2X⟩ := id hIX
  refine .mk (fun args w => Try.call144 args w) (Spec.intro' (fn := Try.f144) Try.func144 rfl (by kernel_rfl) (by simp) false [] (draw := drawX Try.prog ⟨false, _, []⟩) dOk ?_)
  simp only [argE, Nat.reduceAdd]
  repeat' (first
    | (refine gateE ?_; (first | refine b_c0 ?_ | refine b_nil ?_ | fail))
    | (refine gateO ?_; (first | refine b_move (by (conv => {lhs; whnf}); done) ?_ | (refine b_fa (by (conv => {lhs; whnf}); done) ?_; first | refine f_loc (by (conv => {lhs; whnf}); done) ?_ | refine f_ptr (by (conv => {lhs; whnf}); done) ?_) | (refine b_load (by (conv => {lhs; whnf}); done) ?_; (first | refine l_loc1 (by exact rfl) (by exact rfl) ?_ | refine l_locA (by exact rfl) (by exact rfl) ?_ | refine l_FL (FL.app hFX _) (by omega) ?_ | refine l_FL (FL.app hFY _) (by omega) ?_ | refine l_o1 hba (by exact rfl) (by exact rfl) ?_ | refine l_o1 hbY (by exact rfl) (by exact rfl) ?_ | refine l_o1 hbX (by exact rfl) (by exact rfl) ?_ | refine l_o1 hb (by simp) (by rw [Nat.zero_add]; exact fl_get hp) ?_ | fail)) | refine b_nilC (by (conv => {lhs; whnf}); done) ?_ | refine b_iaF (by (conv => {lhs; whnf}); done) (by (conv => {lhs; whnf}); done) (by exact hFX.len) (by omega) ?_ | refine b_iaF (by (conv => {lhs; whnf}); done) (by (conv => {lhs; whnf}); done) (by exact hFY.len) (by omega) ?_ | refine b_stF (by (conv => {lhs; whnf}); done) (by (conv => {lhs; whnf}); done) hb (by exact rfl) (by omega) (m' := l.set p (fadd (l.getD p 0) (fmul (fmul a (ly.getD (oY + (j : Int) * iY).toNat 0)) (lx.getD (oX + (i : Int) * iX).toNat 0)))) (by rw [Nat.zero_add]) ?_ | (refine b_bin (by (conv => {lhs; whnf}); done) (by (conv => {lhs; whnf}); done) (by (conv => {lhs; whnf}); done) ?_; (first | refine v_w (by omega) ?_ | refine v_w (by omega) ?_ | refine v_wu (by omega) ?_ | refine v_k ?_ | refine v_c (by omega) ?_ | fail)) | refine b_assign (by (conv => {lhs; whnf}); done) ?_ | refine b_stL (by (conv => {lhs; whnf}); done) (by (conv => {lhs; whnf}); done) (by first | exact (by exact rfl) | exact cells_of_len hF.len | fail) (by exact rfl) (by exact rfl) (by exact Nat.le_of_ble_eq_true rfl) (by (conv => {lhs; simp only [sc, List.set_cons_zero, List.set_cons_succ]}); done) ?_ | fail))
    | (refine gateD ?_; (first | refine d_c0 (by exact rfl) ?_ | refine d_nil ?_ | fail))
    | (refine gateC ?_; (first | refine k_lt ?_ | refine k_ld (by (conv => {lhs; whnf}); done) (by exact rfl) ?_ | refine k_ldT (by (conv => {lhs; whnf}); done) ?_ | refine k_bin (by (conv => {lhs; whnf}); done) (by exact rfl) ?_ | refine k_mn ?_ | refine k_mnB (by exact rfl) ?_ | refine k_mnF ?_ | refine k_mnL (by exact rfl) ?_ | fail))
    | (refine gateT ?_; (first | refine b_thn ?_ | refine b_thr ?_ | refine b_the ?_ | fail))
    | (refine gateX ?_; (first | refine b_seq ?_ | refine b_region ?_ | (refine b_cond (by (conv => {lhs; whnf}); done) ?_; (first | refine c_T ?_ | refine c_F ?_ | refine c_P ?_ ?_ | refine c_B ?_ ?_ | fail)) | refine b_ret ?_ | refine b_skip ?_ | refine b_block ?_ | refine b_exit ?_ | refine b_draw (id := 0) [] [] [(0, .ld true), (1, .lt), (2, .ld true), (3, .lt), (4, .ld true), (5, .lt), (6, .lt), (7, .ld true), (8, .lt), (9, .lt), (10, .lt), (11, .ld true), (12, .lt), (13, .lt)] (by kernel_rfl) ?_ | refine b_draw (id := 1) [] [18] [(0, .lt), (1, .lt), (2, .ld true), (3, .lt), (4, .lt), (5, .ld true), (6, .lt), (7, .ld true), (8, .lt), (9, .lt), (10, .ld true), (11, .lt), (12, .lt), (13, .lt), (14, .ld true), (15, .lt), (16, .lt), (17, .lt), (18, .mn false)] (by kernel_rfl) ?_ | fail))
    | (refine gateQ ?_; refine b_retK (by simp) (by (conv => {lhs; whnf}); done) ?_)
    | (refine gateR ?_; (first | refine rk_tmp (by (conv => {lhs; whnf}); done) ?_ | refine rk_cellA (by (conv => {lhs; whnf}); done) (by exact rfl) (by exact rfl) ?_ | refine rk_cell1 (by (conv => {lhs; whnf}); done) (by exact rfl) (by exact rfl) ?_ | refine rk_nil ?_ | fail))
    | intro _)
  all_goals first
    | (refine rv_old (by simp) (by simp [mx, mxL, resOne]) ?_; exact rfl)


end Go.Sx

set_option linter.unusedVariables false
set_option linter.unusedSimpArgs false
set_option maxRecDepth 20000
namespace Go.Sx
open Go.Proofs
attribute [local irreducible] Ex exOps exD opX opE thenX blkX RetQ Spec CSpec Fr condK guardK guardD ckK valK pickK loadK faK callK argK gK fK rK RetV lpX prK

theorem ger_each (H : List (List AV)) (b : Nat) (l : List Nat) (hb : H[b]? = some (fl l)) (off ld : Int) (r c : Nat) (hI : MI l.length off r c ld) (hG : GoodP l.length off r c ld) (a : Nat) (X : AV) (nX : Nat) (oX iX : Int) (hIX : VI nX oX r iX) (hRX : RightP nX oX r iX) (xs : Nat → Nat) (hXe : ∀ g, ∃ lX, FL (H.set b (fl (setM l off ld r c g))) X lX ∧ lX.length = nX ∧ ∀ k : Nat, k < r → lX.getD (oX + (k : Int) * iX).toNat 0 = xs k) (hMX : ∀ N, CSpec Try.prog 17 [mt X oX 1 r iX, mt (.slm b l.length 0 l.length 1) off r c ld] (H ++ N) (.bool false) (H ++ N)) (Y : AV) (nY : Nat) (oY iY : Int) (hIY : VI nY oY c iY) (hRY : RightP nY oY c iY) (ys : Nat → Nat) (hYe : ∀ g, ∃ lY, FL (H.set b (fl (setM l off ld r c g))) Y lY ∧ lY.length = nY ∧ ∀ k : Nat, k < c → lY.getD (oY + (k : Int) * iY).toNat 0 = ys k) (hMY : ∀ N, CSpec Try.prog 17 [mt Y oY 1 c iY, mt (.slm b l.length 0 l.length 1) off r c ld] (H ++ N) (.bool false) (H ++ N)) :
    CSpec Try.prog 143 [mt (.slm b l.length 0 l.length 1) off r c ld, .func 144 [] [.eptr (.slm (H.length + 0) 1 0 1 1) 0, .eptr (.slm (H.length + 2) 4 0 1 4) 0, .eptr (.slm (H.length + 1) 4 0 1 4) 0]] (H ++ [[.flt a], [X, .int .i64 oX, .int .i64 (r : Int), .int .i64 iX], [Y, .int .i64 oY, .int .i64 (c : Int), .int .i64 iY], [(.slm b l.length 0 l.length 1), .int .i64 off, .int .i64 (r : Int), .int .i64 (c : Int), .int .i64 ld]]) (.tup []) (H.set b (fl (setM l off ld r c (gerG (mel l off ld) a xs ys))) ++ [[.flt a], [X, .int .i64 oX, .int .i64 (r : Int), .int .i64 iX], [Y, .int .i64 oY, .int .i64 (c : Int), .int .i64 iY], [(.slm b l.length 0 l.length 1), .int .i64 off, .int .i64 (r : Int), .int .i64 (c : Int), .int .i64 ld]]) := by
  obtain ⟨hn, ho1, ho2, hr1, hr2, hc1, hc2, hl1, hl2⟩ := id hI
  have hbl : b < H.length := (List.getElem?_eq_some_iff.1 hb).1
  have hgd := id hG
  obtain ⟨hg1, hg2, hg3, hg4, hg5, hg6⟩ := hgd
  have hS0 : H.set b (fl (setM l off ld r c (gerS (mel l off ld) a xs ys r 0))) = H := by (rw [setM_congr (g' := (mel l off ld)) (by omega) (by omega) (fun i' j _ _ => gerS_zero i' j), setM_mel (by omega) (by omega)]; exact set_self hb)
  have hS9 : setM l off ld r c (gerG (mel l off ld) a xs ys) = setM l off ld r c (gerS (mel l off ld) a xs ys r (c * r)) := setM_congr (by omega) (by omega) (fun i' j hi hj => (gerS_all i' j hi hj).symm)
  have h := each_c (fun t => H.set b (fl (setM l off ld r c (gerS (mel l off ld) a xs ys r t))) ++ [[.flt a], [X, .int .i64 oX, .int .i64 (r : Int), .int .i64 iX], [Y, .int .i64 oY, .int .i64 (c : Int), .int .i64 iY], [(.slm b l.length 0 l.length 1), .int .i64 off, .int .i64 (r : Int), .int .i64 (c : Int), .int .i64 ld]]) (fun t => setM l off ld r c (gerS (mel l off ld) a xs ys r t)) (.slm b l.length 0 l.length 1) (fun t => FL.set hbl (by simp) (by simp)) l.length (by simp) off ld r c hI hG 144 [.eptr (.slm (H.length + 0) 1 0 1 1) 0, .eptr (.slm (H.length + 2) 4 0 1 4) 0, .eptr (.slm (H.length + 1) 4 0 1 4) 0] (by simp) (fun t N N' => ?_) (fun j i N hj hi => ?_)
  · simp only [hS0] at h
    rw [hS9]; exact h
  · have ho := OldOk.set (A := H.set b (fl (setM l off ld r c (gerS (mel l off ld) a xs ys r t))) ++ [[.flt a], [X, .int .i64 oX, .int .i64 (r : Int), .int .i64 iX], [Y, .int .i64 oY, .int .i64 (c : Int), .int .i64 iY], [(.slm b l.length 0 l.length 1), .int .i64 off, .int .i64 (r : Int), .int .i64 (c : Int), .int .i64 ld]]) (N := N) (N' := N') (n := (H ++ [[.flt a], [X, .int .i64 oX, .int .i64 (r : Int), .int .i64 iX], [Y, .int .i64 oY, .int .i64 (c : Int), .int .i64 iY], [(.slm b l.length 0 l.length 1), .int .i64 off, .int .i64 (r : Int), .int .i64 (c : Int), .int .i64 ld]]).length) (i := b) (cs := fl (setM l off ld r c (gerS (mel l off ld) a xs ys r (t + 1)))) (by simp) (by rw [mxL_fl]; exact Nat.zero_le _)
    rw [hs_set2 hbl] at ho
    simpa using ho
  · obtain ⟨lX, hFX, hlX, hgX⟩ := hXe (gerS (mel l off ld) a xs ys r (j * r + i))
    obtain ⟨lY, hFY, hlY, hgY⟩ := hYe (gerS (mel l off ld) a xs ys r (j * r + i))
    subst hlX hlY
    have hp := pos_lt hG hi hj
    simp only [List.append_assoc]
    refine ger1_c _ _ b (setM l off ld r c (gerS (mel l off ld) a xs ys r (j * r + i))) (hg_set hbl) (pos off ld i j) (by simpa using hp) a (H.length + 0) (hg_new (by simp) rfl) Y lY (hFY.app _) oY c iY hIY hRY (H.length + 2) (hg_new (by simp) rfl) X lX (hFX.app _) oX r iX hIX hRX (H.length + 1) (hg_new (by simp) rfl) i j (by omega) (by omega) ?_ |> fun h => (by simpa using h)
    rw [hgX i hi, hgY j hj, ← mel_pos, mel_setM hG hi hj, gerS_at, set_setM hG hi hj, hs_set2 hbl]
    rw [show setM l off ld r c (updG (gerS (mel l off ld) a xs ys r (j * r + i)) i j (fadd ((mel l off ld) i j) (fmul (fmul a (ys j)) (xs i)))) = setM l off ld r c (gerS (mel l off ld) a xs ys r (j * r + i + 1)) from setM_congr (by omega) (by omega) (fun i' j' h1 h2 => gerS_step hi i' j' h1)]
set_option maxHeartbeats 4000000 in
theorem ger_c (H H' : List (List AV)) (b : Nat) (l : List Nat) (hb : H[b]? = some (fl l)) (off ld : Int) (r c : Nat) (hI : MI l.length off r c ld) (hG : GoodP l.length off r c ld) (a : Nat) (X : AV) (nX : Nat) (oX iX : Int) (hIX : VI nX oX r iX) (hRX : RightP nX oX r iX) (xs : Nat → Nat) (hXe : ∀ g, ∃ lX, FL (H.set b (fl (setM l off ld r c g))) X lX ∧ lX.length = nX ∧ ∀ k : Nat, k < r → lX.getD (oX + (k : Int) * iX).toNat 0 = xs k) (hMX : ∀ N, CSpec Try.prog 17 [mt X oX 1 r iX, mt (.slm b l.length 0 l.length 1) off r c ld] (H ++ N) (.bool false) (H ++ N)) (Y : AV) (nY : Nat) (oY iY : Int) (hIY : VI nY oY c iY) (hRY : RightP nY oY c iY) (ys : Nat → Nat) (hYe : ∀ g, ∃ lY, FL (H.set b (fl (setM l off ld r c g))) Y lY ∧ lY.length = nY ∧ ∀ k : Nat, k < c → lY.getD (oY + (k : Int) * iY).toNat 0 = ys k) (hMY : ∀ N, CSpec Try.prog 17 [mt Y oY 1 c iY, mt (.slm b l.length 0 l.length 1) off r c ld] (H ++ N) (.bool false) (H ++ N)) (hH : H.set b (fl (setM l off ld r c (gerG (mel l off ld) a xs ys))) = H') :
    CSpec Try.prog 106 [.flt a, vt X oX r iX, vt Y oY c iY, mt (.slm b l.length 0 l.length 1) off r c ld] H (.int .i64 0) H' := by
  subst hH
  obtain ⟨hn, ho1, ho2, hr1, hr2, hc1, hc2, hl1, hl2⟩ := id hI
  have hbl : b < H.length := (List.getElem?_eq_some_iff.1 hb).1
  have hgd := id hG
  obtain ⟨hg1, hg2, hg3, hg4, hg5, hg6⟩ := hgd
  have heach := ger_each H b l hb off ld r c hI hG a X nX oX iX hIX hRX xs hXe hMX Y nY oY iY hIY hRY ys hYe hMY
  obtain ⟨lX, hFX, hlX, _⟩ := hXe (mel l off ld)
  obtain ⟨lY, hFY, hlY, _⟩ := hYe (mel l off ld)
  rw [setM_mel (by omega) (by omega), set_self hb] at hFX hFY
  rw [← hlX] at hRX
  rw [← hlY] at hRY
  refine .mk (fun args w => Try.call106 args w) (Spec.intro' (fn := Try.f106) Try.func106 rfl (by kernel_rfl) (by simp) true [] (draw := drawX Try.prog ⟨true, _, []⟩) dOk ?_)
  simp only [argE, Nat.reduceAdd]
  repeat' (first
    | (refine gateE ?_; (first | refine b_c0 ?_ | refine b_nil ?_ | refine b_gT (by exact rfl) (by exact rfl) ?_ | refine b_gF (by exact rfl) (by exact rfl) (by exact rfl) ?_ | refine b_gU (by exact rfl) (by exact rfl) (by constructor <;> simp) (by exact rfl) (by exact rfl) ?_ | (refine b_g0 (by exact rfl) (by exact rfl) (by (conv => {lhs; whnf}); done) ?_; (first | refine g_TT ?_ | refine g_FF ?_ | refine g_TF ?_ | refine g_FT ?_ | refine g_PT ?_ ?_ | refine g_PF ?_ ?_ | refine g_BT ?_ ?_ | refine g_BF ?_ ?_ | fail)) | (refine b_g1 (by exact rfl) (by exact rfl) (by exact rfl) (by (conv => {lhs; whnf}); done) ?_; (first | refine g_TT ?_ | refine g_FF ?_ | refine g_TF ?_ | refine g_FT ?_ | refine g_PT ?_ ?_ | refine g_PF ?_ ?_ | refine g_BT ?_ ?_ | refine g_BF ?_ ?_ | fail)) | refine b_c1 (by exact rfl) ?_ | fail))
    | (refine gateO ?_; (first | refine b_move (by (conv => {lhs; whnf}); done) ?_ | (refine b_fa (by (conv => {lhs; whnf}); done) ?_; first | refine f_loc (by (conv => {lhs; whnf}); done) ?_ | refine f_ptr (by (conv => {lhs; whnf}); done) ?_) | (refine b_load (by (conv => {lhs; whnf}); done) ?_; (first | refine l_loc1 (by exact rfl) (by exact rfl) ?_ | refine l_locA (by exact rfl) (by exact rfl) ?_ | refine l_nA (by exact rfl) (by exact rfl) (by exact rfl) (by exact rfl) ?_ | refine l_n1 (by exact rfl) (by exact rfl) (by exact rfl) (by exact rfl) ?_ | fail)) | refine b_boxE (by (conv => {lhs; whnf}); done) (by exact rfl) (by exact rfl) (by exact rfl) (by (conv => {lhs; whnf}); done) (by (conv => {lhs; simp only [List.nil_append, List.cons_append]}); done) ?_ | refine b_mkF ?_ | (refine b_bin (by (conv => {lhs; whnf}); done) (by (conv => {lhs; whnf}); done) (by (conv => {lhs; whnf}); done) ?_; (first | refine v_neT (by omega) ?_ | refine v_neF (by omega) ?_ | refine v_neP ?_ | refine v_w (by omega) ?_ | refine v_wu (by omega) ?_ | refine v_nT ?_ | refine v_nF ?_ | refine v_nP ?_ | refine v_k ?_ | refine v_c (by omega) ?_ | fail)) | (refine b_pick (by (conv => {lhs; whnf}); done) ?_; (first | refine p_T (by (conv => {lhs; whnf}); done) ?_ | refine p_F (by (conv => {lhs; whnf}); done) ?_ | fail)) | refine b_assignF (by kernel_rfl) ?_ | refine b_assignI ?_ | refine b_assignN ?_ | refine b_assign (by (conv => {lhs; whnf}); done) ?_ | (refine b_un (by (conv => {lhs; whnf}); done) (by (conv => {lhs; whnf}); done) ?_; (first | refine v_neT (by omega) ?_ | refine v_neF (by omega) ?_ | refine v_neP ?_ | refine v_w (by omega) ?_ | refine v_wu (by omega) ?_ | refine v_nT ?_ | refine v_nF ?_ | refine v_nP ?_ | refine v_k ?_ | refine v_c (by omega) ?_ | fail)) | refine b_callB ?_ | refine b_box (by (conv => {lhs; whnf}); done) (by exact rfl) (by exact rfl) (by exact rfl) (by exact rfl) ?_ | fail))
    | (refine gateD ?_; (first | refine d_c0 (by exact rfl) ?_ | refine d_nil ?_ | refine d_gT (by exact rfl) (by exact rfl) (by exact rfl) ?_ | refine d_gF (by exact rfl) (by exact rfl) (by exact rfl) (by exact rfl) ?_ | refine d_gU (by exact rfl) (by exact rfl) (by exact rfl) (by constructor <;> simp) (by exact rfl) (by exact rfl) ?_ | (refine d_g0 (by exact rfl) (by exact rfl) (by exact rfl) (by (conv => {lhs; whnf}); done) ?_; (first | refine dg_TT ?_ | refine dg_FF ?_ | refine dg_TF ?_ | refine dg_FT ?_ | refine dg_PT ?_ ?_ | refine dg_PF ?_ ?_ | refine dg_BT ?_ ?_ | refine dg_BF ?_ ?_ | fail)) | (refine d_g1 (by exact rfl) (by exact rfl) (by exact rfl) (by exact rfl) (by (conv => {lhs; whnf}); done) ?_; (first | refine dg_TT ?_ | refine dg_FF ?_ | refine dg_TF ?_ | refine dg_FT ?_ | refine dg_PT ?_ ?_ | refine dg_PF ?_ ?_ | refine dg_BT ?_ ?_ | refine dg_BF ?_ ?_ | fail)) | refine d_c1 (by exact rfl) (by exact rfl) ?_ | fail))
    | (refine gateC ?_; (first | refine k_lt ?_ | refine k_ld (by (conv => {lhs; whnf}); done) (by exact rfl) ?_ | refine k_ldT (by (conv => {lhs; whnf}); done) ?_ | refine k_bin (by (conv => {lhs; whnf}); done) (by exact rfl) ?_ | refine k_mn ?_ | refine k_mnB (by exact rfl) ?_ | refine k_mnF ?_ | refine k_mnL (by exact rfl) ?_ | fail))
    | (refine gateT ?_; (first | refine b_thn ?_ | refine b_thr ?_ | refine b_the ?_ | fail))
    | (refine gateX ?_; (first | refine b_seq ?_ | refine b_region ?_ | (refine b_cond (by (conv => {lhs; whnf}); done) ?_; (first | refine c_T ?_ | refine c_F ?_ | refine c_P ?_ ?_ | refine c_B ?_ ?_ | fail)) | refine b_ret ?_ | refine b_skip ?_ | refine b_block ?_ | refine b_exit ?_ | refine b_draw (id := 5) [] [] [(0, .ld true), (2, .ld true), (1, .mn true), (3, .mn true), (4, .lt), (5, .ld true), (7, .ld true), (6, .mn true), (8, .mn true), (9, .lt), (10, .lt)] (by kernel_rfl) ?_ | fail))
    | refine a_cons (by (conv => {lhs; whnf}); done) ?_
    | refine a_nil ?_
    | (refine gateK ?_; (first | refine c_call (right_c _ X lX (FL.app hFX _) oX r iX (by rw [hlX]; exact hIX)) (OldOk.app (by simp)) ?_ | refine c_call (right_c _ Y lY (FL.app hFY _) oY c iY (by rw [hlY]; exact hIY)) (OldOk.app (by simp)) ?_ | refine c_call (good_c _ (.slm b l.length 0 l.length 1) l.length off _ _ ld (by exact rfl) hI) (OldOk.app (by simp)) ?_ | refine c_call (grow_c _ X lX (FL.app hFX _) oX r iX (by rw [hlX]; exact hIX)) (OldOk.app (by simp)) ?_ | refine c_call (grow_c _ Y lY (FL.app hFY _) oY c iY (by rw [hlY]; exact hIY)) (OldOk.app (by simp)) ?_ | refine c_call (hMX _) (OldOk.app (by simp)) ?_ | refine c_call (hMY _) (OldOk.app (by simp)) ?_ | refine c_call heach (OldOk.set (by simp) (by rw [mxL_fl]; exact Nat.zero_le _)) ?_ | fail))
    | refine gk_consF (by kernel_rfl) ?_
    | refine gk_cons (by (conv => {lhs; whnf}); done) ?_
    | (refine gk_nilN (by (conv => {lhs; simp only [List.nil_append, List.cons_append]}); done) ?_; first | refine ⟨by exact rfl, ?_⟩ | skip)
    | refine gk_nil ?_
    | (intro N' hN'; simp only [List.nil_append, List.cons_append] at hN'; subst hN')
    | (refine gateB ?_; (first | refine b_bln ?_ | refine b_blr ?_ | refine b_ble ?_ | refine b_blo (by exact rfl) ?_ | fail))
    | (refine gateQ ?_; refine b_retK (by simp) (by (conv => {lhs; whnf}); done) ?_)
    | (refine gateR ?_; (first | refine rk_tmp (by (conv => {lhs; whnf}); done) ?_ | refine rk_cellA (by (conv => {lhs; whnf}); done) (by exact rfl) (by exact rfl) ?_ | refine rk_cell1 (by (conv => {lhs; whnf}); done) (by exact rfl) (by exact rfl) ?_ | refine rk_nil ?_ | fail))
    | intro _)
  all_goals first
    | (exfalso; contradiction)
    | (exfalso; omega)
    | (refine rv_old (by simp) (by simp [mx, mxL, resOne]) ?_; exact rfl)


end Go.Sx
