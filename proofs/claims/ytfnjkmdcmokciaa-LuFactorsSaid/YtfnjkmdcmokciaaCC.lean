/- A part of the proofs of this seat: CC. No condition is set. -/
import Derived.Test.YtfnjkmdcmokciaaCB
import Derived.Test.YtfnjkmdcmokciaaSxW
import Derived.Test.YtfnjkmdcmokciaaSxX
set_option linter.unusedVariables false
set_option linter.unusedSimpArgs false
set_option maxRecDepth 20000
namespace Go.Sx
open Go.Proofs
attribute [local irreducible] Ex exOps exD opX opE thenX blkX RetQ Spec CSpec Fr condK guardK guardD ckK valK pickK loadK faK callK argK gK fK rK RetV lpX prK
set_option maxHeartbeats 4000000 in
theorem greatm_c (H : List (List AV)) (D : AV) (l : List Nat) (hF : FL H D l) (off rows cols ld : Int) (hI : MI l.length off rows cols ld) :
    CSpec Try.prog 23 [mt D off rows cols ld] H (.bool (decide (1000 < (l.length : Int) ∨ 20 < rows ∨ 20 < cols))) H := by
  obtain ⟨hn, ho1, ho2, hr1, hr2, hc1, hc2, hl1, hl2⟩ := id hI
  refine .mk (fun args w => Try.call23 args w) (Spec.intro' (fn := Try.f23) Try.func23 rfl (by kernel_rfl) (by simp) false [] (draw := drawX Try.prog ⟨false, _, []⟩) dOk ?_)
  simp only [argE, Nat.reduceAdd]
  repeat' (first
    | (refine gateE ?_; (first | (refine b_c0 ?_; (first | refine b_move (by (conv => {lhs; whnf}); done) ?_ | (refine b_fa (by (conv => {lhs; whnf}); done) ?_; first | refine f_loc (by (conv => {lhs; whnf}); done) ?_ | refine f_ptr (by (conv => {lhs; whnf}); done) ?_) | (refine b_load (by (conv => {lhs; whnf}); done) ?_; (first | refine l_loc1 (by exact rfl) (by exact rfl) ?_ | refine l_locA (by exact rfl) (by exact rfl) ?_ | fail)) | refine b_lenA (by (conv => {lhs; whnf}); done) (by exact hF.len) ?_ | (refine b_bin (by (conv => {lhs; whnf}); done) (by (conv => {lhs; whnf}); done) (by (conv => {lhs; whnf}); done) ?_; (first | refine v_T (by omega) ?_ | refine v_F (by omega) ?_ | refine v_w (by omega) ?_ | refine v_wu (by omega) ?_ | refine v_k ?_ | refine v_c (by omega) ?_ | fail)) | (refine b_pick (by (conv => {lhs; whnf}); done) ?_; (first | refine p_T (by (conv => {lhs; whnf}); done) ?_ | refine p_F (by (conv => {lhs; whnf}); done) ?_ | fail)) | refine b_assignF (by kernel_rfl) ?_ | refine b_assignI ?_ | refine b_assignN ?_ | refine b_assign (by (conv => {lhs; whnf}); done) ?_ | refine b_lenA (by (conv => {lhs; whnf}); done) (by first | rfl | assumption) ?_ | refine b_box (by (conv => {lhs; whnf}); done) (by exact rfl) (by exact rfl) (by exact rfl) (by exact rfl) ?_ | fail)) | refine b_nil ?_ | refine b_gT (by exact rfl) (by exact rfl) ?_ | refine b_gF (by exact rfl) (by exact rfl) (by exact rfl) ?_ | refine b_gU (by exact rfl) (by exact rfl) (by constructor <;> simp) (by exact rfl) (by exact rfl) ?_ | (refine b_g0 (by exact rfl) (by exact rfl) (by (conv => {lhs; whnf}); done) ?_; (first | refine g_TT ?_ | refine g_FF ?_ | refine g_TF ?_ | refine g_FT ?_ | refine g_PT ?_ ?_ | refine g_PF ?_ ?_ | refine g_BT ?_ ?_ | refine g_BF ?_ ?_ | fail)) | (refine b_g1 (by exact rfl) (by exact rfl) (by exact rfl) (by (conv => {lhs; whnf}); done) ?_; (first | refine g_TT ?_ | refine g_FF ?_ | refine g_TF ?_ | refine g_FT ?_ | refine g_PT ?_ ?_ | refine g_PF ?_ ?_ | refine g_BT ?_ ?_ | refine g_BF ?_ ?_ | fail)) | refine b_c1 (by exact rfl) ?_ | fail))
    | (refine gateO ?_; (first | refine b_move (by (conv => {lhs; whnf}); done) ?_ | (refine b_fa (by (conv => {lhs; whnf}); done) ?_; first | refine f_loc (by (conv => {lhs; whnf}); done) ?_ | refine f_ptr (by (conv => {lhs; whnf}); done) ?_) | (refine b_load (by (conv => {lhs; whnf}); done) ?_; (first | refine l_loc1 (by exact rfl) (by exact rfl) ?_ | refine l_locA (by exact rfl) (by exact rfl) ?_ | fail)) | refine b_lenA (by (conv => {lhs; whnf}); done) (by exact hF.len) ?_ | (refine b_bin (by (conv => {lhs; whnf}); done) (by (conv => {lhs; whnf}); done) (by (conv => {lhs; whnf}); done) ?_; (first | refine v_T (by omega) ?_ | refine v_F (by omega) ?_ | refine v_w (by omega) ?_ | refine v_wu (by omega) ?_ | refine v_k ?_ | refine v_c (by omega) ?_ | fail)) | (refine b_pick (by (conv => {lhs; whnf}); done) ?_; (first | refine p_T (by (conv => {lhs; whnf}); done) ?_ | refine p_F (by (conv => {lhs; whnf}); done) ?_ | fail)) | refine b_assignF (by kernel_rfl) ?_ | refine b_assignI ?_ | refine b_assignN ?_ | refine b_assign (by (conv => {lhs; whnf}); done) ?_ | refine b_lenA (by (conv => {lhs; whnf}); done) (by first | rfl | assumption) ?_ | refine b_box (by (conv => {lhs; whnf}); done) (by exact rfl) (by exact rfl) (by exact rfl) (by exact rfl) ?_ | fail))
    | (refine gateT ?_; (first | refine b_thn ?_ | refine b_thr ?_ | refine b_the ?_ | fail))
    | (refine gateX ?_; (first | refine b_seq ?_ | refine b_region ?_ | (refine b_cond (by (conv => {lhs; whnf}); done) ?_; (first | refine c_T ?_ | refine c_F ?_ | refine c_P ?_ ?_ | refine c_B ?_ ?_ | fail)) | refine b_ret ?_ | refine b_skip ?_ | refine b_block ?_ | refine b_exit ?_ | fail))
    | (refine gateQ ?_; refine b_retK (by simp) (by (conv => {lhs; whnf}); done) ?_)
    | (refine gateR ?_; (first | refine rk_tmp (by (conv => {lhs; whnf}); done) ?_ | refine rk_cellA (by (conv => {lhs; whnf}); done) (by exact rfl) (by exact rfl) ?_ | refine rk_cell1 (by (conv => {lhs; whnf}); done) (by exact rfl) (by exact rfl) ?_ | refine rk_nil ?_ | fail))
    | intro _)
  all_goals first | refine rv_old rfl (by simp [mx, mxL, aOf, aOf1, resOne]) ?_ | (trace_state; fail)
  all_goals first
    | exact rtF (by omega)
    | exact rtT (by omega)
    | exact rvT (by omega)
    | exact rvP (by omega)

set_option maxHeartbeats 4000000 in
theorem new_k (H H' : List (List AV)) (r c : Nat) (hr : r ≤ 1000) (hc : c ≤ 1000) (m : Nat) (hm : H.length = m) (hH : H ++ [fl (List.replicate (r * c) 0)] = H') :
    CSpec Try.prog 93 [.int .i64 (r : Int), .int .i64 (c : Int)] H (mM (.slm m (r * c) 0 (r * c) 1) r c) H' := by
  subst hH hm
  have hrc : r * c ≤ 1000000 := by (have := Nat.mul_le_mul hr hc; omega)
  refine .mk (fun args w => Try.call93 args w) (Spec.intro' (fn := Try.f93) Try.func93 rfl (by kernel_rfl) (by simp) false [] (draw := drawX Try.prog ⟨false, _, []⟩) dOk ?_)
  simp only [argE, Nat.reduceAdd]
  repeat' (first
    | (refine gateE ?_; (first | (refine b_c0 ?_; (first | refine b_move (by (conv => {lhs; whnf}); done) ?_ | refine b_mkf (by (conv => {lhs; whnf}); done) (by (conv => {lhs; whnf}); done) (by exact rfl) (by (conv => {lhs; whnf}); done) (by (conv => {lhs; simp only [List.nil_append, List.cons_append]}); done) (by exact rfl) (by omega) ?_ | (refine b_bin (by (conv => {lhs; whnf}); done) (by (conv => {lhs; whnf}); done) (by (conv => {lhs; whnf}); done) ?_; (first | refine v_mulN (by omega) ?_ | refine v_addN (by omega) ?_ | refine v_w (by omega) ?_ | refine v_wu (by omega) ?_ | refine v_k ?_ | refine v_c (by omega) ?_ | fail)) | refine b_stL (by (conv => {lhs; whnf}); done) (by (conv => {lhs; whnf}); done) (by first | exact (by exact rfl) | exact cells_of_len hF.len | fail) (by exact rfl) (by exact rfl) (by exact Nat.le_of_ble_eq_true rfl) (by (conv => {lhs; simp only [sc, List.set_cons_zero, List.set_cons_succ]}); done) ?_ | refine b_alloc (by exact rfl) (by exact rfl) ?_ | refine b_build ?_ | fail)) | refine b_nil ?_ | fail))
    | (refine gateT ?_; (first | refine b_thn ?_ | refine b_thr ?_ | refine b_the ?_ | fail))
    | (refine gateX ?_; (first | refine b_seq ?_ | refine b_region ?_ | (refine b_cond (by (conv => {lhs; whnf}); done) ?_; (first | refine c_T ?_ | refine c_F ?_ | refine c_P ?_ ?_ | refine c_B ?_ ?_ | fail)) | refine b_ret ?_ | refine b_skip ?_ | refine b_block ?_ | refine b_exit ?_ | fail))
    | refine fk_cons (by (conv => {lhs; whnf}); done) (by first | exact (by exact rfl) | exact cells_of_len hF.len | fail) (by exact rfl) (by exact rfl) (by (conv => {lhs; simp only [sc, List.set_cons_zero, List.set_cons_succ]}); done) ?_
    | refine fk_nil ?_
    | (refine gateQ ?_; refine b_retK (by simp) (by (conv => {lhs; whnf}); done) ?_)
    | (refine gateR ?_; (first | refine rk_tmp (by (conv => {lhs; whnf}); done) ?_ | refine rk_cellA (by (conv => {lhs; whnf}); done) (by exact rfl) (by exact rfl) ?_ | refine rk_cell1 (by (conv => {lhs; whnf}); done) (by exact rfl) (by exact rfl) ?_ | refine rk_nil ?_ | fail))
    | intro _)
  all_goals first
    | exact rv_kp (j := 0) (cs := fl (List.replicate (r * c) 0)) rfl rfl (by rw [mxL_fl]; exact Nat.zero_le _) (Fr.agg (Frs.cons (Fr.old (by simp [mx])) (Frs.cons (Fr.old (by simp [mx])) (Frs.cons (Fr.kp (j := 0) (cs := fl (List.replicate (r * c) 0)) rfl (hg_new rfl rfl) (by simp)) Frs.nil))))

set_option maxHeartbeats 4000000 in
theorem tat_c (H : List (List AV)) (A : AV) (a : List Nat) (hA : FL H A a) (r c : Nat) (ha : a.length = r * c) (hr : r ≤ 1000) (hc : c ≤ 1000) (i j : Nat) (hi : i < r) (hj : j < c) :
    CSpec Try.prog 42 [mM A r c, .int .i64 (i : Int), .int .i64 (j : Int)] H (.flt (a.getD (i * c + j) 0)) H := by
  have hrc : r * c ≤ 1000000 := by (have := Nat.mul_le_mul hr hc; omega)
  have hlt := ix_lt hi hj
  have hic : i * c ≤ 1000000 := by omega
  refine .mk (fun args w => Try.call42 args w) (Spec.intro' (fn := Try.f42) Try.func42 rfl (by kernel_rfl) (by simp) false [] (draw := drawX Try.prog ⟨false, _, []⟩) dOk ?_)
  simp only [argE, Nat.reduceAdd]
  repeat' (first
    | (refine gateE ?_; (first | (refine b_c0 ?_; (first | refine b_move (by (conv => {lhs; whnf}); done) ?_ | (refine b_fa (by (conv => {lhs; whnf}); done) ?_; first | refine f_loc (by (conv => {lhs; whnf}); done) ?_ | refine f_ptr (by (conv => {lhs; whnf}); done) ?_) | (refine b_load (by (conv => {lhs; whnf}); done) ?_; (first | refine l_loc1 (by exact rfl) (by exact rfl) ?_ | refine l_locA (by exact rfl) (by exact rfl) ?_ | refine l_FL (FL.app hA _) (by omega) ?_ | fail)) | refine b_iaN (by (conv => {lhs; whnf}); done) (by (conv => {lhs; whnf}); done) (by exact hA.len) (by omega) ?_ | (refine b_bin (by (conv => {lhs; whnf}); done) (by (conv => {lhs; whnf}); done) (by (conv => {lhs; whnf}); done) ?_; (first | refine v_mulN (by omega) ?_ | refine v_addN (by omega) ?_ | refine v_w (by omega) ?_ | refine v_wu (by omega) ?_ | refine v_k ?_ | refine v_c (by omega) ?_ | fail)) | refine b_assignF (by kernel_rfl) ?_ | refine b_assignI ?_ | refine b_assignN ?_ | refine b_assign (by (conv => {lhs; whnf}); done) ?_ | refine b_box (by (conv => {lhs; whnf}); done) (by exact rfl) (by exact rfl) (by exact rfl) (by exact rfl) ?_ | fail)) | refine b_nil ?_ | fail))
    | (refine gateT ?_; (first | refine b_thn ?_ | refine b_thr ?_ | refine b_the ?_ | fail))
    | (refine gateX ?_; (first | refine b_seq ?_ | refine b_region ?_ | (refine b_cond (by (conv => {lhs; whnf}); done) ?_; (first | refine c_T ?_ | refine c_F ?_ | refine c_P ?_ ?_ | refine c_B ?_ ?_ | fail)) | refine b_ret ?_ | refine b_skip ?_ | refine b_block ?_ | refine b_exit ?_ | fail))
    | (refine gateQ ?_; refine b_retK (by simp) (by (conv => {lhs; whnf}); done) ?_)
    | (refine gateR ?_; (first | refine rk_tmp (by (conv => {lhs; whnf}); done) ?_ | refine rk_cellA (by (conv => {lhs; whnf}); done) (by exact rfl) (by exact rfl) ?_ | refine rk_cell1 (by (conv => {lhs; whnf}); done) (by exact rfl) (by exact rfl) ?_ | refine rk_nil ?_ | fail))
    | intro _)
  all_goals first | refine rv_old rfl (by simp [mx, mxL, aOf, aOf1, resOne]) ?_ | (trace_state; fail)
  all_goals exact rfl

set_option maxHeartbeats 4000000 in
theorem tset_c (H H' : List (List AV)) (b : Nat) (a : List Nat) (hb : H[b]? = some (fl a)) (r c : Nat) (ha : a.length = r * c) (hr : r ≤ 1000) (hc : c ≤ 1000) (i j : Nat) (hi : i < r) (hj : j < c) (x : Nat) (hH : H.set b (fl (a.set (i * c + j) x)) = H') :
    CSpec Try.prog 94 [mM (.slm b (r * c) 0 (r * c) 1) r c, .int .i64 (i : Int), .int .i64 (j : Int), .flt x] H (.tup []) H' := by
  subst hH
  have hrc : r * c ≤ 1000000 := by (have := Nat.mul_le_mul hr hc; omega)
  have hlt := ix_lt hi hj
  have hic : i * c ≤ 1000000 := by omega
  refine .mk (fun args w => Try.call94 args w) (Spec.intro' (fn := Try.f94) Try.func94 rfl (by kernel_rfl) (by simp) false [] (draw := drawX Try.prog ⟨false, _, []⟩) dOk ?_)
  simp only [argE, Nat.reduceAdd]
  repeat' (first
    | (refine gateE ?_; (first | (refine b_c0 ?_; (first | refine b_move (by (conv => {lhs; whnf}); done) ?_ | (refine b_fa (by (conv => {lhs; whnf}); done) ?_; first | refine f_loc (by (conv => {lhs; whnf}); done) ?_ | refine f_ptr (by (conv => {lhs; whnf}); done) ?_) | (refine b_load (by (conv => {lhs; whnf}); done) ?_; (first | refine l_loc1 (by exact rfl) (by exact rfl) ?_ | refine l_locA (by exact rfl) (by exact rfl) ?_ | fail)) | refine b_iaN (by (conv => {lhs; whnf}); done) (by (conv => {lhs; whnf}); done) (by exact rfl) (by omega) ?_ | refine b_stF (by (conv => {lhs; whnf}); done) (by (conv => {lhs; whnf}); done) hb ha (by omega) (m' := a.set (i * c + j) x) (by rw [Nat.zero_add]) ?_ | (refine b_bin (by (conv => {lhs; whnf}); done) (by (conv => {lhs; whnf}); done) (by (conv => {lhs; whnf}); done) ?_; (first | refine v_mulN (by omega) ?_ | refine v_addN (by omega) ?_ | refine v_w (by omega) ?_ | refine v_wu (by omega) ?_ | refine v_k ?_ | refine v_c (by omega) ?_ | fail)) | refine b_stL (by (conv => {lhs; whnf}); done) (by (conv => {lhs; whnf}); done) (by first | exact (by exact rfl) | exact cells_of_len hF.len | fail) (by exact rfl) (by exact rfl) (by exact Nat.le_of_ble_eq_true rfl) (by (conv => {lhs; simp only [sc, List.set_cons_zero, List.set_cons_succ]}); done) ?_ | refine b_box (by (conv => {lhs; whnf}); done) (by exact rfl) (by exact rfl) (by exact rfl) (by exact rfl) ?_ | fail)) | refine b_nil ?_ | fail))
    | (refine gateT ?_; (first | refine b_thn ?_ | refine b_thr ?_ | refine b_the ?_ | fail))
    | (refine gateX ?_; (first | refine b_seq ?_ | refine b_region ?_ | (refine b_cond (by (conv => {lhs; whnf}); done) ?_; (first | refine c_T ?_ | refine c_F ?_ | refine c_P ?_ ?_ | refine c_B ?_ ?_ | fail)) | refine b_ret ?_ | refine b_skip ?_ | refine b_block ?_ | refine b_exit ?_ | fail))
    | (refine gateQ ?_; refine b_retK (by simp) (by (conv => {lhs; whnf}); done) ?_)
    | (refine gateR ?_; (first | refine rk_tmp (by (conv => {lhs; whnf}); done) ?_ | refine rk_cellA (by (conv => {lhs; whnf}); done) (by exact rfl) (by exact rfl) ?_ | refine rk_cell1 (by (conv => {lhs; whnf}); done) (by exact rfl) (by exact rfl) ?_ | refine rk_nil ?_ | fail))
    | intro _)
  all_goals first
    | (refine rv_old (by simp) (by simp [mx, mxL, resOne]) ?_; exact rfl)

set_option maxHeartbeats 4000000 in
theorem tcol_c (H : List (List AV)) (A : AV) (a : List Nat) (hA : FL H A a) (r c : Nat) (ha : a.length = r * c) (hr : r ≤ 1000) (hc : c ≤ 1000) (j : Nat) (hj : j < c) :
    CSpec Try.prog 97 [mM A r c, .int .i64 (j : Int)] H (.sl none r (fl (rml (fun k => a.getD (k * c + j) 0) r))) H := by
  have hrc : r * c ≤ 1000000 := by (have := Nat.mul_le_mul hr hc; omega)
  refine .mk (fun args w => Try.call97 args w) (Spec.intro' (fn := Try.f97) Try.func97 rfl (by kernel_rfl) (by simp) false [18] (draw := drawX Try.prog ⟨false, _, [18]⟩) dOk ?_)
  simp only [argE, Nat.reduceAdd]
  repeat' (first
    | (refine gateE ?_; (first | (refine b_c0 ?_; (first | refine b_move (by (conv => {lhs; whnf}); done) ?_ | (refine b_fa (by (conv => {lhs; whnf}); done) ?_; first | refine f_loc (by (conv => {lhs; whnf}); done) ?_ | refine f_ptr (by (conv => {lhs; whnf}); done) ?_) | (refine b_load (by (conv => {lhs; whnf}); done) ?_; (first | refine l_loc1 (by exact rfl) (by exact rfl) ?_ | refine l_locA (by exact rfl) (by exact rfl) ?_ | fail)) | refine b_grow (i := 0) (N₀ := []) (by (conv => {lhs; whnf}); done) (by (conv => {lhs; whnf}); done) (by exact rfl) (by exact rfl) (by simp) (by omega) (by exact rfl) (by exact rfl) (l' := fl (rml (fun k => a.getD (k * c + j) 0) (k + 1))) (by exact rml_fl (fun k => a.getD (k * c + j) 0) k) ?_ | (refine b_bin (by (conv => {lhs; whnf}); done) (by (conv => {lhs; whnf}); done) (by (conv => {lhs; whnf}); done) ?_; (first | refine v_T (by omega) ?_ | refine v_F (by omega) ?_ | refine v_w (by omega) ?_ | refine v_wu (by omega) ?_ | refine v_k ?_ | refine v_c (by omega) ?_ | fail)) | refine b_assignF (by kernel_rfl) ?_ | refine b_assignI ?_ | refine b_assignN ?_ | refine b_assign (by (conv => {lhs; whnf}); done) ?_ | refine b_callB ?_ | refine b_box (by (conv => {lhs; whnf}); done) (by exact rfl) (by exact rfl) (by exact rfl) (by exact rfl) ?_ | refine b_bslZ (by exact rfl) (by exact rfl) (by decide) ?_ | fail)) | refine b_nil ?_ | fail))
    | (refine gateT ?_; (first | refine b_thn ?_ | refine b_thr ?_ | refine b_the ?_ | fail))
    | (refine gateX ?_; (first | refine b_seq ?_ | refine b_region ?_ | (refine b_cond (by (conv => {lhs; whnf}); done) ?_; (first | refine c_T ?_ | refine c_F ?_ | refine c_P ?_ ?_ | refine c_B ?_ ?_ | fail)) | refine b_ret ?_ | refine b_skip ?_ | refine b_block ?_ | refine b_exit ?_ | (refine b_loop [6, 1, 2, 5, 4] r (fun k => ⟨[(6, .val (.int .i64 (k : Int))), (1, .val (.int .i64 (j : Int))), (2, .loc 2 0), (5, .val (gV H.length 0 k)), (4, .val .slnil)], [(2, [.int .i64 (r : Int), .int .i64 (c : Int), A])], H ++ ([] ++ gN (fl (rml (fun k => a.getD (k * c + j) 0) k)))⟩) (by exact rfl) ?_ ?_ <;> (first | intro k hk K hK | intro K) <;> (try dsimp only at *) <;> (try simp only [Int.natCast_add, Int.natCast_one] at *)) | fail))
    | refine a_cons (by (conv => {lhs; whnf}); done) ?_
    | refine a_nil ?_
    | (refine gateK ?_; (first | refine c_call (tat_c _ A a (FL.app hA _) r c ha hr hc k j (by omega) (by omega)) (OldOk.app (by simp)) ?_ | fail))
    | refine gk_consF (by kernel_rfl) ?_
    | refine gk_cons (by (conv => {lhs; whnf}); done) ?_
    | (refine gk_nilN (by (conv => {lhs; simp only [List.nil_append, List.cons_append]}); done) ?_; first | refine ⟨by exact rfl, ?_⟩ | skip)
    | refine gk_nil ?_
    | (intro N' hN'; simp only [List.nil_append, List.cons_append] at hN'; subst hN')
    | (refine gateB ?_; (first | refine b_bln ?_ | refine b_blr ?_ | refine b_ble ?_ | refine b_blo (by exact rfl) ?_ | fail))
    | (refine gateL ?_; (first | refine lp_n ?_ | refine lp_r ?_ | refine lp_e ?_ | fail))
    | (refine pr_k (by exact rfl) ?_; first | exact hK | fail | (exfalso; first | omega | (simp_all; done) | (simp_all; omega)))
    | (refine gateQ ?_; refine b_retK (by simp) (by (conv => {lhs; whnf}); done) ?_)
    | (refine gateR ?_; (first | refine rk_tmp (by (conv => {lhs; whnf}); done) ?_ | refine rk_cellA (by (conv => {lhs; whnf}); done) (by exact rfl) (by exact rfl) ?_ | refine rk_cell1 (by (conv => {lhs; whnf}); done) (by exact rfl) (by exact rfl) ?_ | refine rk_nil ?_ | fail))
    | intro _)
  all_goals first
    | (refine rv_fr rfl ?_; exact gV_fr (N₀ := []) (i := 0) rfl rfl (by simp) (by rw [mxL_fl]; exact Nat.zero_le _))

set_option maxHeartbeats 4000000 in
theorem trow_c (H : List (List AV)) (A : AV) (a : List Nat) (hA : FL H A a) (r c : Nat) (ha : a.length = r * c) (hr : r ≤ 1000) (hc : c ≤ 1000) (j : Nat) (hj : j < r) :
    CSpec Try.prog 99 [mM A r c, .int .i64 (j : Int)] H (.sl none c (fl (rml (fun k => a.getD (j * c + k) 0) c))) H := by
  have hrc : r * c ≤ 1000000 := by (have := Nat.mul_le_mul hr hc; omega)
  refine .mk (fun args w => Try.call99 args w) (Spec.intro' (fn := Try.f99) Try.func99 rfl (by kernel_rfl) (by simp) false [18] (draw := drawX Try.prog ⟨false, _, [18]⟩) dOk ?_)
  simp only [argE, Nat.reduceAdd]
  repeat' (first
    | (refine gateE ?_; (first | (refine b_c0 ?_; (first | refine b_move (by (conv => {lhs; whnf}); done) ?_ | (refine b_fa (by (conv => {lhs; whnf}); done) ?_; first | refine f_loc (by (conv => {lhs; whnf}); done) ?_ | refine f_ptr (by (conv => {lhs; whnf}); done) ?_) | (refine b_load (by (conv => {lhs; whnf}); done) ?_; (first | refine l_loc1 (by exact rfl) (by exact rfl) ?_ | refine l_locA (by exact rfl) (by exact rfl) ?_ | fail)) | refine b_grow (i := 0) (N₀ := []) (by (conv => {lhs; whnf}); done) (by (conv => {lhs; whnf}); done) (by exact rfl) (by exact rfl) (by simp) (by omega) (by exact rfl) (by exact rfl) (l' := fl (rml (fun k => a.getD (j * c + k) 0) (k + 1))) (by exact rml_fl (fun k => a.getD (j * c + k) 0) k) ?_ | (refine b_bin (by (conv => {lhs; whnf}); done) (by (conv => {lhs; whnf}); done) (by (conv => {lhs; whnf}); done) ?_; (first | refine v_T (by omega) ?_ | refine v_F (by omega) ?_ | refine v_w (by omega) ?_ | refine v_wu (by omega) ?_ | refine v_k ?_ | refine v_c (by omega) ?_ | fail)) | refine b_assignF (by kernel_rfl) ?_ | refine b_assignI ?_ | refine b_assignN ?_ | refine b_assign (by (conv => {lhs; whnf}); done) ?_ | refine b_callB ?_ | refine b_box (by (conv => {lhs; whnf}); done) (by exact rfl) (by exact rfl) (by exact rfl) (by exact rfl) ?_ | refine b_bslZ (by exact rfl) (by exact rfl) (by decide) ?_ | fail)) | refine b_nil ?_ | fail))
    | (refine gateT ?_; (first | refine b_thn ?_ | refine b_thr ?_ | refine b_the ?_ | fail))
    | (refine gateX ?_; (first | refine b_seq ?_ | refine b_region ?_ | (refine b_cond (by (conv => {lhs; whnf}); done) ?_; (first | refine c_T ?_ | refine c_F ?_ | refine c_P ?_ ?_ | refine c_B ?_ ?_ | fail)) | refine b_ret ?_ | refine b_skip ?_ | refine b_block ?_ | refine b_exit ?_ | (refine b_loop [6, 1, 2, 5, 4] c (fun k => ⟨[(6, .val (.int .i64 (k : Int))), (1, .val (.int .i64 (j : Int))), (2, .loc 2 0), (5, .val (gV H.length 0 k)), (4, .val .slnil)], [(2, [.int .i64 (r : Int), .int .i64 (c : Int), A])], H ++ ([] ++ gN (fl (rml (fun k => a.getD (j * c + k) 0) k)))⟩) (by exact rfl) ?_ ?_ <;> (first | intro k hk K hK | intro K) <;> (try dsimp only at *) <;> (try simp only [Int.natCast_add, Int.natCast_one] at *)) | fail))
    | refine a_cons (by (conv => {lhs; whnf}); done) ?_
    | refine a_nil ?_
    | (refine gateK ?_; (first | refine c_call (tat_c _ A a (FL.app hA _) r c ha hr hc j k (by omega) (by omega)) (OldOk.app (by simp)) ?_ | fail))
    | refine gk_consF (by kernel_rfl) ?_
    | refine gk_cons (by (conv => {lhs; whnf}); done) ?_
    | (refine gk_nilN (by (conv => {lhs; simp only [List.nil_append, List.cons_append]}); done) ?_; first | refine ⟨by exact rfl, ?_⟩ | skip)
    | refine gk_nil ?_
    | (intro N' hN'; simp only [List.nil_append, List.cons_append] at hN'; subst hN')
    | (refine gateB ?_; (first | refine b_bln ?_ | refine b_blr ?_ | refine b_ble ?_ | refine b_blo (by exact rfl) ?_ | fail))
    | (refine gateL ?_; (first | refine lp_n ?_ | refine lp_r ?_ | refine lp_e ?_ | fail))
    | (refine pr_k (by exact rfl) ?_; first | exact hK | fail | (exfalso; first | omega | (simp_all; done) | (simp_all; omega)))
    | (refine gateQ ?_; refine b_retK (by simp) (by (conv => {lhs; whnf}); done) ?_)
    | (refine gateR ?_; (first | refine rk_tmp (by (conv => {lhs; whnf}); done) ?_ | refine rk_cellA (by (conv => {lhs; whnf}); done) (by exact rfl) (by exact rfl) ?_ | refine rk_cell1 (by (conv => {lhs; whnf}); done) (by exact rfl) (by exact rfl) ?_ | refine rk_nil ?_ | fail))
    | intro _)
  all_goals first
    | (refine rv_fr rfl ?_; exact gV_fr (N₀ := []) (i := 0) rfl rfl (by simp) (by rw [mxL_fl]; exact Nat.zero_le _))


end Go.Sx

set_option linter.unusedVariables false
set_option linter.unusedSimpArgs false
set_option maxRecDepth 20000
namespace Go.Sx
open Go.Proofs
attribute [local irreducible] Ex exOps exD opX opE thenX blkX RetQ Spec CSpec Fr condK guardK guardD ckK valK pickK loadK faK callK argK gK fK rK RetV lpX prK
set_option maxHeartbeats 4000000 in
theorem of_c (H : List (List AV)) (D : AV) (l : List Nat) (hF : FL H D l) (off rows cols ld : Int) (hI : MI l.length off rows cols ld) (hG : GoodP l.length off rows cols ld) (hr : rows ≤ 1000) (hc : cols ≤ 1000) :
    CSpec Try.prog 27 [mt D off rows cols ld] H (mM (.sl none (rows.toNat * cols.toNat) (fl (rmA (mel l off ld) rows.toNat cols.toNat))) rows cols) H := by
  obtain ⟨r, rfl⟩ : ∃ r : Nat, rows = (r : Int) := ⟨rows.toNat, by have := hG.1; omega⟩
  obtain ⟨c, rfl⟩ : ∃ c : Nat, cols = (c : Int) := ⟨cols.toNat, by have := hG.2.1; omega⟩
  simp only [Int.toNat_natCast]
  obtain ⟨hn, ho1, ho2, hr1, hr2, hc1, hc2, hl1, hl2⟩ := id hI
  have hrc : r * c ≤ 1000000 := by (have := Nat.mul_le_mul (show r ≤ 1000 by omega) (show c ≤ 1000 by omega); omega)
  refine .mk (fun args w => Try.call27 args w) (Spec.intro' (fn := Try.f27) Try.func27 rfl (by kernel_rfl) (by simp) false [] (draw := drawX Try.prog ⟨false, _, []⟩) dOk ?_)
  simp only [argE, Nat.reduceAdd]
  repeat' (first
    | (refine gateE ?_; (first | (refine b_c0 ?_; (first | refine b_move (by (conv => {lhs; whnf}); done) ?_ | (refine b_fa (by (conv => {lhs; whnf}); done) ?_; first | refine f_loc (by (conv => {lhs; whnf}); done) ?_ | refine f_ptr (by (conv => {lhs; whnf}); done) ?_) | (refine b_load (by (conv => {lhs; whnf}); done) ?_; (first | refine l_loc1 (by exact rfl) (by exact rfl) ?_ | refine l_locA (by exact rfl) (by exact rfl) ?_ | refine l_FL (FL.app hF _) (by first | omega | (have hp := good_place hG (i := (k : Int)) (j := (j : Int)) (by omega) (by omega) (by omega) (by omega); omega) | fail) ?_ | fail)) | refine b_iaF (by (conv => {lhs; whnf}); done) (by (conv => {lhs; whnf}); done) (by exact hF.len) (by first | omega | (have hp := good_place hG (i := (k : Int)) (j := (j : Int)) (by omega) (by omega) (by omega) (by omega); omega) | fail) ?_ | (refine b_bin (by (conv => {lhs; whnf}); done) (by (conv => {lhs; whnf}); done) (by (conv => {lhs; whnf}); done) ?_; (first | refine v_w (by first | omega | (have hp := good_place hG (i := (k : Int)) (j := (j : Int)) (by omega) (by omega) (by omega) (by omega); omega) | fail) ?_ | refine v_T (by omega) ?_ | refine v_F (by omega) ?_ | refine v_w (by omega) ?_ | refine v_wu (by omega) ?_ | refine v_k ?_ | refine v_c (by omega) ?_ | fail)) | refine b_assignF (by kernel_rfl) ?_ | refine b_assignI ?_ | refine b_assignN ?_ | refine b_assign (by (conv => {lhs; whnf}); done) ?_ | refine b_callB ?_ | refine b_stL (by (conv => {lhs; whnf}); done) (by (conv => {lhs; whnf}); done) (by first | exact (by exact rfl) | exact cells_of_len hF.len | fail) (by exact rfl) (by exact rfl) (by exact Nat.le_of_ble_eq_true rfl) (by (conv => {lhs; simp only [sc, List.set_cons_zero, List.set_cons_succ]}); done) ?_ | refine b_box (by (conv => {lhs; whnf}); done) (by exact rfl) (by exact rfl) (by exact rfl) (by exact rfl) ?_ | refine b_alloc (by exact rfl) (by exact rfl) ?_ | fail)) | refine b_nil ?_ | fail))
    | (refine gateO ?_; (first | refine b_move (by (conv => {lhs; whnf}); done) ?_ | (refine b_fa (by (conv => {lhs; whnf}); done) ?_; first | refine f_loc (by (conv => {lhs; whnf}); done) ?_ | refine f_ptr (by (conv => {lhs; whnf}); done) ?_) | (refine b_load (by (conv => {lhs; whnf}); done) ?_; (first | refine l_loc1 (by exact rfl) (by exact rfl) ?_ | refine l_locA (by exact rfl) (by exact rfl) ?_ | refine l_FL (FL.app hF _) (by first | omega | (have hp := good_place hG (i := (k : Int)) (j := (j : Int)) (by omega) (by omega) (by omega) (by omega); omega) | fail) ?_ | fail)) | refine b_iaF (by (conv => {lhs; whnf}); done) (by (conv => {lhs; whnf}); done) (by exact hF.len) (by first | omega | (have hp := good_place hG (i := (k : Int)) (j := (j : Int)) (by omega) (by omega) (by omega) (by omega); omega) | fail) ?_ | (refine b_bin (by (conv => {lhs; whnf}); done) (by (conv => {lhs; whnf}); done) (by (conv => {lhs; whnf}); done) ?_; (first | refine v_w (by first | omega | (have hp := good_place hG (i := (k : Int)) (j := (j : Int)) (by omega) (by omega) (by omega) (by omega); omega) | fail) ?_ | refine v_T (by omega) ?_ | refine v_F (by omega) ?_ | refine v_w (by omega) ?_ | refine v_wu (by omega) ?_ | refine v_k ?_ | refine v_c (by omega) ?_ | fail)) | refine b_assignF (by kernel_rfl) ?_ | refine b_assignI ?_ | refine b_assignN ?_ | refine b_assign (by (conv => {lhs; whnf}); done) ?_ | refine b_callB ?_ | refine b_stL (by (conv => {lhs; whnf}); done) (by (conv => {lhs; whnf}); done) (by first | exact (by exact rfl) | exact cells_of_len hF.len | fail) (by exact rfl) (by exact rfl) (by exact Nat.le_of_ble_eq_true rfl) (by (conv => {lhs; simp only [sc, List.set_cons_zero, List.set_cons_succ]}); done) ?_ | refine b_box (by (conv => {lhs; whnf}); done) (by exact rfl) (by exact rfl) (by exact rfl) (by exact rfl) ?_ | refine b_alloc (by exact rfl) (by exact rfl) ?_ | fail))
    | (refine gateD ?_; (first | (refine d_c0 (by exact rfl) ?_; (first | refine b_move (by (conv => {lhs; whnf}); done) ?_ | (refine b_fa (by (conv => {lhs; whnf}); done) ?_; first | refine f_loc (by (conv => {lhs; whnf}); done) ?_ | refine f_ptr (by (conv => {lhs; whnf}); done) ?_) | (refine b_load (by (conv => {lhs; whnf}); done) ?_; (first | refine l_loc1 (by exact rfl) (by exact rfl) ?_ | refine l_locA (by exact rfl) (by exact rfl) ?_ | refine l_FL (FL.app hF _) (by first | omega | (have hp := good_place hG (i := (k : Int)) (j := (j : Int)) (by omega) (by omega) (by omega) (by omega); omega) | fail) ?_ | fail)) | refine b_iaF (by (conv => {lhs; whnf}); done) (by (conv => {lhs; whnf}); done) (by exact hF.len) (by first | omega | (have hp := good_place hG (i := (k : Int)) (j := (j : Int)) (by omega) (by omega) (by omega) (by omega); omega) | fail) ?_ | (refine b_bin (by (conv => {lhs; whnf}); done) (by (conv => {lhs; whnf}); done) (by (conv => {lhs; whnf}); done) ?_; (first | refine v_w (by first | omega | (have hp := good_place hG (i := (k : Int)) (j := (j : Int)) (by omega) (by omega) (by omega) (by omega); omega) | fail) ?_ | refine v_T (by omega) ?_ | refine v_F (by omega) ?_ | refine v_w (by omega) ?_ | refine v_wu (by omega) ?_ | refine v_k ?_ | refine v_c (by omega) ?_ | fail)) | refine b_assignF (by kernel_rfl) ?_ | refine b_assignI ?_ | refine b_assignN ?_ | refine b_assign (by (conv => {lhs; whnf}); done) ?_ | refine b_callB ?_ | refine b_stL (by (conv => {lhs; whnf}); done) (by (conv => {lhs; whnf}); done) (by first | exact (by exact rfl) | exact cells_of_len hF.len | fail) (by exact rfl) (by exact rfl) (by exact Nat.le_of_ble_eq_true rfl) (by (conv => {lhs; simp only [sc, List.set_cons_zero, List.set_cons_succ]}); done) ?_ | refine b_box (by (conv => {lhs; whnf}); done) (by exact rfl) (by exact rfl) (by exact rfl) (by exact rfl) ?_ | refine b_alloc (by exact rfl) (by exact rfl) ?_ | fail)) | refine d_nil ?_ | fail))
    | (refine gateC ?_; (first | refine k_lt ?_ | refine k_ld (by (conv => {lhs; whnf}); done) (by exact rfl) ?_ | refine k_ldT (by (conv => {lhs; whnf}); done) ?_ | refine k_bin (by (conv => {lhs; whnf}); done) (by exact rfl) ?_ | refine k_mn ?_ | refine k_mnB (by exact rfl) ?_ | refine k_mnF ?_ | fail))
    | (refine gateT ?_; (first | refine b_thn ?_ | refine b_thr ?_ | refine b_the ?_ | fail))
    | (refine gateX ?_; (first | refine b_seq ?_ | refine b_region ?_ | (refine b_cond (by (conv => {lhs; whnf}); done) ?_; (first | refine c_T ?_ | refine c_F ?_ | refine c_P ?_ ?_ | refine c_B ?_ ?_ | fail)) | refine b_ret ?_ | refine b_skip ?_ | refine b_block ?_ | refine b_exit ?_ | refine b_draw [] [16] [(0, .ld true), (1, .lt), (2, .lt), (3, .lt), (4, .ld true), (5, .lt), (6, .ld true), (7, .lt), (8, .lt), (9, .lt), (10, .lt), (11, .ld true), (12, .lt), (13, .lt), (14, .lt), (15, .ld true), (16, .mn false)] (by kernel_rfl) ?_ | (refine b_loop [5, 4, 1, 2, 3] c (fun j => ⟨[(5, .val (.int .i64 (j : Int))), (4, .val (.int .i64 (k : Int))), (1, .loc 1 0), (2, .loc 2 0), (3, .loc 3 0)], [(1, [D, .int .i64 off, .int .i64 (r : Int), .int .i64 (c : Int), .int .i64 ld]), (2, [.int .i64 0, .int .i64 0, .slnil]), (3, [.int .i64 (r : Int), .int .i64 (c : Int), .slm (H.length + 0) (r * c) 0 (r * c) 1])], H ++ [fl (ofL (mel l off ld) r c (k * c + j))]⟩) (by exact rfl) ?_ ?_ <;> (first | intro j hj K hK | intro K) <;> (try dsimp only at *) <;> (try simp only [Int.natCast_add, Int.natCast_one] at *)) | (refine b_loop [4, 1, 2, 3] r (fun k => ⟨[(4, .val (.int .i64 (k : Int))), (1, .loc 1 0), (2, .loc 2 0), (3, .loc 3 0)], [(1, [D, .int .i64 off, .int .i64 (r : Int), .int .i64 (c : Int), .int .i64 ld]), (2, [.int .i64 0, .int .i64 0, .slnil]), (3, [.int .i64 (r : Int), .int .i64 (c : Int), .slm (H.length + 0) (r * c) 0 (r * c) 1])], H ++ [fl (ofL (mel l off ld) r c (k * c))]⟩) (by simp only [Nat.zero_mul, ofL_zero]; exact rfl) ?_ ?_ <;> (first | intro k hk K hK | intro K) <;> (try dsimp only at *) <;> (try simp only [Int.natCast_add, Int.natCast_one, Nat.add_mul, Nat.one_mul] at *)) | fail))
    | refine a_cons (by (conv => {lhs; whnf}); done) ?_
    | refine a_nil ?_
    | (refine gateK ?_; (first | refine c_call (new_k _ _ r c (by omega) (by omega) _ (by (conv => {lhs; simp only [List.length_append, List.length_cons, List.length_nil, List.length_set, Nat.reduceAdd, Nat.zero_add]}); done) (by (conv => {lhs; simp only [List.append_assoc, List.cons_append, List.nil_append]}); done)) (OldOk.app (by simp)) ?_ | refine c_call (tset_c _ _ _ (ofL (mel l off ld) r c (k * c + j)) (hg_new (by exact rfl) rfl) r c (by simp) (by omega) (by omega) k j (by omega) (by omega) _ (by rw [ofL_set (by omega) (by omega) (by exact rfl)]; exact hs_new (by exact rfl) (by (conv => {lhs; simp only [List.set_cons_zero, List.set_cons_succ]}); done))) (OldOk.app (by simp)) ?_ | fail))
    | (refine gateB ?_; (first | refine b_bln ?_ | refine b_blr ?_ | refine b_ble ?_ | refine b_blo (by exact rfl) ?_ | fail))
    | (refine gateL ?_; (first | refine lp_n ?_ | refine lp_r ?_ | refine lp_e ?_ | fail))
    | (refine pr_k (by exact rfl) ?_; first | exact hK | fail | (exfalso; first | omega | (simp_all; done) | (simp_all; omega)))
    | (refine gateQ ?_; refine b_retK (by simp) (by (conv => {lhs; whnf}); done) ?_)
    | (refine gateR ?_; (first | refine rk_tmp (by (conv => {lhs; whnf}); done) ?_ | refine rk_cellA (by (conv => {lhs; whnf}); done) (by exact rfl) (by exact rfl) ?_ | refine rk_cell1 (by (conv => {lhs; whnf}); done) (by exact rfl) (by exact rfl) ?_ | refine rk_nil ?_ | fail))
    | intro _)
  all_goals first
    | (refine rv_fr rfl ?_; simp only [ofL_all]; exact Fr.agg (Frs.cons (Fr.old (by simp [mx])) (Frs.cons (Fr.old (by simp [mx])) (Frs.cons (Fr.fz (by omega) (by simp) (hg_new rfl rfl) (by simp) (gc_all _ (by simp)) (Frs.old (by rw [mxL_fl]; exact Nat.zero_le _))) Frs.nil))))


end Go.Sx

set_option linter.unusedVariables false
set_option linter.unusedSimpArgs false
set_option maxRecDepth 20000
namespace Go.Sx
open Go.Proofs
attribute [local irreducible] Ex exOps exD opX opE thenX blkX RetQ Spec CSpec Fr condK guardK guardD ckK valK pickK loadK faK callK argK gK fK rK RetV lpX prK
set_option maxHeartbeats 4000000 in
theorem turn_c (H : List (List AV)) (A : AV) (a : List Nat) (hA : FL H A a) (r c : Nat) (ha : a.length = r * c) (hr : r ≤ 1000) (hc : c ≤ 1000) :
    CSpec Try.prog 32 [mM A r c] H (mM (.sl none (c * r) (fl (rmA (fun i j => a.getD (j * c + i) 0) c r))) c r) H := by
  have hrc : r * c ≤ 1000000 := by (have := Nat.mul_le_mul hr hc; omega)
  have hrc2 : c * r ≤ 1000000 := by (rw [Nat.mul_comm]; exact hrc)
  refine .mk (fun args w => Try.call32 args w) (Spec.intro' (fn := Try.f32) Try.func32 rfl (by kernel_rfl) (by simp) false [] (draw := drawX Try.prog ⟨false, _, []⟩) dOk ?_)
  simp only [argE, Nat.reduceAdd]
  repeat' (first
    | (refine gateE ?_; (first | (refine b_c0 ?_; (first | refine b_move (by (conv => {lhs; whnf}); done) ?_ | (refine b_fa (by (conv => {lhs; whnf}); done) ?_; first | refine f_loc (by (conv => {lhs; whnf}); done) ?_ | refine f_ptr (by (conv => {lhs; whnf}); done) ?_) | (refine b_load (by (conv => {lhs; whnf}); done) ?_; (first | refine l_loc1 (by exact rfl) (by exact rfl) ?_ | refine l_locA (by exact rfl) (by exact rfl) ?_ | fail)) | (refine b_bin (by (conv => {lhs; whnf}); done) (by (conv => {lhs; whnf}); done) (by (conv => {lhs; whnf}); done) ?_; (first | refine v_T (by omega) ?_ | refine v_F (by omega) ?_ | refine v_w (by omega) ?_ | refine v_wu (by omega) ?_ | refine v_k ?_ | refine v_c (by omega) ?_ | fail)) | refine b_assignF (by kernel_rfl) ?_ | refine b_assignI ?_ | refine b_assignN ?_ | refine b_assign (by (conv => {lhs; whnf}); done) ?_ | refine b_callB ?_ | refine b_stL (by (conv => {lhs; whnf}); done) (by (conv => {lhs; whnf}); done) (by first | exact (by exact rfl) | exact cells_of_len hF.len | fail) (by exact rfl) (by exact rfl) (by exact Nat.le_of_ble_eq_true rfl) (by (conv => {lhs; simp only [sc, List.set_cons_zero, List.set_cons_succ]}); done) ?_ | refine b_box (by (conv => {lhs; whnf}); done) (by exact rfl) (by exact rfl) (by exact rfl) (by exact rfl) ?_ | refine b_alloc (by exact rfl) (by exact rfl) ?_ | fail)) | refine b_nil ?_ | fail))
    | (refine gateO ?_; (first | refine b_move (by (conv => {lhs; whnf}); done) ?_ | (refine b_fa (by (conv => {lhs; whnf}); done) ?_; first | refine f_loc (by (conv => {lhs; whnf}); done) ?_ | refine f_ptr (by (conv => {lhs; whnf}); done) ?_) | (refine b_load (by (conv => {lhs; whnf}); done) ?_; (first | refine l_loc1 (by exact rfl) (by exact rfl) ?_ | refine l_locA (by exact rfl) (by exact rfl) ?_ | fail)) | (refine b_bin (by (conv => {lhs; whnf}); done) (by (conv => {lhs; whnf}); done) (by (conv => {lhs; whnf}); done) ?_; (first | refine v_T (by omega) ?_ | refine v_F (by omega) ?_ | refine v_w (by omega) ?_ | refine v_wu (by omega) ?_ | refine v_k ?_ | refine v_c (by omega) ?_ | fail)) | refine b_assignF (by kernel_rfl) ?_ | refine b_assignI ?_ | refine b_assignN ?_ | refine b_assign (by (conv => {lhs; whnf}); done) ?_ | refine b_callB ?_ | refine b_stL (by (conv => {lhs; whnf}); done) (by (conv => {lhs; whnf}); done) (by first | exact (by exact rfl) | exact cells_of_len hF.len | fail) (by exact rfl) (by exact rfl) (by exact Nat.le_of_ble_eq_true rfl) (by (conv => {lhs; simp only [sc, List.set_cons_zero, List.set_cons_succ]}); done) ?_ | refine b_box (by (conv => {lhs; whnf}); done) (by exact rfl) (by exact rfl) (by exact rfl) (by exact rfl) ?_ | refine b_alloc (by exact rfl) (by exact rfl) ?_ | fail))
    | (refine gateD ?_; (first | (refine d_c0 (by exact rfl) ?_; (first | refine b_move (by (conv => {lhs; whnf}); done) ?_ | (refine b_fa (by (conv => {lhs; whnf}); done) ?_; first | refine f_loc (by (conv => {lhs; whnf}); done) ?_ | refine f_ptr (by (conv => {lhs; whnf}); done) ?_) | (refine b_load (by (conv => {lhs; whnf}); done) ?_; (first | refine l_loc1 (by exact rfl) (by exact rfl) ?_ | refine l_locA (by exact rfl) (by exact rfl) ?_ | fail)) | (refine b_bin (by (conv => {lhs; whnf}); done) (by (conv => {lhs; whnf}); done) (by (conv => {lhs; whnf}); done) ?_; (first | refine v_T (by omega) ?_ | refine v_F (by omega) ?_ | refine v_w (by omega) ?_ | refine v_wu (by omega) ?_ | refine v_k ?_ | refine v_c (by omega) ?_ | fail)) | refine b_assignF (by kernel_rfl) ?_ | refine b_assignI ?_ | refine b_assignN ?_ | refine b_assign (by (conv => {lhs; whnf}); done) ?_ | refine b_callB ?_ | refine b_stL (by (conv => {lhs; whnf}); done) (by (conv => {lhs; whnf}); done) (by first | exact (by exact rfl) | exact cells_of_len hF.len | fail) (by exact rfl) (by exact rfl) (by exact Nat.le_of_ble_eq_true rfl) (by (conv => {lhs; simp only [sc, List.set_cons_zero, List.set_cons_succ]}); done) ?_ | refine b_box (by (conv => {lhs; whnf}); done) (by exact rfl) (by exact rfl) (by exact rfl) (by exact rfl) ?_ | refine b_alloc (by exact rfl) (by exact rfl) ?_ | fail)) | refine d_nil ?_ | fail))
    | (refine gateC ?_; (first | refine k_lt ?_ | refine k_ld (by (conv => {lhs; whnf}); done) (by exact rfl) ?_ | refine k_ldT (by (conv => {lhs; whnf}); done) ?_ | refine k_bin (by (conv => {lhs; whnf}); done) (by exact rfl) ?_ | refine k_mn ?_ | refine k_mnB (by exact rfl) ?_ | refine k_mnF ?_ | fail))
    | (refine gateT ?_; (first | refine b_thn ?_ | refine b_thr ?_ | refine b_the ?_ | fail))
    | (refine gateX ?_; (first | refine b_seq ?_ | refine b_region ?_ | (refine b_cond (by (conv => {lhs; whnf}); done) ?_; (first | refine c_T ?_ | refine c_F ?_ | refine c_P ?_ ?_ | refine c_B ?_ ?_ | fail)) | refine b_ret ?_ | refine b_skip ?_ | refine b_block ?_ | refine b_exit ?_ | refine b_draw [] [7] [(0, .ld true), (1, .lt), (2, .lt), (3, .ld true), (4, .lt), (5, .lt), (6, .mn true), (7, .mn false)] (by kernel_rfl) ?_ | (refine b_loop [5, 4, 1, 2, 3] c (fun j => ⟨[(5, .val (.int .i64 (j : Int))), (4, .val (.int .i64 (k : Int))), (1, .loc 1 0), (2, .loc 2 0), (3, .loc 3 0)], [(1, [.int .i64 (r : Int), .int .i64 (c : Int), A]), (2, [.int .i64 0, .int .i64 0, .slnil]), (3, [.int .i64 (c : Int), .int .i64 (r : Int), .slm (H.length + 0) (c * r) 0 (c * r) 1])], H ++ [fl (flL (fun k => a.getD (k % r * c + k / r) 0) (rkT r c) (k * c + j) (c * r))]⟩) (by exact rfl) ?_ ?_ <;> (first | intro j hj K hK | intro K) <;> (try dsimp only at *) <;> (try simp only [Int.natCast_add, Int.natCast_one] at *)) | (refine b_loop [4, 1, 2, 3] r (fun k => ⟨[(4, .val (.int .i64 (k : Int))), (1, .loc 1 0), (2, .loc 2 0), (3, .loc 3 0)], [(1, [.int .i64 (r : Int), .int .i64 (c : Int), A]), (2, [.int .i64 0, .int .i64 0, .slnil]), (3, [.int .i64 (c : Int), .int .i64 (r : Int), .slm (H.length + 0) (c * r) 0 (c * r) 1])], H ++ [fl (flL (fun k => a.getD (k % r * c + k / r) 0) (rkT r c) (k * c) (c * r))]⟩) (by simp only [Nat.zero_mul, flL_zero]; exact rfl) ?_ ?_ <;> (first | intro k hk K hK | intro K) <;> (try dsimp only at *) <;> (try simp only [Int.natCast_add, Int.natCast_one, Nat.add_mul, Nat.one_mul] at *)) | fail))
    | refine a_cons (by (conv => {lhs; whnf}); done) ?_
    | refine a_nil ?_
    | (refine gateK ?_; (first | refine c_call (new_k _ _ c r (by omega) (by omega) _ (by (conv => {lhs; simp only [List.length_append, List.length_cons, List.length_nil, List.length_set, Nat.reduceAdd, Nat.zero_add]}); done) (by (conv => {lhs; simp only [List.append_assoc, List.cons_append, List.nil_append]}); done)) (OldOk.app (by simp)) ?_ | refine c_call (tat_c _ A a (FL.app hA _) r c ha hr hc k j (by omega) (by omega)) (OldOk.app (by simp)) ?_ | refine c_call (tset_c _ _ _ (flL (fun k => a.getD (k % r * c + k / r) 0) (rkT r c) (k * c + j) (c * r)) (hg_new (by exact rfl) rfl) c r (by simp) hc hr j k (by omega) (by omega) _ (by rw [flL_set (ix_lt hj hk) (rkT_ix hk hj) (fun _ h1 h2 => rkT_inj hk hj h1 h2) (by simp only [ix_mod hk, ix_div hk])]; exact hs_new (by exact rfl) (by (conv => {lhs; simp only [List.set_cons_zero, List.set_cons_succ]}); done))) (OldOk.app (by simp)) ?_ | fail))
    | (refine gateB ?_; (first | refine b_bln ?_ | refine b_blr ?_ | refine b_ble ?_ | refine b_blo (by exact rfl) ?_ | fail))
    | (refine gateL ?_; (first | refine lp_n ?_ | refine lp_r ?_ | refine lp_e ?_ | fail))
    | (refine pr_k (by exact rfl) ?_; first | exact hK | fail | (exfalso; first | omega | (simp_all; done) | (simp_all; omega)))
    | (refine gateQ ?_; refine b_retK (by simp) (by (conv => {lhs; whnf}); done) ?_)
    | (refine gateR ?_; (first | refine rk_tmp (by (conv => {lhs; whnf}); done) ?_ | refine rk_cellA (by (conv => {lhs; whnf}); done) (by exact rfl) (by exact rfl) ?_ | refine rk_cell1 (by (conv => {lhs; whnf}); done) (by exact rfl) (by exact rfl) ?_ | refine rk_nil ?_ | fail))
    | intro _)
  all_goals first
    | (refine rv_fr rfl ?_; rw [flL_all (fun k hk => rkT_lt hk)]; exact Fr.agg (Frs.cons (Fr.old (by simp [mx])) (Frs.cons (Fr.old (by simp [mx])) (Frs.cons (Fr.fz (by omega) (by simp) (hg_new rfl rfl) (by simp) (gc_all _ (by simp)) (Frs.old (by rw [mxL_fl]; exact Nat.zero_le _))) Frs.nil))))

set_option maxHeartbeats 4000000 in
theorem numbers_c (H : List (List AV)) (D : AV) (l : List Nat) (hF : FL H D l) (off rows cols ld : Int) (hI : MI l.length off rows cols ld) (hG : GoodP l.length off rows cols ld) (hr : rows ≤ 1000) (hc : cols ≤ 1000) :
    CSpec Try.prog 92 [mt D off rows cols ld] H (.sl none (rows.toNat * cols.toNat) (fl (cmA (mel l off ld) rows.toNat cols.toNat))) H := by
  obtain ⟨r, rfl⟩ : ∃ r : Nat, rows = (r : Int) := ⟨rows.toNat, by have := hG.1; omega⟩
  obtain ⟨c, rfl⟩ : ∃ c : Nat, cols = (c : Int) := ⟨cols.toNat, by have := hG.2.1; omega⟩
  simp only [Int.toNat_natCast]
  obtain ⟨hn, ho1, ho2, hr1, hr2, hc1, hc2, hl1, hl2⟩ := id hI
  have hrc : c * r ≤ 1000000 := by (have := Nat.mul_le_mul (show c ≤ 1000 by omega) (show r ≤ 1000 by omega); omega)
  have hcO : ∀ k : Nat, 0 < r → cOff off (r : Int) ld (k : Int) = off + (k : Int) * ld := fun k h => by (unfold cOff; exact if_pos (by omega))
  have hx : ∀ k j, k < c → j < r → l.getD (cOff off (r : Int) ld (k : Int) + (j : Int)).toNat 0 = (fun n => mel l off ld (n % r) (n / r)) (k * r + j) := fun k j hk hj => by
    simp only [ix_mod hj, ix_div hj, mel, hcO k (by omega)]
    congr 2; omega
  refine .mk (fun args w => Try.call92 args w) (Spec.intro' (fn := Try.f92) Try.func92 rfl (by kernel_rfl) (by simp) false [40] (draw := drawX Try.prog ⟨false, _, [40]⟩) dOk ?_)
  simp only [argE, Nat.reduceAdd]
  repeat' (first
    | (refine gateE ?_; (first | (refine b_c0 ?_; (first | refine b_moveF (by kernel_rfl) ?_ | refine b_moveI ?_ | refine b_move (by (conv => {lhs; whnf}); done) ?_ | (refine b_fa (by (conv => {lhs; whnf}); done) ?_; first | refine f_loc (by (conv => {lhs; whnf}); done) ?_ | refine f_ptr (by (conv => {lhs; whnf}); done) ?_) | (refine b_load (by (conv => {lhs; whnf}); done) ?_; (first | refine l_loc1 (by exact rfl) (by exact rfl) ?_ | refine l_locA (by exact rfl) (by exact rfl) ?_ | refine l_FL (FL.app hF _) (by first | omega | (have hp := good_place hG (i := (j : Int)) (j := (k : Int)) (by omega) (by omega) (by omega) (by omega); have hco := hcO k (by omega); omega) | fail) ?_ | fail)) | refine b_iaF (by (conv => {lhs; whnf}); done) (by (conv => {lhs; whnf}); done) (by exact hF.len) (by first | omega | (have hp := good_place hG (i := (j : Int)) (j := (k : Int)) (by omega) (by omega) (by omega) (by omega); have hco := hcO k (by omega); omega) | fail) ?_ | refine b_grow (i := 0) (N₀ := []) (by (conv => {lhs; whnf}); done) (by (conv => {lhs; whnf}); done) (by exact rfl) (by exact rfl) (by simp) (by have := ix_lt hk hj; omega) (by exact rfl) (by exact rfl) (l' := fl (rml (fun n => mel l off ld (n % r) (n / r)) (k * r + j + 1))) (by rw [hx k j hk hj]; exact rml_fl (fun n => mel l off ld (n % r) (n / r)) _) ?_ | (refine b_bin (by (conv => {lhs; whnf}); done) (by (conv => {lhs; whnf}); done) (by (conv => {lhs; whnf}); done) ?_; (first | refine v_w (by first | omega | (have hp := good_place hG (i := (j : Int)) (j := (k : Int)) (by omega) (by omega) (by omega) (by omega); have hco := hcO k (by omega); omega) | fail) ?_ | refine v_T (by omega) ?_ | refine v_F (by omega) ?_ | refine v_w (by omega) ?_ | refine v_wu (by omega) ?_ | refine v_nT ?_ | refine v_nF ?_ | refine v_nP ?_ | refine v_k ?_ | refine v_c (by omega) ?_ | fail)) | refine b_assignF (by kernel_rfl) ?_ | refine b_assignI ?_ | refine b_assignN ?_ | refine b_assign (by (conv => {lhs; whnf}); done) ?_ | (refine b_un (by (conv => {lhs; whnf}); done) (by (conv => {lhs; whnf}); done) ?_; (first | refine v_w (by first | omega | (have hp := good_place hG (i := (j : Int)) (j := (k : Int)) (by omega) (by omega) (by omega) (by omega); have hco := hcO k (by omega); omega) | fail) ?_ | refine v_T (by omega) ?_ | refine v_F (by omega) ?_ | refine v_w (by omega) ?_ | refine v_wu (by omega) ?_ | refine v_nT ?_ | refine v_nF ?_ | refine v_nP ?_ | refine v_k ?_ | refine v_c (by omega) ?_ | fail)) | refine b_callB ?_ | refine b_ext (by (conv => {lhs; whnf}); done) (by exact rfl) ?_ | refine b_stL (by (conv => {lhs; whnf}); done) (by (conv => {lhs; whnf}); done) (by first | exact (by exact rfl) | exact cells_of_len hF.len | fail) (by exact rfl) (by exact rfl) (by exact Nat.le_of_ble_eq_true rfl) (by (conv => {lhs; simp only [sc, List.set_cons_zero, List.set_cons_succ]}); done) ?_ | refine b_box (by (conv => {lhs; whnf}); done) (by exact rfl) (by exact rfl) (by exact rfl) (by exact rfl) ?_ | refine b_alloc (by exact rfl) (by exact rfl) ?_ | refine b_bslZ (by exact rfl) (by exact rfl) (by decide) ?_ | fail)) | refine b_nil ?_ | fail))
    | (refine gateT ?_; (first | refine b_thn ?_ | refine b_thr ?_ | refine b_the ?_ | fail))
    | (refine gateX ?_; (first | refine b_seq ?_ | refine b_region ?_ | (refine b_cond (by (conv => {lhs; whnf}); done) ?_; (first | refine c_T ?_ | refine c_F ?_ | refine c_P ?_ ?_ | refine c_B ?_ ?_ | fail)) | refine b_ret ?_ | refine b_skip ?_ | refine b_block ?_ | refine b_exit ?_ | (refine b_loop [28, 27, 20, 19, 1, 6, 8] r (fun j => ⟨[(28, .val (.int .i64 (j : Int))), (27, .val (.int .i64 (r : Int))), (20, .val (.int .i64 (k : Int))), (19, .val (.int .i64 (c : Int))), (1, .loc 1 0), (6, .val (gV H.length 0 (k * r + j))), (8, .loc 8 0)], [(1, [D, .int .i64 off, .int .i64 (r : Int), .int .i64 (c : Int), .int .i64 ld]), (8, [D, .int .i64 (cOff off (r : Int) ld (k : Int)), .int .i64 (r : Int), .int .i64 1])], H ++ ([] ++ gN (fl (rml (fun n => mel l off ld (n % r) (n / r)) (k * r + j))))⟩) (by exact rfl) ?_ ?_ <;> (first | intro j hj K hK | intro K) <;> (try dsimp only at *) <;> (try simp only [Int.natCast_add, Int.natCast_one] at *)) | (refine b_loop [20, 19, 1, 6] c (fun k => ⟨[(20, .val (.int .i64 (k : Int))), (19, .val (.int .i64 (c : Int))), (1, .loc 1 0), (6, .val (gV H.length 0 (k * r)))], [(1, [D, .int .i64 off, .int .i64 (r : Int), .int .i64 (c : Int), .int .i64 ld])], H ++ ([] ++ gN (fl (rml (fun n => mel l off ld (n % r) (n / r)) (k * r))))⟩) (by simp only [Nat.zero_mul]; exact rfl) ?_ ?_ <;> (first | intro k hk K hK | intro K) <;> (try dsimp only at *) <;> (try simp only [Int.natCast_add, Int.natCast_one, Nat.add_mul, Nat.one_mul] at *)) | fail))
    | refine a_cons (by (conv => {lhs; whnf}); done) ?_
    | refine a_nil ?_
    | (refine gateK ?_; (first | refine c_call (span_c _ D l.length off _ _ ld hF.len hI) (OldOk.app (by simp)) ?_ | refine c_call (col_c _ D l (FL.app hF _) off _ _ ld hI hG (k : Int) (by omega) (by omega)) (OldOk.app (by simp)) ?_ | fail))
    | refine gk_consF (by kernel_rfl) ?_
    | refine gk_cons (by (conv => {lhs; whnf}); done) ?_
    | (refine gk_nilN (by (conv => {lhs; simp only [List.nil_append, List.cons_append]}); done) ?_; first | refine ⟨by exact rfl, ?_⟩ | skip)
    | refine gk_nil ?_
    | (intro N' hN'; simp only [List.nil_append, List.cons_append] at hN'; subst hN')
    | (refine gateB ?_; (first | refine b_bln ?_ | refine b_blr ?_ | refine b_ble ?_ | refine b_blo (by exact rfl) ?_ | fail))
    | (refine gateL ?_; (first | refine lp_n ?_ | refine lp_r ?_ | refine lp_e ?_ | fail))
    | (refine pr_k (by exact rfl) ?_; first | exact hK | fail | (exfalso; first | omega | (simp_all; done) | (simp_all; omega)))
    | (refine gateQ ?_; refine b_retK (by simp) (by (conv => {lhs; whnf}); done) ?_)
    | (refine gateR ?_; (first | refine rk_tmp (by (conv => {lhs; whnf}); done) ?_ | refine rk_cellA (by (conv => {lhs; whnf}); done) (by exact rfl) (by exact rfl) ?_ | refine rk_cell1 (by (conv => {lhs; whnf}); done) (by exact rfl) (by exact rfl) ?_ | refine rk_nil ?_ | fail))
    | intro _)
  all_goals first
    | (refine rv_fr rfl ?_; have hz : r * c = 0 := by (have hsp : ¬ SpanP l.length off r c ld := by assumption); (have : r = 0 ∨ c = 0 := by (rcases Nat.eq_zero_or_pos r with h | h; exact .inl h; rcases Nat.eq_zero_or_pos c with h' | h'; exact .inr h'; exact absurd ⟨hG, by omega, by omega⟩ hsp)); rcases this with h | h <;> simp [h]
       rw [show fl (cmA (mel l off ld) r c) = [] from by rw [cmA, hz]; rfl, hz]; exact Fr.nil)
    | (refine rv_fr rfl ?_; rw [Nat.mul_comm r c, cmA, Nat.mul_comm r c]; exact gV_fr (N₀ := []) (i := 0) rfl rfl (by simp) (by rw [mxL_fl]; exact Nat.zero_le _))


end Go.Sx

set_option linter.unusedVariables false
set_option linter.unusedSimpArgs false
set_option maxRecDepth 20000
namespace Go.Sx
open Go.Proofs
attribute [local irreducible] Ex exOps exD opX opE thenX blkX RetQ Spec CSpec Fr condK guardK guardD ckK valK pickK loadK faK callK argK gK fK rK RetV lpX prK
set_option maxHeartbeats 4000000 in
theorem max_b (H : List (List AV)) (D : AV) (l : List Nat) (hF : FL H D l) (off rows cols ld : Int) (hI : MI l.length off rows cols ld) (hG : ¬ GoodP l.length off rows cols ld) :
    CSpec Try.prog 26 [mt D off rows cols ld] H (.tup [.flt 0, .int .i64 1]) H := by
  obtain ⟨hn, ho1, ho2, hr1, hr2, hc1, hc2, hl1, hl2⟩ := id hI
  refine .mk (fun args w => Try.call26 args w) (Spec.intro' (fn := Try.f26) Try.func26 rfl (by kernel_rfl) (by simp) false [] (draw := drawX Try.prog ⟨false, _, []⟩) dOk ?_)
  simp only [argE, Nat.reduceAdd]
  repeat' (first
    | (refine gateE ?_; (first | (refine b_c0 ?_; (first | (refine b_load (by (conv => {lhs; whnf}); done) ?_; (first | refine l_loc1 (by exact rfl) (by exact rfl) ?_ | refine l_locA (by exact rfl) (by exact rfl) ?_ | fail)) | refine b_assignF (by kernel_rfl) ?_ | refine b_assignI ?_ | refine b_assignN ?_ | refine b_assign (by (conv => {lhs; whnf}); done) ?_ | (refine b_un (by (conv => {lhs; whnf}); done) (by (conv => {lhs; whnf}); done) ?_; (first | refine v_w (by omega) ?_ | refine v_wu (by omega) ?_ | refine v_nT ?_ | refine v_nF ?_ | refine v_nP ?_ | refine v_k ?_ | refine v_c (by omega) ?_ | fail)) | refine b_callB ?_ | refine b_box (by (conv => {lhs; whnf}); done) (by exact rfl) (by exact rfl) (by exact rfl) (by exact rfl) ?_ | fail)) | refine b_nil ?_ | fail))
    | (refine gateT ?_; (first | refine b_thn ?_ | refine b_thr ?_ | refine b_the ?_ | fail))
    | (refine gateX ?_; (first | refine b_seq ?_ | refine b_region ?_ | (refine b_cond (by (conv => {lhs; whnf}); done) ?_; (first | refine c_T ?_ | refine c_F ?_ | refine c_P ?_ ?_ | refine c_B ?_ ?_ | fail)) | refine b_ret ?_ | refine b_skip ?_ | refine b_block ?_ | refine b_exit ?_ | fail))
    | refine a_cons (by (conv => {lhs; whnf}); done) ?_
    | refine a_nil ?_
    | (refine gateK ?_; (first | refine c_call (good_c _ D l.length off rows cols ld hF.len hI) (OldOk.app (by simp)) ?_ | fail))
    | (refine gateQ ?_; refine b_retK (by simp) (by (conv => {lhs; whnf}); done) ?_)
    | (refine gateR ?_; (first | refine rk_tmp (by (conv => {lhs; whnf}); done) ?_ | refine rk_cellA (by (conv => {lhs; whnf}); done) (by exact rfl) (by exact rfl) ?_ | refine rk_cell1 (by (conv => {lhs; whnf}); done) (by exact rfl) (by exact rfl) ?_ | refine rk_nil ?_ | fail))
    | intro _)
  all_goals first
    | (exfalso; contradiction)
    | (refine rv_old rfl (by simp [mx, mxL, aOf, aOf1, resOne]) ?_; exact rfl)

set_option maxHeartbeats 4000000 in
theorem max_g (H : List (List AV)) (D : AV) (l : List Nat) (hF : FL H D l) (off rows cols ld : Int) (hI : MI l.length off rows cols ld) (hG : GoodP l.length off rows cols ld) (hr : rows ≤ 1000) (hc : cols ≤ 1000) :
    CSpec Try.prog 26 [mt D off rows cols ld] H (.tup [.flt (greatF ((cmA (mel l off ld) rows.toNat cols.toNat).map absF)), .int .i64 0]) H := by
  obtain ⟨hn, ho1, ho2, hr1, hr2, hc1, hc2, hl1, hl2⟩ := id hI
  have hcl : (cmA (mel l off ld) rows.toNat cols.toNat).length ≤ 2 ^ 30 := by (rw [cmA_len]; have := Nat.mul_le_mul (show rows.toNat ≤ 1000 by omega) (show cols.toNat ≤ 1000 by omega); omega)
  refine .mk (fun args w => Try.call26 args w) (Spec.intro' (fn := Try.f26) Try.func26 rfl (by kernel_rfl) (by simp) false [] (draw := drawX Try.prog ⟨false, _, []⟩) dOk ?_)
  simp only [argE, Nat.reduceAdd]
  repeat' (first
    | (refine gateE ?_; (first | (refine b_c0 ?_; (first | (refine b_load (by (conv => {lhs; whnf}); done) ?_; (first | refine l_loc1 (by exact rfl) (by exact rfl) ?_ | refine l_locA (by exact rfl) (by exact rfl) ?_ | fail)) | refine b_assignF (by kernel_rfl) ?_ | refine b_assignI ?_ | refine b_assignN ?_ | refine b_assign (by (conv => {lhs; whnf}); done) ?_ | (refine b_un (by (conv => {lhs; whnf}); done) (by (conv => {lhs; whnf}); done) ?_; (first | refine v_w (by omega) ?_ | refine v_wu (by omega) ?_ | refine v_nT ?_ | refine v_nF ?_ | refine v_nP ?_ | refine v_k ?_ | refine v_c (by omega) ?_ | fail)) | refine b_callB ?_ | refine b_box (by (conv => {lhs; whnf}); done) (by exact rfl) (by exact rfl) (by exact rfl) (by exact rfl) ?_ | fail)) | refine b_nil ?_ | fail))
    | (refine gateT ?_; (first | refine b_thn ?_ | refine b_thr ?_ | refine b_the ?_ | fail))
    | (refine gateX ?_; (first | refine b_seq ?_ | refine b_region ?_ | (refine b_cond (by (conv => {lhs; whnf}); done) ?_; (first | refine c_T ?_ | refine c_F ?_ | refine c_P ?_ ?_ | refine c_B ?_ ?_ | fail)) | refine b_ret ?_ | refine b_skip ?_ | refine b_block ?_ | refine b_exit ?_ | fail))
    | refine a_cons (by (conv => {lhs; whnf}); done) ?_
    | refine a_nil ?_
    | (refine gateK ?_; (first | refine c_call (good_c _ D l.length off rows cols ld hF.len hI) (OldOk.app (by simp)) ?_ | refine c_call (numbers_c _ D l (FL.app hF _) off rows cols ld hI hG hr hc) (OldOk.app (by simp)) ?_ | refine c_call (without_c _ _ (cmA (mel l off ld) rows.toNat cols.toNat) (by have := FL.fz (H ++ []) none (cmA (mel l off ld) rows.toNat cols.toNat); simpa using this) hcl) (OldOk.app (by simp)) ?_ | refine c_call (great_c _ _ ((cmA (mel l off ld) rows.toNat cols.toNat).map absF) (by have := FL.fz (H ++ []) none ((cmA (mel l off ld) rows.toNat cols.toNat).map absF); simpa using this) (by rw [List.length_map]; exact hcl)) (OldOk.app (by simp)) ?_ | fail))
    | (refine gateQ ?_; refine b_retK (by simp) (by (conv => {lhs; whnf}); done) ?_)
    | (refine gateR ?_; (first | refine rk_tmp (by (conv => {lhs; whnf}); done) ?_ | refine rk_cellA (by (conv => {lhs; whnf}); done) (by exact rfl) (by exact rfl) ?_ | refine rk_cell1 (by (conv => {lhs; whnf}); done) (by exact rfl) (by exact rfl) ?_ | refine rk_nil ?_ | fail))
    | intro _)
  all_goals first
    | (exfalso; contradiction)
    | (refine rv_old rfl (by simp [mx, mxL, aOf, aOf1, resOne]) ?_; exact rfl)

set_option maxHeartbeats 4000000 in
theorem rone_c (H : List (List AV)) (A : AV) (a : List Nat) (hA : FL H A a) (r c : Nat) (ha : a.length = r * c) (hr : r ≤ 1000) (hc : c ≤ 1000) (N : Nat) (hN0 : r = 0 → N = 0) (hN1 : r ≠ 0 → N = c) :
    CSpec Try.prog 29 [mM A r c] H (.flt (greatF (rml (fun k => asumF (rml (fun i => a.getD (i * c + k) 0) r)) N))) H := by
  have hrc : r * c ≤ 1000000 := by (have := Nat.mul_le_mul hr hc; omega)
  refine .mk (fun args w => Try.call29 args w) (Spec.intro' (fn := Try.f29) Try.func29 rfl (by kernel_rfl) (by simp) false [21] (draw := drawX Try.prog ⟨false, _, [21]⟩) dOk ?_)
  simp only [argE, Nat.reduceAdd]
  repeat' (first
    | (refine gateE ?_; (first | (refine b_c0 ?_; (first | refine b_move (by (conv => {lhs; whnf}); done) ?_ | (refine b_fa (by (conv => {lhs; whnf}); done) ?_; first | refine f_loc (by (conv => {lhs; whnf}); done) ?_ | refine f_ptr (by (conv => {lhs; whnf}); done) ?_) | (refine b_load (by (conv => {lhs; whnf}); done) ?_; (first | refine l_loc1 (by exact rfl) (by exact rfl) ?_ | refine l_locA (by exact rfl) (by exact rfl) ?_ | fail)) | refine b_grow (i := 0) (N₀ := []) (by (conv => {lhs; whnf}); done) (by (conv => {lhs; whnf}); done) (by exact rfl) (by exact rfl) (by simp) (by omega) (by exact rfl) (by exact rfl) (l' := fl (rml (fun k => asumF (rml (fun i => a.getD (i * c + k) 0) r)) (k + 1))) (by exact rml_fl (fun k => asumF (rml (fun i => a.getD (i * c + k) 0) r)) k) ?_ | (refine b_bin (by (conv => {lhs; whnf}); done) (by (conv => {lhs; whnf}); done) (by (conv => {lhs; whnf}); done) ?_; (first | refine v_T (by omega) ?_ | refine v_F (by omega) ?_ | refine v_w (by omega) ?_ | refine v_wu (by omega) ?_ | refine v_k ?_ | refine v_c (by omega) ?_ | fail)) | (refine b_pick (by (conv => {lhs; whnf}); done) ?_; (first | refine p_T (by (conv => {lhs; whnf}); done) ?_ | refine p_F (by (conv => {lhs; whnf}); done) ?_ | fail)) | refine b_assignF (by kernel_rfl) ?_ | refine b_assignI ?_ | refine b_assignN ?_ | refine b_assign (by (conv => {lhs; whnf}); done) ?_ | refine b_callB ?_ | refine b_box (by (conv => {lhs; whnf}); done) (by exact rfl) (by exact rfl) (by exact rfl) (by exact rfl) ?_ | refine b_bslZ (by exact rfl) (by exact rfl) (by decide) ?_ | fail)) | refine b_nil ?_ | refine b_gT (by exact rfl) (by exact rfl) ?_ | refine b_gF (by exact rfl) (by exact rfl) (by exact rfl) ?_ | refine b_gU (by exact rfl) (by exact rfl) (by constructor <;> simp) (by exact rfl) (by exact rfl) ?_ | (refine b_g0 (by exact rfl) (by exact rfl) (by (conv => {lhs; whnf}); done) ?_; (first | refine g_TT ?_ | refine g_FF ?_ | refine g_TF ?_ | refine g_FT ?_ | refine g_PT ?_ ?_ | refine g_PF ?_ ?_ | refine g_BT ?_ ?_ | refine g_BF ?_ ?_ | fail)) | (refine b_g1 (by exact rfl) (by exact rfl) (by exact rfl) (by (conv => {lhs; whnf}); done) ?_; (first | refine g_TT ?_ | refine g_FF ?_ | refine g_TF ?_ | refine g_FT ?_ | refine g_PT ?_ ?_ | refine g_PF ?_ ?_ | refine g_BT ?_ ?_ | refine g_BF ?_ ?_ | fail)) | refine b_c1 (by exact rfl) ?_ | fail))
    | (refine gateO ?_; (first | refine b_move (by (conv => {lhs; whnf}); done) ?_ | (refine b_fa (by (conv => {lhs; whnf}); done) ?_; first | refine f_loc (by (conv => {lhs; whnf}); done) ?_ | refine f_ptr (by (conv => {lhs; whnf}); done) ?_) | (refine b_load (by (conv => {lhs; whnf}); done) ?_; (first | refine l_loc1 (by exact rfl) (by exact rfl) ?_ | refine l_locA (by exact rfl) (by exact rfl) ?_ | fail)) | refine b_grow (i := 0) (N₀ := []) (by (conv => {lhs; whnf}); done) (by (conv => {lhs; whnf}); done) (by exact rfl) (by exact rfl) (by simp) (by omega) (by exact rfl) (by exact rfl) (l' := fl (rml (fun k => asumF (rml (fun i => a.getD (i * c + k) 0) r)) (k + 1))) (by exact rml_fl (fun k => asumF (rml (fun i => a.getD (i * c + k) 0) r)) k) ?_ | (refine b_bin (by (conv => {lhs; whnf}); done) (by (conv => {lhs; whnf}); done) (by (conv => {lhs; whnf}); done) ?_; (first | refine v_T (by omega) ?_ | refine v_F (by omega) ?_ | refine v_w (by omega) ?_ | refine v_wu (by omega) ?_ | refine v_k ?_ | refine v_c (by omega) ?_ | fail)) | (refine b_pick (by (conv => {lhs; whnf}); done) ?_; (first | refine p_T (by (conv => {lhs; whnf}); done) ?_ | refine p_F (by (conv => {lhs; whnf}); done) ?_ | fail)) | refine b_assignF (by kernel_rfl) ?_ | refine b_assignI ?_ | refine b_assignN ?_ | refine b_assign (by (conv => {lhs; whnf}); done) ?_ | refine b_callB ?_ | refine b_box (by (conv => {lhs; whnf}); done) (by exact rfl) (by exact rfl) (by exact rfl) (by exact rfl) ?_ | refine b_bslZ (by exact rfl) (by exact rfl) (by decide) ?_ | fail))
    | (refine gateT ?_; (first | refine b_thn ?_ | refine b_thr ?_ | refine b_the ?_ | fail))
    | (refine gateX ?_; (first | refine b_seq ?_ | refine b_region ?_ | (refine b_cond (by (conv => {lhs; whnf}); done) ?_; (first | refine c_T ?_ | refine c_F ?_ | refine c_P ?_ ?_ | refine c_B ?_ ?_ | fail)) | refine b_ret ?_ | refine b_skip ?_ | refine b_block ?_ | refine b_exit ?_ | (refine b_loop [4, 1, 3, 2] N (fun k => ⟨[(4, .val (.int .i64 (k : Int))), (1, .loc 1 0), (3, .val (gV H.length 0 k)), (2, .val (.flt 0))], [(1, [.int .i64 (r : Int), .int .i64 (c : Int), A])], H ++ ([] ++ gN (fl (rml (fun k => asumF (rml (fun i => a.getD (i * c + k) 0) r)) k)))⟩) (by exact rfl) ?_ ?_ <;> (first | intro k hk K hK | intro K) <;> (try dsimp only at *) <;> (try simp only [Int.natCast_add, Int.natCast_one] at *)) | fail))
    | refine a_cons (by (conv => {lhs; whnf}); done) ?_
    | refine a_nil ?_
    | (refine gateK ?_; (first | refine c_call (tcol_c _ A a (FL.app hA _) r c ha hr hc k (by omega)) (OldOk.app (by simp)) ?_ | refine c_call (rasum_c _ _ (rml (fun i => a.getD (i * c + k) 0) r) (by have := FL.fz (H ++ ([] ++ gN (fl (rml (fun k => asumF (rml (fun i => a.getD (i * c + k) 0) r)) k)))) none (rml (fun i => a.getD (i * c + k) 0) r); simpa using this) (by simp; omega)) (OldOk.app (by simp)) ?_ | refine c_call (rgreat_c _ _ (rml (fun k => asumF (rml (fun i => a.getD (i * c + k) 0) r)) N) (by have := @gV_FL H.length 0 (rml (fun k => asumF (rml (fun i => a.getD (i * c + k) 0) r)) N) H [] (by exact rfl) rfl; simpa using this) (by simp; omega)) (OldOk.app (by simp)) ?_ | fail))
    | refine gk_consF (by kernel_rfl) ?_
    | refine gk_cons (by (conv => {lhs; whnf}); done) ?_
    | (refine gk_nilN (by (conv => {lhs; simp only [List.nil_append, List.cons_append]}); done) ?_; first | refine ⟨by exact rfl, ?_⟩ | skip)
    | refine gk_nil ?_
    | (intro N' hN'; simp only [List.nil_append, List.cons_append] at hN'; subst hN')
    | (refine gateB ?_; (first | refine b_bln ?_ | refine b_blr ?_ | refine b_ble ?_ | refine b_blo (by exact rfl) ?_ | fail))
    | (refine gateL ?_; (first | refine lp_n ?_ | refine lp_r ?_ | refine lp_e ?_ | fail))
    | (refine pr_k (by exact rfl) ?_; first | exact hK | fail | (exfalso; first | omega | (simp_all; done) | (simp_all; omega)))
    | (refine gateQ ?_; refine b_retK (by simp) (by (conv => {lhs; whnf}); done) ?_)
    | (refine gateR ?_; (first | refine rk_tmp (by (conv => {lhs; whnf}); done) ?_ | refine rk_cellA (by (conv => {lhs; whnf}); done) (by exact rfl) (by exact rfl) ?_ | refine rk_cell1 (by (conv => {lhs; whnf}); done) (by exact rfl) (by exact rfl) ?_ | refine rk_nil ?_ | fail))
    | intro _)
  all_goals first | refine rv_old rfl (by simp [mx, mxL, aOf, aOf1, resOne]) ?_ | (trace_state; fail)
  all_goals exact rfl

set_option maxHeartbeats 4000000 in
theorem rinf_c (H : List (List AV)) (A : AV) (a : List Nat) (hA : FL H A a) (r c : Nat) (ha : a.length = r * c) (hr : r ≤ 1000) (hc : c ≤ 1000) (N : Nat) (hN0 : c = 0 → N = 0) (hN1 : c ≠ 0 → N = r) :
    CSpec Try.prog 30 [mM A r c] H (.flt (greatF (rml (fun k => asumF (rml (fun i => a.getD (k * c + i) 0) c)) N))) H := by
  have hrc : r * c ≤ 1000000 := by (have := Nat.mul_le_mul hr hc; omega)
  refine .mk (fun args w => Try.call30 args w) (Spec.intro' (fn := Try.f30) Try.func30 rfl (by kernel_rfl) (by simp) false [21] (draw := drawX Try.prog ⟨false, _, [21]⟩) dOk ?_)
  simp only [argE, Nat.reduceAdd]
  repeat' (first
    | (refine gateE ?_; (first | (refine b_c0 ?_; (first | refine b_move (by (conv => {lhs; whnf}); done) ?_ | (refine b_fa (by (conv => {lhs; whnf}); done) ?_; first | refine f_loc (by (conv => {lhs; whnf}); done) ?_ | refine f_ptr (by (conv => {lhs; whnf}); done) ?_) | (refine b_load (by (conv => {lhs; whnf}); done) ?_; (first | refine l_loc1 (by exact rfl) (by exact rfl) ?_ | refine l_locA (by exact rfl) (by exact rfl) ?_ | fail)) | refine b_grow (i := 0) (N₀ := []) (by (conv => {lhs; whnf}); done) (by (conv => {lhs; whnf}); done) (by exact rfl) (by exact rfl) (by simp) (by omega) (by exact rfl) (by exact rfl) (l' := fl (rml (fun k => asumF (rml (fun i => a.getD (k * c + i) 0) c)) (k + 1))) (by exact rml_fl (fun k => asumF (rml (fun i => a.getD (k * c + i) 0) c)) k) ?_ | (refine b_bin (by (conv => {lhs; whnf}); done) (by (conv => {lhs; whnf}); done) (by (conv => {lhs; whnf}); done) ?_; (first | refine v_T (by omega) ?_ | refine v_F (by omega) ?_ | refine v_w (by omega) ?_ | refine v_wu (by omega) ?_ | refine v_k ?_ | refine v_c (by omega) ?_ | fail)) | (refine b_pick (by (conv => {lhs; whnf}); done) ?_; (first | refine p_T (by (conv => {lhs; whnf}); done) ?_ | refine p_F (by (conv => {lhs; whnf}); done) ?_ | fail)) | refine b_assignF (by kernel_rfl) ?_ | refine b_assignI ?_ | refine b_assignN ?_ | refine b_assign (by (conv => {lhs; whnf}); done) ?_ | refine b_callB ?_ | refine b_box (by (conv => {lhs; whnf}); done) (by exact rfl) (by exact rfl) (by exact rfl) (by exact rfl) ?_ | refine b_bslZ (by exact rfl) (by exact rfl) (by decide) ?_ | fail)) | refine b_nil ?_ | refine b_gT (by exact rfl) (by exact rfl) ?_ | refine b_gF (by exact rfl) (by exact rfl) (by exact rfl) ?_ | refine b_gU (by exact rfl) (by exact rfl) (by constructor <;> simp) (by exact rfl) (by exact rfl) ?_ | (refine b_g0 (by exact rfl) (by exact rfl) (by (conv => {lhs; whnf}); done) ?_; (first | refine g_TT ?_ | refine g_FF ?_ | refine g_TF ?_ | refine g_FT ?_ | refine g_PT ?_ ?_ | refine g_PF ?_ ?_ | refine g_BT ?_ ?_ | refine g_BF ?_ ?_ | fail)) | (refine b_g1 (by exact rfl) (by exact rfl) (by exact rfl) (by (conv => {lhs; whnf}); done) ?_; (first | refine g_TT ?_ | refine g_FF ?_ | refine g_TF ?_ | refine g_FT ?_ | refine g_PT ?_ ?_ | refine g_PF ?_ ?_ | refine g_BT ?_ ?_ | refine g_BF ?_ ?_ | fail)) | refine b_c1 (by exact rfl) ?_ | fail))
    | (refine gateO ?_; (first | refine b_move (by (conv => {lhs; whnf}); done) ?_ | (refine b_fa (by (conv => {lhs; whnf}); done) ?_; first | refine f_loc (by (conv => {lhs; whnf}); done) ?_ | refine f_ptr (by (conv => {lhs; whnf}); done) ?_) | (refine b_load (by (conv => {lhs; whnf}); done) ?_; (first | refine l_loc1 (by exact rfl) (by exact rfl) ?_ | refine l_locA (by exact rfl) (by exact rfl) ?_ | fail)) | refine b_grow (i := 0) (N₀ := []) (by (conv => {lhs; whnf}); done) (by (conv => {lhs; whnf}); done) (by exact rfl) (by exact rfl) (by simp) (by omega) (by exact rfl) (by exact rfl) (l' := fl (rml (fun k => asumF (rml (fun i => a.getD (k * c + i) 0) c)) (k + 1))) (by exact rml_fl (fun k => asumF (rml (fun i => a.getD (k * c + i) 0) c)) k) ?_ | (refine b_bin (by (conv => {lhs; whnf}); done) (by (conv => {lhs; whnf}); done) (by (conv => {lhs; whnf}); done) ?_; (first | refine v_T (by omega) ?_ | refine v_F (by omega) ?_ | refine v_w (by omega) ?_ | refine v_wu (by omega) ?_ | refine v_k ?_ | refine v_c (by omega) ?_ | fail)) | (refine b_pick (by (conv => {lhs; whnf}); done) ?_; (first | refine p_T (by (conv => {lhs; whnf}); done) ?_ | refine p_F (by (conv => {lhs; whnf}); done) ?_ | fail)) | refine b_assignF (by kernel_rfl) ?_ | refine b_assignI ?_ | refine b_assignN ?_ | refine b_assign (by (conv => {lhs; whnf}); done) ?_ | refine b_callB ?_ | refine b_box (by (conv => {lhs; whnf}); done) (by exact rfl) (by exact rfl) (by exact rfl) (by exact rfl) ?_ | refine b_bslZ (by exact rfl) (by exact rfl) (by decide) ?_ | fail))
    | (refine gateT ?_; (first | refine b_thn ?_ | refine b_thr ?_ | refine b_the ?_ | fail))
    | (refine gateX ?_; (first | refine b_seq ?_ | refine b_region ?_ | (refine b_cond (by (conv => {lhs; whnf}); done) ?_; (first | refine c_T ?_ | refine c_F ?_ | refine c_P ?_ ?_ | refine c_B ?_ ?_ | fail)) | refine b_ret ?_ | refine b_skip ?_ | refine b_block ?_ | refine b_exit ?_ | (refine b_loop [4, 1, 3, 2] N (fun k => ⟨[(4, .val (.int .i64 (k : Int))), (1, .loc 1 0), (3, .val (gV H.length 0 k)), (2, .val (.flt 0))], [(1, [.int .i64 (r : Int), .int .i64 (c : Int), A])], H ++ ([] ++ gN (fl (rml (fun k => asumF (rml (fun i => a.getD (k * c + i) 0) c)) k)))⟩) (by exact rfl) ?_ ?_ <;> (first | intro k hk K hK | intro K) <;> (try dsimp only at *) <;> (try simp only [Int.natCast_add, Int.natCast_one] at *)) | fail))
    | refine a_cons (by (conv => {lhs; whnf}); done) ?_
    | refine a_nil ?_
    | (refine gateK ?_; (first | refine c_call (trow_c _ A a (FL.app hA _) r c ha hr hc k (by omega)) (OldOk.app (by simp)) ?_ | refine c_call (rasum_c _ _ (rml (fun i => a.getD (k * c + i) 0) c) (by have := FL.fz (H ++ ([] ++ gN (fl (rml (fun k => asumF (rml (fun i => a.getD (k * c + i) 0) c)) k)))) none (rml (fun i => a.getD (k * c + i) 0) c); simpa using this) (by simp; omega)) (OldOk.app (by simp)) ?_ | refine c_call (rgreat_c _ _ (rml (fun k => asumF (rml (fun i => a.getD (k * c + i) 0) c)) N) (by have := @gV_FL H.length 0 (rml (fun k => asumF (rml (fun i => a.getD (k * c + i) 0) c)) N) H [] (by exact rfl) rfl; simpa using this) (by simp; omega)) (OldOk.app (by simp)) ?_ | fail))
    | refine gk_consF (by kernel_rfl) ?_
    | refine gk_cons (by (conv => {lhs; whnf}); done) ?_
    | (refine gk_nilN (by (conv => {lhs; simp only [List.nil_append, List.cons_append]}); done) ?_; first | refine ⟨by exact rfl, ?_⟩ | skip)
    | refine gk_nil ?_
    | (intro N' hN'; simp only [List.nil_append, List.cons_append] at hN'; subst hN')
    | (refine gateB ?_; (first | refine b_bln ?_ | refine b_blr ?_ | refine b_ble ?_ | refine b_blo (by exact rfl) ?_ | fail))
    | (refine gateL ?_; (first | refine lp_n ?_ | refine lp_r ?_ | refine lp_e ?_ | fail))
    | (refine pr_k (by exact rfl) ?_; first | exact hK | fail | (exfalso; first | omega | (simp_all; done) | (simp_all; omega)))
    | (refine gateQ ?_; refine b_retK (by simp) (by (conv => {lhs; whnf}); done) ?_)
    | (refine gateR ?_; (first | refine rk_tmp (by (conv => {lhs; whnf}); done) ?_ | refine rk_cellA (by (conv => {lhs; whnf}); done) (by exact rfl) (by exact rfl) ?_ | refine rk_cell1 (by (conv => {lhs; whnf}); done) (by exact rfl) (by exact rfl) ?_ | refine rk_nil ?_ | fail))
    | intro _)
  all_goals first | refine rv_old rfl (by simp [mx, mxL, aOf, aOf1, resOne]) ?_ | (trace_state; fail)
  all_goals exact rfl

set_option maxHeartbeats 4000000 in
theorem rmax_c (H : List (List AV)) (A : AV) (a : List Nat) (hA : FL H A a) (r c : Nat) (ha : a.length = r * c) (hr : r ≤ 1000) (hc : c ≤ 1000) :
    CSpec Try.prog 31 [mM A r c] H (.flt (greatF (a.map absF))) H := by
  have hrc : r * c ≤ 1000000 := by (have := Nat.mul_le_mul hr hc; omega)
  refine .mk (fun args w => Try.call31 args w) (Spec.intro' (fn := Try.f31) Try.func31 rfl (by kernel_rfl) (by simp) false [] (draw := drawX Try.prog ⟨false, _, []⟩) dOk ?_)
  simp only [argE, Nat.reduceAdd]
  repeat' (first
    | (refine gateE ?_; (first | (refine b_c0 ?_; (first | (refine b_fa (by (conv => {lhs; whnf}); done) ?_; first | refine f_loc (by (conv => {lhs; whnf}); done) ?_ | refine f_ptr (by (conv => {lhs; whnf}); done) ?_) | (refine b_load (by (conv => {lhs; whnf}); done) ?_; (first | refine l_loc1 (by exact rfl) (by exact rfl) ?_ | refine l_locA (by exact rfl) (by exact rfl) ?_ | fail)) | refine b_assignF (by kernel_rfl) ?_ | refine b_assignI ?_ | refine b_assignN ?_ | refine b_assign (by (conv => {lhs; whnf}); done) ?_ | refine b_callB ?_ | refine b_box (by (conv => {lhs; whnf}); done) (by exact rfl) (by exact rfl) (by exact rfl) (by exact rfl) ?_ | fail)) | refine b_nil ?_ | fail))
    | (refine gateT ?_; (first | refine b_thn ?_ | refine b_thr ?_ | refine b_the ?_ | fail))
    | (refine gateX ?_; (first | refine b_seq ?_ | refine b_region ?_ | (refine b_cond (by (conv => {lhs; whnf}); done) ?_; (first | refine c_T ?_ | refine c_F ?_ | refine c_P ?_ ?_ | refine c_B ?_ ?_ | fail)) | refine b_ret ?_ | refine b_skip ?_ | refine b_block ?_ | refine b_exit ?_ | fail))
    | refine a_cons (by (conv => {lhs; whnf}); done) ?_
    | refine a_nil ?_
    | (refine gateK ?_; (first | refine c_call (rmost_c _ A a (FL.app hA _) (by omega)) (OldOk.app (by simp)) ?_ | fail))
    | (refine gateQ ?_; refine b_retK (by simp) (by (conv => {lhs; whnf}); done) ?_)
    | (refine gateR ?_; (first | refine rk_tmp (by (conv => {lhs; whnf}); done) ?_ | refine rk_cellA (by (conv => {lhs; whnf}); done) (by exact rfl) (by exact rfl) ?_ | refine rk_cell1 (by (conv => {lhs; whnf}); done) (by exact rfl) (by exact rfl) ?_ | refine rk_nil ?_ | fail))
    | intro _)
  all_goals first | refine rv_old rfl (by simp [mx, mxL, aOf, aOf1, resOne]) ?_ | (trace_state; fail)
  all_goals exact rfl


theorem rone_m (H : List (List AV)) (A : AV) (g : Nat → Nat → Nat) (r c : Nat) (hA : FL H A (rmA g r c)) (hr : r ≤ 1000) (hc : c ≤ 1000) : CSpec Try.prog 29 [mM A r c] H (.flt (oneF g r c)) H := by
  have h := rone_c H A (rmA g r c) hA r c (by simp) hr hc (if r = 0 then 0 else c) (fun h => by simp [h]) (fun h => by simp [h])
  have e : greatF (rml (fun k => asumF (rml (fun i => (rmA g r c).getD (i * c + k) 0) r)) (if r = 0 then 0 else c)) = oneF g r c := by
    unfold oneF
    by_cases h0 : r = 0 ∨ c = 0
    · rw [if_pos h0]
      have : (if r = 0 then 0 else c) = 0 := by rcases h0 with h0 | h0 <;> simp [h0]
      rw [this]; rfl
    · rw [if_neg h0, if_neg (by omega)]
      congr 1
      refine rml_congr fun k hk => ?_
      congr 1
      exact rml_congr fun i hi => rmA_get hi hk
  rwa [e] at h
theorem rinf_m (H : List (List AV)) (A : AV) (g : Nat → Nat → Nat) (r c : Nat) (hA : FL H A (rmA g r c)) (hr : r ≤ 1000) (hc : c ≤ 1000) : CSpec Try.prog 30 [mM A r c] H (.flt (infF g r c)) H := by
  have h := rinf_c H A (rmA g r c) hA r c (by simp) hr hc (if c = 0 then 0 else r) (fun h => by simp [h]) (fun h => by simp [h])
  have e : greatF (rml (fun k => asumF (rml (fun i => (rmA g r c).getD (k * c + i) 0) c)) (if c = 0 then 0 else r)) = infF g r c := by
    unfold infF
    by_cases h0 : r = 0 ∨ c = 0
    · rw [if_pos h0]
      have : (if c = 0 then 0 else r) = 0 := by rcases h0 with h0 | h0 <;> simp [h0]
      rw [this]; rfl
    · rw [if_neg h0, if_neg (by omega)]
      congr 1
      refine rml_congr fun k hk => ?_
      congr 1
      exact rml_congr fun i hi => rmA_get hk hi
  rwa [e] at h

end Go.Sx

set_option linter.unusedVariables false
set_option linter.unusedSimpArgs false
set_option maxRecDepth 20000
namespace Go.Sx
open Go.Proofs
attribute [local irreducible] Ex exOps exD opX opE thenX blkX RetQ Spec CSpec Fr condK guardK guardD ckK valK pickK loadK faK callK argK gK fK rK RetV lpX prK
set_option maxHeartbeats 4000000 in
theorem awake10_c (H : List (List AV)) :
    CSpec Try.prog 22 [] H (.bool true) H := by
  refine .mk (fun args w => Try.call22 args w) (Spec.intro' (fn := Try.f22) Try.func22 rfl (by kernel_rfl) (by simp) false [17] (draw := drawX Try.prog ⟨false, _, [17]⟩) dOk ?_)
  simp only [argE, Nat.reduceAdd]
  repeat' (first
    | (refine gateE ?_; (first | (refine b_c0 ?_; (first | refine b_move (by (conv => {lhs; whnf}); done) ?_ | (refine b_load (by (conv => {lhs; whnf}); done) ?_; (first | refine l_loc1 (by exact rfl) (by exact rfl) ?_ | refine l_locA (by exact rfl) (by exact rfl) ?_ | fail)) | (refine b_binB (by first | (conv => {lhs; whnf}; done) | exact (by exact rfl) | fail) (by first | (conv => {lhs; whnf}; done) | exact (by exact rfl) | fail) ?_; (first | refine v_feT (by kernel_rfl) ?_ | refine v_bbT (by exact rfl) ?_ | refine v_k ?_ | fail)) | (refine b_bin (by (conv => {lhs; whnf}); done) (by (conv => {lhs; whnf}); done) (by (conv => {lhs; whnf}); done) ?_; (first | refine v_feT (by kernel_rfl) ?_ | refine v_eT (by omega) ?_ | refine v_eF (by omega) ?_ | refine v_eP ?_ | refine v_neT (by omega) ?_ | refine v_neF (by omega) ?_ | refine v_neP ?_ | refine v_w (by omega) ?_ | refine v_wu (by omega) ?_ | refine v_k ?_ | refine v_c (by omega) ?_ | fail)) | (refine b_pick (by (conv => {lhs; whnf}); done) ?_; (first | refine p_T (by (conv => {lhs; whnf}); done) ?_ | refine p_F (by (conv => {lhs; whnf}); done) ?_ | fail)) | refine b_assignF (by kernel_rfl) ?_ | refine b_assignI ?_ | refine b_assignN ?_ | refine b_assign (by (conv => {lhs; whnf}); done) ?_ | refine b_callB ?_ | refine b_ext (by (conv => {lhs; whnf}); done) (by exact rfl) ?_ | refine b_stL (by (conv => {lhs; whnf}); done) (by (conv => {lhs; whnf}); done) (by first | exact (by exact rfl) | exact cells_of_len hF.len | fail) (by exact rfl) (by exact rfl) (by exact Nat.le_of_ble_eq_true rfl) (by (conv => {lhs; simp only [sc, List.set_cons_zero, List.set_cons_succ]}); done) ?_ | refine b_alloc (by exact rfl) (by exact rfl) ?_ | refine b_build ?_ | refine b_bslZ (by exact rfl) (by exact rfl) (by decide) ?_ | fail)) | refine b_nil ?_ | refine b_gT (by exact rfl) (by exact rfl) ?_ | refine b_gF (by exact rfl) (by exact rfl) (by exact rfl) ?_ | refine b_gU (by exact rfl) (by exact rfl) (by constructor <;> simp) (by exact rfl) (by exact rfl) ?_ | (refine b_g0 (by exact rfl) (by exact rfl) (by (conv => {lhs; whnf}); done) ?_; (first | refine g_TT ?_ | refine g_FF ?_ | refine g_TF ?_ | refine g_FT ?_ | refine g_PT ?_ ?_ | refine g_PF ?_ ?_ | refine g_BT ?_ ?_ | refine g_BF ?_ ?_ | fail)) | (refine b_g1 (by exact rfl) (by exact rfl) (by exact rfl) (by (conv => {lhs; whnf}); done) ?_; (first | refine g_TT ?_ | refine g_FF ?_ | refine g_TF ?_ | refine g_FT ?_ | refine g_PT ?_ ?_ | refine g_PF ?_ ?_ | refine g_BT ?_ ?_ | refine g_BF ?_ ?_ | fail)) | refine b_c1 (by exact rfl) ?_ | fail))
    | (refine gateO ?_; (first | refine b_move (by (conv => {lhs; whnf}); done) ?_ | (refine b_load (by (conv => {lhs; whnf}); done) ?_; (first | refine l_loc1 (by exact rfl) (by exact rfl) ?_ | refine l_locA (by exact rfl) (by exact rfl) ?_ | fail)) | (refine b_binB (by first | (conv => {lhs; whnf}; done) | exact (by exact rfl) | fail) (by first | (conv => {lhs; whnf}; done) | exact (by exact rfl) | fail) ?_; (first | refine v_feT (by kernel_rfl) ?_ | refine v_bbT (by exact rfl) ?_ | refine v_k ?_ | fail)) | (refine b_bin (by (conv => {lhs; whnf}); done) (by (conv => {lhs; whnf}); done) (by (conv => {lhs; whnf}); done) ?_; (first | refine v_feT (by kernel_rfl) ?_ | refine v_eT (by omega) ?_ | refine v_eF (by omega) ?_ | refine v_eP ?_ | refine v_neT (by omega) ?_ | refine v_neF (by omega) ?_ | refine v_neP ?_ | refine v_w (by omega) ?_ | refine v_wu (by omega) ?_ | refine v_k ?_ | refine v_c (by omega) ?_ | fail)) | (refine b_pick (by (conv => {lhs; whnf}); done) ?_; (first | refine p_T (by (conv => {lhs; whnf}); done) ?_ | refine p_F (by (conv => {lhs; whnf}); done) ?_ | fail)) | refine b_assignF (by kernel_rfl) ?_ | refine b_assignI ?_ | refine b_assignN ?_ | refine b_assign (by (conv => {lhs; whnf}); done) ?_ | refine b_callB ?_ | refine b_ext (by (conv => {lhs; whnf}); done) (by exact rfl) ?_ | refine b_stL (by (conv => {lhs; whnf}); done) (by (conv => {lhs; whnf}); done) (by first | exact (by exact rfl) | exact cells_of_len hF.len | fail) (by exact rfl) (by exact rfl) (by exact Nat.le_of_ble_eq_true rfl) (by (conv => {lhs; simp only [sc, List.set_cons_zero, List.set_cons_succ]}); done) ?_ | refine b_alloc (by exact rfl) (by exact rfl) ?_ | refine b_build ?_ | refine b_bslZ (by exact rfl) (by exact rfl) (by decide) ?_ | fail))
    | (refine gateT ?_; (first | refine b_thn ?_ | refine b_thr ?_ | refine b_the ?_ | fail))
    | (refine gateX ?_; (first | refine b_seq ?_ | refine b_region ?_ | (refine b_cond (by (conv => {lhs; whnf}); done) ?_; (first | refine c_T ?_ | refine c_F ?_ | refine c_P ?_ ?_ | refine c_B ?_ ?_ | fail)) | refine b_ret ?_ | refine b_skip ?_ | refine b_block ?_ | refine b_exit ?_ | fail))
    | refine a_consF (by kernel_rfl) ?_
    | refine a_consI ?_
    | refine a_cons (by (conv => {lhs; whnf}); done) ?_
    | refine a_nil ?_
    | (refine gateK ?_; (first | refine c_call (one_b _ .slnil [] (FL.nil _) 0 0 0 0 zero_MI zero_bad) (OldOk.app (by simp)) ?_ | refine c_call (dense_k _ _ 2 2 (by decide) (by decide) _ _ (FL.fz _ none [4607182418800017408, 13835058055282163712, 4613937818241073152, 4616189618054758400]) (by decide) _ (by (conv => {lhs; simp only [List.length_append, List.length_cons, List.length_nil, List.length_set, Nat.reduceAdd, Nat.zero_add]}); done) (by (conv => {lhs; simp only [List.append_assoc, List.cons_append, List.nil_append]}); done)) (OldOk.app (by simp)) ?_ | refine c_call (one_g _ _ (denseL 2 2 [4607182418800017408, 13835058055282163712, 4613937818241073152, 4616189618054758400]) (FL.blk (by exact rfl) (by exact rfl) (by simp) (by simp)) 0 _ _ _ (dense_MI 2 2 (by decide) (by decide) _) (dense_good 2 2 _) (by decide)) (OldOk.app (by simp)) ?_ | refine c_call (inf_g _ _ (denseL 2 2 [4607182418800017408, 13835058055282163712, 4613937818241073152, 4616189618054758400]) (FL.blk (by exact rfl) (by exact rfl) (by simp) (by simp)) 0 _ _ _ (dense_MI 2 2 (by decide) (by decide) _) (dense_good 2 2 _) (by decide)) (OldOk.app (by simp)) ?_ | refine c_call (max_g _ _ (denseL 2 2 [4607182418800017408, 13835058055282163712, 4613937818241073152, 4616189618054758400]) (FL.blk (by exact rfl) (by exact rfl) (by simp) (by simp)) 0 _ _ _ (dense_MI 2 2 (by decide) (by decide) _) (dense_good 2 2 _) (by decide) (by decide)) (OldOk.app (by simp)) ?_ | fail))
    | refine fk_cons (by (conv => {lhs; whnf}); done) (by first | exact (by exact rfl) | exact cells_of_len hF.len | fail) (by exact rfl) (by exact rfl) (by (conv => {lhs; simp only [sc, List.set_cons_zero, List.set_cons_succ]}); done) ?_
    | refine fk_nil ?_
    | refine gk_consF (by kernel_rfl) ?_
    | refine gk_cons (by (conv => {lhs; whnf}); done) ?_
    | (refine gk_nilN (by (conv => {lhs; simp only [List.nil_append, List.cons_append]}); done) ?_; first | refine ⟨by exact rfl, ?_⟩ | skip)
    | refine gk_nil ?_
    | (intro N' hN'; simp only [List.nil_append, List.cons_append] at hN'; subst hN')
    | (refine gateQ ?_; refine b_retK (by simp) (by (conv => {lhs; whnf}); done) ?_)
    | (refine gateR ?_; (first | refine rk_tmp (by (conv => {lhs; whnf}); done) ?_ | refine rk_cellA (by (conv => {lhs; whnf}); done) (by exact rfl) (by exact rfl) ?_ | refine rk_cell1 (by (conv => {lhs; whnf}); done) (by exact rfl) (by exact rfl) ?_ | refine rk_nil ?_ | fail))
    | intro _)
  all_goals first | refine rv_old rfl (by simp [mx, mxL, aOf, aOf1, resOne]) ?_ | (trace_state; fail)
  all_goals exact rfl


end Go.Sx
