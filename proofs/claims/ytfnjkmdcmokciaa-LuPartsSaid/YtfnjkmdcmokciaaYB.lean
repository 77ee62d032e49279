/- A part of the proofs of this seat: YB. No condition is set. -/
import Derived.Test.YtfnjkmdcmokciaaXF
import Derived.Test.YtfnjkmdcmokciaaYA
set_option linter.unusedVariables false
set_option linter.unusedSimpArgs false
set_option maxRecDepth 20000
namespace Go.Sx
open Go.Proofs
attribute [local irreducible] Ex exOps exD opX opE thenX blkX RetQ Spec CSpec Fr condK guardK guardD ckK valK pickK loadK faK callK argK gK fK rK RetV lpX prK
set_option maxHeartbeats 4000000 in
theorem of_c (H : List (List AV)) (D : AV) (l : List Nat) (hF : FL H D l) (off rows cols ld : Int) (hI : MI l.length off rows cols ld) (hG : GoodP l.length off rows cols ld) (hr : rows ≤ 1000) (hc : cols ≤ 1000) :
    CSpec Try.prog 27 [mt D off rows cols ld] H (mM (.sl none (rows.toNat * cols.toNat) (fl (rmA (mel l off ld) rows.toNat cols.toNat))) rows cols) H := by
  obtain ⟨r, rfl⟩ : ∃ r : Nat, rows = (r : Int) := ⟨rows.toNat, by have := hG.1; omega⟩
  obtain ⟨c, rfl⟩ : ∃ c : Nat, cols = (c : Int) := ⟨cols.toNat, by have := hG.2.1; omega⟩
  simp only [Int.toNat_natCast]
  obtain ⟨hn, ho1, ho2, hr1, hr2, hc1, hc2, hl1, hl2⟩ := id hI
  have hrc : r * c ≤ 1000000 := by (have := Nat.mul_le_mul (show r ≤ 1000 by omega) (show c ≤ 1000 by omega); omega)
  refine .mk (fun args w => Try.call27 args w) (Spec.intro' (fn := Try.f27) Try.func27 rfl (by kernel_rfl) (by simp) false [] (draw := drawX Try.prog ⟨false, _, []⟩) dOk ?_)
  simp only [argE, Nat.reduceAdd]
  repeat' (first
    | (refine gateE ?_; (first | (refine b_c0 ?_; (first | refine b_move (by (conv => {lhs; whnf}); done) ?_ | (refine b_fa (by (conv => {lhs; whnf}); done) ?_; first | refine f_loc (by (conv => {lhs; whnf}); done) ?_ | refine f_ptr (by (conv => {lhs; whnf}); done) ?_) | (refine b_load (by (conv => {lhs; whnf}); done) ?_; (first | refine l_loc1 (by exact rfl) (by exact rfl) ?_ | refine l_locA (by exact rfl) (by exact rfl) ?_ | refine l_FL (FL.app hF _) (by first | omega | (have hp := good_place hG (i := (k : Int)) (j := (j : Int)) (by omega) (by omega) (by omega) (by omega); omega) | fail) ?_ | fail)) | refine b_iaF (by (conv => {lhs; whnf}); done) (by (conv => {lhs; whnf}); done) (by exact hF.len) (by first | omega | (have hp := good_place hG (i := (k : Int)) (j := (j : Int)) (by omega) (by omega) (by omega) (by omega); omega) | fail) ?_ | (refine b_bin (by (conv => {lhs; whnf}); done) (by (conv => {lhs; whnf}); done) (by (conv => {lhs; whnf}); done) ?_; (first | refine v_w (by first | omega | (have hp := good_place hG (i := (k : Int)) (j := (j : Int)) (by omega) (by omega) (by omega) (by omega); omega) | fail) ?_ | refine v_T (by omega) ?_ | refine v_F (by omega) ?_ | refine v_w (by omega) ?_ | refine v_wu (by omega) ?_ | refine v_k ?_ | refine v_c (by omega) ?_ | fail)) | refine b_assignF (by kernel_rfl) ?_ | refine b_assignI ?_ | refine b_assignN ?_ | refine b_assign (by (conv => {lhs; whnf}); done) ?_ | refine b_callB ?_ | refine b_stL (by (conv => {lhs; whnf}); done) (by (conv => {lhs; whnf}); done) (by first | exact (by exact rfl) | exact cells_of_len hF.len | fail) (by exact rfl) (by exact rfl) (by exact Nat.le_of_ble_eq_true rfl) (by (conv => {lhs; simp only [sc, List.set_cons_zero, List.set_cons_succ]}); done) ?_ | refine b_box (by (conv => {lhs; whnf}); done) (by exact rfl) (by exact rfl) (by exact rfl) (by exact rfl) ?_ | refine b_alloc (by exact rfl) (by exact rfl) ?_ | fail)) | refine b_nil ?_ | fail))
    | (refine gateO ?_; (first | refine b_move (by (conv => {lhs; whnf}); done) ?_ | (refine b_fa (by (conv => {lhs; whnf}); done) ?_; first | refine f_loc (by (conv => {lhs; whnf}); done) ?_ | refine f_ptr (by (conv => {lhs; whnf}); done) ?_) | (refine b_load (by (conv => {lhs; whnf}); done) ?_; (first | refine l_loc1 (by exact rfl) (by exact rfl) ?_ | refine l_locA (by exact rfl) (by exact rfl) ?_ | refine l_FL (FL.app hF _) (by first | omega | (have hp := good_place hG (i := (k : Int)) (j := (j : Int)) (by omega) (by omega) (by omega) (by omega); omega) | fail) ?_ | fail)) | refine b_iaF (by (conv => {lhs; whnf}); done) (by (conv => {lhs; whnf}); done) (by exact hF.len) (by first | omega | (have hp := good_place hG (i := (k : Int)) (j := (j : Int)) (by omega) (by omega) (by omega) (by omega); omega) | fail) ?_ | (refine b_bin (by (conv => {lhs; whnf}); done) (by (conv => {lhs; whnf}); done) (by (conv => {lhs; whnf}); done) ?_; (first | refine v_w (by first | omega | (have hp := good_place hG (i := (k : Int)) (j := (j : Int)) (by omega) (by omega) (by omega) (by omega); omega) | fail) ?_ | refine v_T (by omega) ?_ | refine v_F (by omega) ?_ | refine v_w (by omega) ?_ | refine v_wu (by omega) ?_ | refine v_k ?_ | refine v_c (by omega) ?_ | fail)) | refine b_assignF (by kernel_rfl) ?_ | refine b_assignI ?_ | refine b_assignN ?_ | refine b_assign (by (conv => {lhs; whnf}); done) ?_ | refine b_callB ?_ | refine b_stL (by (conv => {lhs; whnf}); done) (by (conv => {lhs; whnf}); done) (by first | exact (by exact rfl) | exact cells_of_len hF.len | fail) (by exact rfl) (by exact rfl) (by exact Nat.le_of_ble_eq_true rfl) (by (conv => {lhs; simp only [sc, List.set_cons_zero, List.set_cons_succ]}); done) ?_ | refine b_box (by (conv => {lhs; whnf}); done) (by exact rfl) (by exact rfl) (by exact rfl) (by exact rfl) ?_ | refine b_alloc (by exact rfl) (by exact rfl) ?_ | fail))
    | (refine gateD ?_; (first | (refine d_c0 (by exact rfl) ?_; (first | refine b_move (by (conv => {lhs; whnf}); done) ?_ | (refine b_fa (by (conv => {lhs; whnf}); done) ?_; first | refine f_loc (by (conv => {lhs; whnf}); done) ?_ | refine f_ptr (by (conv => {lhs; whnf}); done) ?_) | (refine b_load (by (conv => {lhs; whnf}); done) ?_; (first | refine l_loc1 (by exact rfl) (by exact rfl) ?_ | refine l_locA (by exact rfl) (by exact rfl) ?_ | refine l_FL (FL.app hF _) (by first | omega | (have hp := good_place hG (i := (k : Int)) (j := (j : Int)) (by omega) (by omega) (by omega) (by omega); omega) | fail) ?_ | fail)) | refine b_iaF (by (conv => {lhs; whnf}); done) (by (conv => {lhs; whnf}); done) (by exact hF.len) (by first | omega | (have hp := good_place hG (i := (k : Int)) (j := (j : Int)) (by omega) (by omega) (by omega) (by omega); omega) | fail) ?_ | (refine b_bin (by (conv => {lhs; whnf}); done) (by (conv => {lhs; whnf}); done) (by (conv => {lhs; whnf}); done) ?_; (first | refine v_w (by first | omega | (have hp := good_place hG (i := (k : Int)) (j := (j : Int)) (by omega) (by omega) (by omega) (by omega); omega) | fail) ?_ | refine v_T (by omega) ?_ | refine v_F (by omega) ?_ | refine v_w (by omega) ?_ | refine v_wu (by omega) ?_ | refine v_k ?_ | refine v_c (by omega) ?_ | fail)) | refine b_assignF (by kernel_rfl) ?_ | refine b_assignI ?_ | refine b_assignN ?_ | refine b_assign (by (conv => {lhs; whnf}); done) ?_ | refine b_callB ?_ | refine b_stL (by (conv => {lhs; whnf}); done) (by (conv => {lhs; whnf}); done) (by first | exact (by exact rfl) | exact cells_of_len hF.len | fail) (by exact rfl) (by exact rfl) (by exact Nat.le_of_ble_eq_true rfl) (by (conv => {lhs; simp only [sc, List.set_cons_zero, List.set_cons_succ]}); done) ?_ | refine b_box (by (conv => {lhs; whnf}); done) (by exact rfl) (by exact rfl) (by exact rfl) (by exact rfl) ?_ | refine b_alloc (by exact rfl) (by exact rfl) ?_ | fail)) | refine d_nil ?_ | fail))
    | (refine gateC ?_; (first | refine k_lt ?_ | refine k_ld (by (conv => {lhs; whnf}); done) (by exact rfl) ?_ | refine k_ldT (by (conv => {lhs; whnf}); done) ?_ | refine k_bin (by (conv => {lhs; whnf}); done) (by exact rfl) ?_ | refine k_mn ?_ | refine k_mnB (by exact rfl) ?_ | refine k_mnF ?_ | fail))
    | (refine gateT ?_; (first | refine b_thn ?_ | refine b_thr ?_ | refine b_the ?_ | fail))
    | (refine gateX ?_; (first | refine b_seq ?_ | refine b_region ?_ | (refine b_cond (by (conv => {lhs; whnf}); done) ?_; (first | refine c_T ?_ | refine c_F ?_ | refine c_P ?_ ?_ | refine c_B ?_ ?_ | fail)) | refine b_ret ?_ | refine b_skip ?_ | refine b_block ?_ | refine b_exit ?_ | refine b_draw [] [16] [(0, .ld true), (1, .lt), (2, .lt), (3, .lt), (4, .ld true), (5, .lt), (6, .ld true), (7, .lt), (8, .lt), (9, .lt), (10, .lt), (11, .ld true), (12, .lt), (13, .lt), (14, .lt), (15, .ld true), (16, .mn false)] (by kernel_rfl) ?_ | (refine b_loop [5, 4, 1, 2, 3] c (fun j => ⟨[(5, .val (.int .i64 (j : Int))), (4, .val (.int .i64 (k : Int))), (1, .loc 1 0), (2, .loc 2 0), (3, .loc 3 0)], [(1, [D, .int .i64 off, .int .i64 (r : Int), .int .i64 (c : Int), .int .i64 ld]), (2, [.int .i64 0, .int .i64 0, .slnil]), (3, [.int .i64 (r : Int), .int .i64 (c : Int), .slm (H.length + 0) (r * c) 0 (r * c) 1])], H ++ [fl (ofL (mel l off ld) r c (k * c + j))]⟩) (by exact rfl) ?_ ?_ <;> (first | intro j hj K hK | intro K) <;> (try dsimp only at *) <;> (try simp only [Int.natCast_add, Int.natCast_one] at *)) | (refine b_loop [4, 1, 2, 3] r (fun k => ⟨[(4, .val (.int .i64 (k : Int))), (1, .loc 1 0), (2, .loc 2 0), (3, .loc 3 0)], [(1, [D, .int .i64 off, .int .i64 (r : Int), .int .i64 (c : Int), .int .i64 ld]), (2, [.int .i64 0, .int .i64 0, .slnil]), (3, [.int .i64 (r : Int), .int .i64 (c : Int), .slm (H.length + 0) (r * c) 0 (r * c) 1])], H ++ [fl (ofL (mel l off ld) r c (k * c))]⟩) (by simp only [Nat.zero_mul, ofL_zero]; exact rfl) ?_ ?_ <;> (first | intro k hk K hK | intro K) <;> (try dsimp only at *) <;> (try simp only [Int.natCast_add, Int.natCast_one, Nat.add_mul, Nat.one_mul] at *)) | fail))
    | refine a_cons (by (conv => {lhs; whnf}); done) ?_
    | refine a_nil ?_
    | (refine gateK ?_; (first | refine c_call (new_k _ _ r c (by omega) (by omega) _ (by (conv => {lhs; simp only [List.length_append, List.length_cons, List.length_nil, List.length_set, Nat.reduceAdd, Nat.zero_add]}); done) (by (conv => {lhs; simp only [List.append_assoc, List.cons_append, List.nil_append]}); done)) (OldOk.app (by simp)) ?_ | refine c_call (tset_c _ _ _ (ofL (mel l off ld) r c (k * c + j)) (hg_new (by exact rfl) rfl) r c (by simp) (by omega) (by omega) k j (by omega) (by omega) _ (by rw [ofL_set (by omega) (by omega) (by exact rfl)]; exact hs_new (by exact rfl) (by (conv => {lhs; simp only [List.set_cons_zero, List.set_cons_succ]}); done))) (OldOk.app (by simp)) ?_ | fail))
    | (refine gateB ?_; (first | refine b_bln ?_ | refine b_blr ?_ | refine b_ble ?_ | refine b_blo (by exact rfl) ?_ | fail))
    | (refine gateL ?_; (first | refine lp_n ?_ | refine lp_r ?_ | refine lp_e ?_ | fail))
    | (refine pr_k (by exact rfl) ?_; first | exact hK | fail | (exfalso; first | omega | (simp_all; done) | (simp_all; omega)))
    | (refine gateQ ?_; refine b_retK (by simp) (by (conv => {lhs; whnf}); done) ?_)
    | (refine gateR ?_; (first | refine rk_tmp (by (conv => {lhs; whnf}); done) ?_ | refine rk_cellA (by (conv => {lhs; whnf}); done) (by exact rfl) (by exact rfl) ?_ | refine rk_cell1 (by (conv => {lhs; whnf}); done) (by exact rfl) (by exact rfl) ?_ | refine rk_nil ?_ | fail))
    | intro _)
  all_goals first
    | (refine rv_fr rfl ?_; simp only [ofL_all]; exact Fr.agg (Frs.cons (Fr.old (by simp [mx])) (Frs.cons (Fr.old (by simp [mx])) (Frs.cons (Fr.fz (by omega) (by simp) (hg_new rfl rfl) (by simp) (gc_all _ (by simp)) (Frs.old (by rw [mxL_fl]; exact Nat.zero_le _))) Frs.nil))))


end Go.Sx

set_option linter.unusedVariables false
set_option linter.unusedSimpArgs false
set_option maxRecDepth 20000
namespace Go.Sx
open Go.Proofs
attribute [local irreducible] Ex exOps exD opX opE thenX blkX RetQ Spec CSpec Fr condK guardK guardD ckK valK pickK loadK faK callK argK gK fK rK RetV lpX prK
set_option maxHeartbeats 4000000 in
theorem numbers_c (H : List (List AV)) (D : AV) (l : List Nat) (hF : FL H D l) (off rows cols ld : Int) (hI : MI l.length off rows cols ld) (hG : GoodP l.length off rows cols ld) (hr : rows ≤ 1000) (hc : cols ≤ 1000) :
    CSpec Try.prog 92 [mt D off rows cols ld] H (.sl none (rows.toNat * cols.toNat) (fl (cmA (mel l off ld) rows.toNat cols.toNat))) H := by
  obtain ⟨r, rfl⟩ : ∃ r : Nat, rows = (r : Int) := ⟨rows.toNat, by have := hG.1; omega⟩
  obtain ⟨c, rfl⟩ : ∃ c : Nat, cols = (c : Int) := ⟨cols.toNat, by have := hG.2.1; omega⟩
  simp only [Int.toNat_natCast]
  obtain ⟨hn, ho1, ho2, hr1, hr2, hc1, hc2, hl1, hl2⟩ := id hI
  have hrc : c * r ≤ 1000000 := by (have := Nat.mul_le_mul (show c ≤ 1000 by omega) (show r ≤ 1000 by omega); omega)
  have hcO : ∀ k : Nat, 0 < r → cOff off (r : Int) ld (k : Int) = off + (k : Int) * ld := fun k h => by (unfold cOff; exact if_pos (by omega))
  have hx : ∀ k j, k < c → j < r → l.getD (cOff off (r : Int) ld (k : Int) + (j : Int)).toNat 0 = (fun n => mel l off ld (n % r) (n / r)) (k * r + j) := fun k j hk hj => by
    simp only [ix_mod hj, ix_div hj, mel, hcO k (by omega)]
    congr 2; omega
  refine .mk (fun args w => Try.call92 args w) (Spec.intro' (fn := Try.f92) Try.func92 rfl (by kernel_rfl) (by simp) false [40] (draw := drawX Try.prog ⟨false, _, [40]⟩) dOk ?_)
  simp only [argE, Nat.reduceAdd]
  repeat' (first
    | (refine gateE ?_; (first | (refine b_c0 ?_; (first | refine b_moveF (by kernel_rfl) ?_ | refine b_moveI ?_ | refine b_move (by (conv => {lhs; whnf}); done) ?_ | (refine b_fa (by (conv => {lhs; whnf}); done) ?_; first | refine f_loc (by (conv => {lhs; whnf}); done) ?_ | refine f_ptr (by (conv => {lhs; whnf}); done) ?_) | (refine b_load (by (conv => {lhs; whnf}); done) ?_; (first | refine l_loc1 (by exact rfl) (by exact rfl) ?_ | refine l_locA (by exact rfl) (by exact rfl) ?_ | refine l_FL (FL.app hF _) (by first | omega | (have hp := good_place hG (i := (j : Int)) (j := (k : Int)) (by omega) (by omega) (by omega) (by omega); have hco := hcO k (by omega); omega) | fail) ?_ | fail)) | refine b_iaF (by (conv => {lhs; whnf}); done) (by (conv => {lhs; whnf}); done) (by exact hF.len) (by first | omega | (have hp := good_place hG (i := (j : Int)) (j := (k : Int)) (by omega) (by omega) (by omega) (by omega); have hco := hcO k (by omega); omega) | fail) ?_ | refine b_grow (i := 0) (N₀ := []) (by (conv => {lhs; whnf}); done) (by (conv => {lhs; whnf}); done) (by exact rfl) (by exact rfl) (by simp) (by have := ix_lt hk hj; omega) (by exact rfl) (by exact rfl) (l' := fl (rml (fun n => mel l off ld (n % r) (n / r)) (k * r + j + 1))) (by rw [hx k j hk hj]; exact rml_fl (fun n => mel l off ld (n % r) (n / r)) _) ?_ | (refine b_bin (by (conv => {lhs; whnf}); done) (by (conv => {lhs; whnf}); done) (by (conv => {lhs; whnf}); done) ?_; (first | refine v_w (by first | omega | (have hp := good_place hG (i := (j : Int)) (j := (k : Int)) (by omega) (by omega) (by omega) (by omega); have hco := hcO k (by omega); omega) | fail) ?_ | refine v_T (by omega) ?_ | refine v_F (by omega) ?_ | refine v_w (by omega) ?_ | refine v_wu (by omega) ?_ | refine v_nT ?_ | refine v_nF ?_ | refine v_nP ?_ | refine v_k ?_ | refine v_c (by omega) ?_ | fail)) | refine b_assignF (by kernel_rfl) ?_ | refine b_assignI ?_ | refine b_assignN ?_ | refine b_assign (by (conv => {lhs; whnf}); done) ?_ | (refine b_un (by (conv => {lhs; whnf}); done) (by (conv => {lhs; whnf}); done) ?_; (first | refine v_w (by first | omega | (have hp := good_place hG (i := (j : Int)) (j := (k : Int)) (by omega) (by omega) (by omega) (by omega); have hco := hcO k (by omega); omega) | fail) ?_ | refine v_T (by omega) ?_ | refine v_F (by omega) ?_ | refine v_w (by omega) ?_ | refine v_wu (by omega) ?_ | refine v_nT ?_ | refine v_nF ?_ | refine v_nP ?_ | refine v_k ?_ | refine v_c (by omega) ?_ | fail)) | refine b_callB ?_ | refine b_ext (by (conv => {lhs; whnf}); done) (by exact rfl) ?_ | refine b_stL (by (conv => {lhs; whnf}); done) (by (conv => {lhs; whnf}); done) (by first | exact (by exact rfl) | exact cells_of_len hF.len | fail) (by exact rfl) (by exact rfl) (by exact Nat.le_of_ble_eq_true rfl) (by (conv => {lhs; simp only [sc, List.set_cons_zero, List.set_cons_succ]}); done) ?_ | refine b_box (by (conv => {lhs; whnf}); done) (by exact rfl) (by exact rfl) (by exact rfl) (by exact rfl) ?_ | refine b_alloc (by exact rfl) (by exact rfl) ?_ | refine b_bslZ (by exact rfl) (by exact rfl) (by decide) ?_ | fail)) | refine b_nil ?_ | fail))
    | (refine gateT ?_; (first | refine b_thn ?_ | refine b_thr ?_ | refine b_the ?_ | fail))
    | (refine gateX ?_; (first | refine b_seq ?_ | refine b_region ?_ | (refine b_cond (by (conv => {lhs; whnf}); done) ?_; (first | refine c_T ?_ | refine c_F ?_ | refine c_P ?_ ?_ | refine c_B ?_ ?_ | fail)) | refine b_ret ?_ | refine b_skip ?_ | refine b_block ?_ | refine b_exit ?_ | (refine b_loop [28, 27, 20, 19, 1, 6, 8] r (fun j => ⟨[(28, .val (.int .i64 (j : Int))), (27, .val (.int .i64 (r : Int))), (20, .val (.int .i64 (k : Int))), (19, .val (.int .i64 (c : Int))), (1, .loc 1 0), (6, .val (gV H.length 0 (k * r + j))), (8, .loc 8 0)], [(1, [D, .int .i64 off, .int .i64 (r : Int), .int .i64 (c : Int), .int .i64 ld]), (8, [D, .int .i64 (cOff off (r : Int) ld (k : Int)), .int .i64 (r : Int), .int .i64 1])], H ++ ([] ++ gN (fl (rml (fun n => mel l off ld (n % r) (n / r)) (k * r + j))))⟩) (by exact rfl) ?_ ?_ <;> (first | intro j hj K hK | intro K) <;> (try dsimp only at *) <;> (try simp only [Int.natCast_add, Int.natCast_one] at *)) | (refine b_loop [20, 19, 1, 6] c (fun k => ⟨[(20, .val (.int .i64 (k : Int))), (19, .val (.int .i64 (c : Int))), (1, .loc 1 0), (6, .val (gV H.length 0 (k * r)))], [(1, [D, .int .i64 off, .int .i64 (r : Int), .int .i64 (c : Int), .int .i64 ld])], H ++ ([] ++ gN (fl (rml (fun n => mel l off ld (n % r) (n / r)) (k * r))))⟩) (by simp only [Nat.zero_mul]; exact rfl) ?_ ?_ <;> (first | intro k hk K hK | intro K) <;> (try dsimp only at *) <;> (try simp only [Int.natCast_add, Int.natCast_one, Nat.add_mul, Nat.one_mul] at *)) | fail))
    | refine a_cons (by (conv => {lhs; whnf}); done) ?_
    | refine a_nil ?_
    | (refine gateK ?_; (first | refine c_call (span_c _ D l.length off _ _ ld hF.len hI) (OldOk.app (by simp)) ?_ | refine c_call (col_c _ D l (FL.app hF _) off _ _ ld hI hG (k : Int) (by omega) (by omega)) (OldOk.app (by simp)) ?_ | fail))
    | refine gk_consF (by kernel_rfl) ?_
    | refine gk_cons (by (conv => {lhs; whnf}); done) ?_
    | (refine gk_nilN (by (conv => {lhs; simp only [List.nil_append, List.cons_append]}); done) ?_; first | refine ⟨by exact rfl, ?_⟩ | skip)
    | refine gk_nil ?_
    | (intro N' hN'; simp only [List.nil_append, List.cons_append] at hN'; subst hN')
    | (refine gateB ?_; (first | refine b_bln ?_ | refine b_blr ?_ | refine b_ble ?_ | refine b_blo (by exact rfl) ?_ | fail))
    | (refine gateL ?_; (first | refine lp_n ?_ | refine lp_r ?_ | refine lp_e ?_ | fail))
    | (refine pr_k (by exact rfl) ?_; first | exact hK | fail | (exfalso; first | omega | (simp_all; done) | (simp_all; omega)))
    | (refine gateQ ?_; refine b_retK (by simp) (by (conv => {lhs; whnf}); done) ?_)
    | (refine gateR ?_; (first | refine rk_tmp (by (conv => {lhs; whnf}); done) ?_ | refine rk_cellA (by (conv => {lhs; whnf}); done) (by exact rfl) (by exact rfl) ?_ | refine rk_cell1 (by (conv => {lhs; whnf}); done) (by exact rfl) (by exact rfl) ?_ | refine rk_nil ?_ | fail))
    | intro _)
  all_goals first
    | (refine rv_fr rfl ?_; have hz : r * c = 0 := by (have hsp : ¬ SpanP l.length off r c ld := by assumption); (have : r = 0 ∨ c = 0 := by (rcases Nat.eq_zero_or_pos r with h | h; exact .inl h; rcases Nat.eq_zero_or_pos c with h' | h'; exact .inr h'; exact absurd ⟨hG, by omega, by omega⟩ hsp)); rcases this with h | h <;> simp [h]
       rw [show fl (cmA (mel l off ld) r c) = [] from by rw [cmA, hz]; rfl, hz]; exact Fr.nil)
    | (refine rv_fr rfl ?_; rw [Nat.mul_comm r c, cmA, Nat.mul_comm r c]; exact gV_fr (N₀ := []) (i := 0) rfl rfl (by simp) (by rw [mxL_fl]; exact Nat.zero_le _))


end Go.Sx

set_option linter.unusedVariables false
set_option linter.unusedSimpArgs false
namespace Go.Sx
/-! ### a matrix within a list, written -/
def loc (off ld : Int) (r c p : Nat) : Option (Nat × Nat) :=
  if 0 ≤ (p : Int) - off ∧ (((p : Int) - off) % ld).toNat < r ∧ (((p : Int) - off) / ld).toNat < c then some ((((p : Int) - off) % ld).toNat, (((p : Int) - off) / ld).toNat) else none
def setM (L : List Nat) (off ld : Int) (r c : Nat) (g : Nat → Nat → Nat) : List Nat :=
  rml (fun p => match loc off ld r c p with | some q => g q.1 q.2 | none => L.getD p 0) L.length
@[simp] theorem setM_len (L : List Nat) (off ld : Int) (r c : Nat) (g : Nat → Nat → Nat) : (setM L off ld r c g).length = L.length := by simp [setM]
def pos (off ld : Int) (i j : Nat) : Nat := (off + (i : Int) + (j : Int) * ld).toNat
theorem mel_pos (l : List Nat) (off ld : Int) (i j : Nat) : mel l off ld i j = l.getD (pos off ld i j) 0 := rfl
section
variable {off ld : Int} {r c n : Nat}
theorem loc_pos (hG : GoodP n off r c ld) {i j : Nat} (hi : i < r) (hj : j < c) : loc off ld r c (pos off ld i j) = some (i, j) := by
  obtain ⟨h1, h2, h3, h4, h5, h6⟩ := id hG
  have hp := good_place hG (i := (i : Int)) (j := (j : Int)) (by omega) (by omega) (by omega) (by omega)
  have e : ((pos off ld i j : Nat) : Int) - off = (i : Int) + (j : Int) * ld := by unfold pos; omega
  have e1 : ((i : Int) + (j : Int) * ld) % ld = i := by
    rw [Int.add_mul_emod_self_right]; exact Int.emod_eq_of_lt (by omega) (by omega)
  have e2 : ((i : Int) + (j : Int) * ld) / ld = j := by
    rw [Int.add_mul_ediv_right _ _ (by omega), Int.ediv_eq_zero_of_lt (by omega) (by omega)]; omega
  unfold loc
  rw [e, e1, e2]
  rw [if_pos ⟨by omega, by omega, by omega⟩]
  simp
theorem loc_some {p i j : Nat} (h4 : 1 ≤ ld) (h3 : 0 ≤ off) (h : loc off ld r c p = some (i, j)) : i < r ∧ j < c ∧ p = pos off ld i j := by
  unfold loc at h
  split at h
  · rename_i hc
    simp only [Option.some.injEq, Prod.mk.injEq] at h
    obtain ⟨rfl, rfl⟩ := h
    refine ⟨hc.2.1, hc.2.2, ?_⟩
    unfold pos
    have e1 := Int.emod_nonneg ((p : Int) - off) (show ld ≠ 0 by omega)
    have e2 := Int.ediv_nonneg hc.1 (show 0 ≤ ld by omega)
    have e3 := Int.mul_ediv_add_emod ((p : Int) - off) ld
    rw [Int.toNat_of_nonneg e1, Int.toNat_of_nonneg e2]
    have : ((p : Int) - off) / ld * ld = ld * (((p : Int) - off) / ld) := Int.mul_comm _ _
    omega
  · cases h
theorem pos_lt (hG : GoodP n off r c ld) {i j : Nat} (hi : i < r) (hj : j < c) : pos off ld i j < n := by
  have hp := good_place hG (i := (i : Int)) (j := (j : Int)) (by omega) (by omega) (by omega) (by omega)
  unfold pos; omega
theorem mel_setM {L : List Nat} {g : Nat → Nat → Nat} (hG : GoodP L.length off r c ld) {i j : Nat} (hi : i < r) (hj : j < c) : mel (setM L off ld r c g) off ld i j = g i j := by
  rw [mel_pos, setM, rml_get (pos_lt hG hi hj), loc_pos hG hi hj]
theorem setM_congr {L : List Nat} {g g' : Nat → Nat → Nat} (h4 : 1 ≤ ld) (h3 : 0 ≤ off) (h : ∀ i j, i < r → j < c → g i j = g' i j) : setM L off ld r c g = setM L off ld r c g' := by
  unfold setM
  refine rml_congr fun p hp => ?_
  cases hl : loc off ld r c p with
  | some q =>
    obtain ⟨i, j⟩ := q
    obtain ⟨hi, hj, _⟩ := loc_some h4 h3 hl
    exact h i j hi hj
  | none => rfl
theorem setM_mel {L : List Nat} (h4 : 1 ≤ ld) (h3 : 0 ≤ off) : setM L off ld r c (mel L off ld) = L := by
  apply List.ext_getElem
  · simp
  · intro p h1 h2
    have hp : p < L.length := h2
    have := rml_get (g := fun p => match loc off ld r c p with | some q => mel L off ld q.1 q.2 | none => L.getD p 0) hp
    have e : (setM L off ld r c (mel L off ld)).getD p 0 = L.getD p 0 := by
      rw [setM, this]
      cases hl : loc off ld r c p with
      | some q =>
        obtain ⟨i, j⟩ := q
        obtain ⟨_, _, rfl⟩ := loc_some h4 h3 hl
        rfl
      | none => rfl
    simpa [List.getD, h1, h2] using e
def updG (g : Nat → Nat → Nat) (i j x : Nat) : Nat → Nat → Nat := fun i' j' => if i' = i ∧ j' = j then x else g i' j'
theorem set_setM {L : List Nat} {g : Nat → Nat → Nat} (hG : GoodP L.length off r c ld) {i j x : Nat} (hi : i < r) (hj : j < c) : (setM L off ld r c g).set (pos off ld i j) x = setM L off ld r c (updG g i j x) := by
  obtain ⟨h1, h2, h3, h4, h5, h6⟩ := id hG
  apply List.ext_getElem
  · simp
  · intro p k1 k2
    simp only [setM_len] at k2
    rw [List.getElem_set]
    have val : ∀ g : Nat → Nat → Nat, (setM L off ld r c g)[p]'(by simpa using k2) = match loc off ld r c p with | some q => g q.1 q.2 | none => L.getD p 0 := by
      intro g; simp [setM, rml]
    rw [val, val]
    split
    · rename_i hp
      subst hp
      rw [loc_pos hG hi hj]
      simp [updG]
    · rename_i hp
      cases hl : loc off ld r c p with
      | some q =>
        obtain ⟨i', j'⟩ := q
        obtain ⟨hi', hj', rfl⟩ := loc_some h4 h3 hl
        simp only [updG]
        rw [if_neg]
        rintro ⟨rfl, rfl⟩; exact hp rfl
      | none => rfl
/-- a part, written -/
def partG (g g' : Nat → Nat → Nat) (i0 j0 r' c' : Nat) : Nat → Nat → Nat := fun i j => if i0 ≤ i ∧ i < i0 + r' ∧ j0 ≤ j ∧ j < j0 + c' then g' (i - i0) (j - j0) else g i j
theorem pos_part {off ld : Int} {i0 j0 i j : Nat} : pos (off + ((i0 : Int) + (j0 : Int) * ld)) ld i j = pos off ld (i0 + i) (j0 + j) := by
  unfold pos
  congr 1
  have : (((j0 + j : Nat)) : Int) * ld = (j0 : Int) * ld + (j : Int) * ld := by rw [Int.natCast_add, Int.add_mul]
  rw [this]; omega
theorem setM_part {L : List Nat} {g' : Nat → Nat → Nat} (hG : GoodP L.length off r c ld) {i0 j0 r' c' : Nat} (hi : i0 + r' ≤ r) (hj : j0 + c' ≤ c) (hG' : GoodP L.length (off + ((i0 : Int) + (j0 : Int) * ld)) r' c' ld) :
    setM L (off + ((i0 : Int) + (j0 : Int) * ld)) ld r' c' g' = setM L off ld r c (partG (mel L off ld) g' i0 j0 r' c') := by
  obtain ⟨h1, h2, h3, h4, h5, h6⟩ := id hG
  unfold setM
  refine rml_congr fun p hp => ?_
  cases hl : loc (off + ((i0 : Int) + (j0 : Int) * ld)) ld r' c' p with
  | some q =>
    obtain ⟨i, j⟩ := q
    obtain ⟨hi', hj', rfl⟩ := loc_some h4 hG'.2.2.1 hl
    rw [pos_part, loc_pos hG (by omega) (by omega)]
    simp only [partG]
    rw [if_pos ⟨by omega, by omega, by omega, by omega⟩]
    congr 1 <;> omega
  | none =>
    cases hl' : loc off ld r c p with
    | some q =>
      obtain ⟨i, j⟩ := q
      obtain ⟨hi', hj', rfl⟩ := loc_some h4 h3 hl'
      simp only [partG]
      rw [if_neg]
      · rfl
      · rintro ⟨k1, k2, k3, k4⟩
        have := loc_pos hG' (i := i - i0) (j := j - j0) (by omega) (by omega)
        rw [pos_part, show i0 + (i - i0) = i from by omega, show j0 + (j - j0) = j from by omega, hl] at this
        cases this
    | none => rfl
theorem mel_part {L : List Nat} {i0 j0 i j : Nat} : mel L (off + ((i0 : Int) + (j0 : Int) * ld)) ld i j = mel L off ld (i0 + i) (j0 + j) := by
  rw [mel_pos, mel_pos, pos_part]
end
end Go.Sx

set_option linter.unusedVariables false
set_option linter.unusedSimpArgs false
namespace Go.Sx
section
variable {P : Program} {cfg : Cfg} {e : List (Nat × EV)} {L : List (Nat × List AV)} {H N : List (List AV)} {K : St → Prop}
variable {ty : TypeId} {pos : String} {aft : Array Edge} {gd : Option (Nat × Bool)} {dd : Nat}
/-! ### one block of old that is written over and over: the blocks are 'H.set b ..' -/
theorem hb_set {b : Nat} {cs : List AV} (h : b < H.length) : (H.set b cs)[b]? = some cs := by simp [h]
theorem l_bF {t : TypeId} {b g o len sz k : Nat} {X : List Nat} [i : TyI P t 1 false] (hb : b < H.length) (hg : X.length = g) (hk : o + k < X.length) (h : K ⟨(dd, .val (.flt (X.getD (o + k) 0))) :: e, L, H.set b (fl X) ++ N⟩) :
    loadK P t dd K ⟨e, L, H.set b (fl X) ++ N⟩ (.val (.eptr (.slm b g o len sz) k)) :=
  l_ptr1 (by simp only [sread, hg_old (hb_set hb), Option.bind_some, fl_len, hg, if_true]; exact gc_one (fl_get hk)) h
theorem b_stB {t : TypeId} {x v : Operand} {b g o len sz k : Nat} {X X' : List Nat} {f : Nat} [ti : TyI P t 1 false] (hx : St.ev ⟨e, L, H.set b (fl X) ++ N⟩ x = .val (.eptr (.slm b g o len sz) k)) (hv : St.ev ⟨e, L, H.set b (fl X) ++ N⟩ v = .val (.flt f)) (hb : b < H.length)
    (hg : X.length = g) (hk : o + k < X.length) (hX : X.set (o + k) f = X') (h : K ⟨e, L, H.set b (fl X') ++ N⟩) : opX P cfg ⟨none, .store t x v, ty, pos, aft, gd⟩ K ⟨e, L, H.set b (fl X) ++ N⟩ := by
  refine b_stF hx hv (hb_set hb) hg hk hX ?_
  rw [List.set_set]; exact h
theorem b_nilC {x : Operand} {s : AV} {o : Nat} (hx : St.ev ⟨e, L, H⟩ x = .val (.eptr s o)) (h : K ⟨(dd, .val (.eptr s o)) :: e, L, H⟩) : opX P cfg ⟨some dd, .nilCheck x, ty, pos, aft, gd⟩ K ⟨e, L, H⟩ := by
  rw [op_pure P cfg e L H K _ _ _ _ _ _ rfl]
  simp only [pureV, hx]
  exact ⟨trivial, h⟩
theorem b_iaM {m : Nat} {t el : TypeId} {x y : Operand} [si : SlI P t el 1] {s : AV} {k : IntKind} {i : Int} {len : Nat} (hx : St.ev ⟨e, L, H⟩ x = .val s) (hy : St.ev ⟨e, L, H⟩ y = .val (.int k i)) (hl : slen s = some len) (hi : i = (m : Int)) (hm : m < len)
    (h : K ⟨(dd, .val (.eptr s m)) :: e, L, H⟩) : opX P cfg ⟨some dd, .indexAddr t x y, ty, pos, aft, gd⟩ K ⟨e, L, H⟩ :=
  b_ia (i := m) hx hy hl hi hm (by simpa using h)
theorem FL.set {b g q : Nat} {X : List Nat} (hb : b < H.length) (hg : g = X.length) (hq : q = X.length) : FL (H.set b (fl X) ++ N) (.slm b g 0 q 1) X :=
  (FL.old (hb_set hb) hg hq).app N
end
/-- two rows, swapped -/
def swpG (g : Nat → Nat → Nat) (i k : Nat) : Nat → Nat → Nat := fun i' j => if i' = i then g k j else if i' = k then g i j else g i' j
def swpS (g : Nat → Nat → Nat) (i k t : Nat) : Nat → Nat → Nat := fun i' j => if j < t then swpG g i k i' j else g i' j
theorem swpS_step' {g : Nat → Nat → Nat} {i k t : Nat} (i' j : Nat) : updG (updG (swpS g i k t) i t (g k t)) k t (g i t) i' j = swpS g i k (t + 1) i' j := by
  unfold updG swpS swpG
  by_cases h1 : j = t
  · subst h1
    by_cases h2 : i' = k
    · subst h2
      by_cases h3 : i' = i
      · subst h3; simp
      · simp [h3]
    · by_cases h3 : i' = i
      · subst h3; simp [h2]
      · simp [h2, h3]
  · have : (j < t + 1) = (j < t) := by apply propext; omega
    simp [h1, this]
theorem swpS_step {g : Nat → Nat → Nat} {i k t : Nat} (hik : i ≠ k) (i' j : Nat) : updG (updG (swpS g i k t) i t (g k t)) k t (g i t) i' j = swpS g i k (t + 1) i' j := swpS_step' i' j
theorem swpG_same {g : Nat → Nat → Nat} {i : Nat} (i' j : Nat) : swpG g i i i' j = g i' j := by
  unfold swpG; split
  · rename_i h; rw [h]
  · rfl
/-- a table, one number set -/
theorem rmA_congr {g g' : Nat → Nat → Nat} {r c : Nat} (h : ∀ i j, i < r → j < c → g i j = g' i j) : rmA g r c = rmA g' r c := by
  unfold rmA
  exact rml_congr fun k hk => h _ _ (div_lt' (by simpa using hk)) (Nat.mod_lt _ (pos_of_lt hk))
theorem rmA_set {g : Nat → Nat → Nat} {r c i j x : Nat} (hi : i < r) (hj : j < c) : (rmA g r c).set (i * c + j) x = rmA (updG g i j x) r c := by
  apply List.ext_getElem
  · simp
  · intro k h1 h2
    simp only [rmA_len] at h2
    rw [List.getElem_set]
    split
    · rename_i hk
      subst hk
      simp [rmA, rml, ix_div hj, ix_mod hj, updG]
    · rename_i hk
      simp only [rmA, rml, List.getElem_map, List.getElem_range, updG]
      rw [if_neg]
      rintro ⟨h3, h4⟩
      apply hk
      have := Nat.div_add_mod k c
      rw [h3, h4, Nat.mul_comm] at this
      exact this
/-- the place of the greatest number without its sign, among the first -/
def moN (x : List Nat) : Nat → Nat
  | 0 => 0
  | k + 1 => if k = 0 then 0 else if flt (absF (x.getD (moN x k) 0)) (absF (x.getD k 0)) then k else moN x k
theorem moN_T {x : List Nat} {k : Nat} (hk : 0 < k) (h : flt (absF (x.getD (moN x k) 0)) (absF (x.getD k 0)) = true) : moN x (k + 1) = k := by
  simp only [moN]; rw [if_neg (by omega), if_pos h]
theorem moN_F {x : List Nat} {k : Nat} (hk : 0 < k) (h : flt (absF (x.getD (moN x k) 0)) (absF (x.getD k 0)) = false) : moN x (k + 1) = moN x k := by
  simp only [moN]; rw [if_neg (by omega), h]; rfl
theorem moN_lt (x : List Nat) : ∀ k, 0 < k → moN x k < k
  | 0, h => by omega
  | k + 1, _ => by
    simp only [moN]
    split
    · omega
    · split
      · omega
      · have := moN_lt x k (by omega); omega
def moI (x : List Nat) (k : Nat) : Int := if k = 0 then -1 else (moN x k : Int)
theorem moI_zero (x : List Nat) : moI x 0 = -1 := rfl
theorem moI_pos {x : List Nat} {k : Nat} (h : 0 < k) : moI x k = (moN x k : Int) := by unfold moI; rw [if_neg (by omega)]
theorem moI_one (x : List Nat) : moI x (0 + 1) = 0 := rfl
theorem row_pos {off ld : Int} {r c n i t : Nat} (hG : GoodP n off r c ld) (hi : i < r) (ht : t < c) : rOff off (c : Int) (i : Int) + (t : Int) * ld = ((pos off ld i t : Nat) : Int) := by
  have hp := good_place hG (i := (i : Int)) (j := (t : Int)) (by omega) (by omega) (by omega) (by omega)
  unfold rOff pos
  rw [if_pos (by omega)]
  omega
theorem col_pos {off ld : Int} {r c n i t : Nat} (hG : GoodP n off r c ld) (hi : i < r) (ht : t < c) : cOff off (r : Int) ld (t : Int) + (i : Int) = ((pos off ld i t : Nat) : Int) := by
  have hp := good_place hG (i := (i : Int)) (j := (t : Int)) (by omega) (by omega) (by omega) (by omega)
  unfold cOff pos
  rw [if_pos (by omega)]
  omega
end Go.Sx

set_option linter.unusedVariables false
set_option linter.unusedSimpArgs false
namespace Go.Sx
/-! ### signs of products -/
open Ieee
theorem e_sw : Ieee.double.signWeight = 9223372036854775808 := by decide
theorem e_bn : Ieee.double.binade = 4503599627370496 := by decide
theorem e_ir : Ieee.double.infRung = 9218868437227405312 := by decide
theorem e_lp : Ieee.double.leastPlace = -1074 := by decide
theorem e_fb : Ieee.double.fractionBits = 52 := by decide
theorem read_word (s : Bool) (k : Nat) (h : k ≤ 9218868437227405312) : Ieee.double.read (Ieee.double.word s k) = (if s then (Ieee.double.read k).opposite else Ieee.double.read k) := by
  have hk : k < 9223372036854775808 := by omega
  have h1 : (k / 9223372036854775808 % 2 == 1) = false := by rw [Nat.div_eq_of_lt hk]; rfl
  have h2 : k % 9223372036854775808 = k := Nat.mod_eq_of_lt hk
  cases s with
  | false =>
    have : Ieee.double.word false k = k := by simp [Ieee.Format.word, e_sw]
    rw [this]; rfl
  | true =>
    have e : Ieee.double.word true k = 9223372036854775808 + k := by simp [Ieee.Format.word, e_sw]
    rw [e]
    have h3 : ((9223372036854775808 + k) / 9223372036854775808 % 2 == 1) = true := by
      have : (9223372036854775808 + k) / 9223372036854775808 = 1 := by omega
      rw [this]; rfl
    have h4 : (9223372036854775808 + k) % 9223372036854775808 = k := by omega
    unfold Ieee.Format.read
    simp only [e_sw, e_bn, e_ir, h1, h2, h3, h4, if_true]
    split
    · simp [Ieee.Datum.opposite]
    · split
      · simp [Ieee.Datum.opposite]
      · split
        · simp [Ieee.Datum.opposite]
        · simp [Ieee.Datum.opposite]
def rungF (m : Nat) (p : Int) : Nat :=
  if m = 0 then 0 else
    let last := max (p + m.log2 - 52) (-1074)
    min ((last - (-1074)).toNat * 4503599627370496 + Toward.even.cut false (m <<< (p - last).toNat) (last - p).toNat) 9218868437227405312
theorem cut_even (s : Bool) (n d : Nat) : Toward.even.cut s n d = Toward.even.cut false n d := rfl
theorem nearest_eq (s : Bool) (m : Nat) (p : Int) : Ieee.double.nearest s m p = Ieee.double.word s (rungF m p) := by
  unfold Ieee.Format.nearest rungF
  by_cases h : m = 0
  · simp [h]
  · simp only [h, if_false, e_fb, e_lp, e_bn, e_ir, cut_even s]
    rfl
theorem rungF_le (m : Nat) (p : Int) : rungF m p ≤ 9218868437227405312 := by
  unfold rungF
  split
  · omega
  · exact Nat.min_le_right _ _
theorem log2_of {n k : Nat} (h1 : 2 ^ k ≤ n) (h2 : n < 2 ^ (k + 1)) : n.log2 = k := by
  have hn : n ≠ 0 := by have := Nat.two_pow_pos k; omega
  exact (Nat.log2_eq_iff hn).2 ⟨h1, h2⟩
theorem cut_exact {n : Nat} (h : 1 ≤ n) : Toward.even.cut false ((4503599627370496 * n) <<< 0) 52 = n := by
  have hl : 52 ≤ (4503599627370496 * n).log2 := by
    rw [Nat.le_log2 (by omega)]
    have : 2 ^ 52 = 4503599627370496 := by decide
    omega
  unfold Toward.cut
  have e0 : (4503599627370496 * n) <<< 0 = 4503599627370496 * n := rfl
  have e1 : min 52 ((4503599627370496 * n).log2 + 2) = 52 := by omega
  have e2 : (1 : Nat) <<< 52 = 4503599627370496 := by decide
  simp only [e0, e1, e2]
  have e3 : 4503599627370496 * n / 4503599627370496 = n := Nat.mul_div_cancel_left n (by decide)
  have e4 : 4503599627370496 * n % 4503599627370496 = 0 := Nat.mul_mod_right _ _
  rw [e3, e4]
  simp
/-- what is read is written again, from a place 52 further down -/
theorem rungF_read {k : Nat} (h : k < 9218868437227405312) : ∃ m e, Ieee.double.read k = .number false m e ∧ rungF (4503599627370496 * m) (e + -52) = k := by
  have hk : k < 9223372036854775808 := by omega
  have h1 : (k / 9223372036854775808 % 2 == 1) = false := by rw [Nat.div_eq_of_lt hk]; rfl
  have h2 : k % 9223372036854775808 = k := Nat.mod_eq_of_lt hk
  unfold Ieee.Format.read
  simp only [e_sw, e_bn, e_ir, e_lp, h1, h2]
  by_cases hB : k < 4503599627370496
  · rw [if_pos hB]
    refine ⟨k, -1074, rfl, ?_⟩
    by_cases h0 : k = 0
    · subst h0; decide
    · have hl2 : (4503599627370496 * k).log2 < 104 := by
        rw [Nat.log2_lt (by omega)]
        have : 2 ^ 104 = 4503599627370496 * 4503599627370496 := by decide
        omega
      unfold rungF
      rw [if_neg (by omega)]
      have e1 : max (-1074 + -52 + (((4503599627370496 * k).log2 : Nat) : Int) - 52) (-1074) = -1074 := by omega
      simp only [e1]
      have e2 : ((-1074 : Int) + -52 - -1074).toNat = 0 := by decide
      have e3 : ((-1074 : Int) - (-1074 + -52)).toNat = 52 := by decide
      have e4 : ((-1074 : Int) - -1074).toNat = 0 := by decide
      rw [e2, e3, e4, cut_exact (by omega)]
      omega
  · rw [if_neg hB, if_pos h]
    refine ⟨_, _, rfl, ?_⟩
    have hd := Nat.div_add_mod k 4503599627370496
    have hm := Nat.mod_lt k (show 0 < 4503599627370496 by decide)
    have hq : 1 ≤ k / 4503599627370496 := (Nat.le_div_iff_mul_le (by decide)).2 (by omega)
    generalize k % 4503599627370496 = r at hd hm
    generalize k / 4503599627370496 = q at hd hq
    have hl : (4503599627370496 * (4503599627370496 + r)).log2 = 104 := by
      apply log2_of
      · have : 2 ^ 104 = 4503599627370496 * 4503599627370496 := by decide
        omega
      · have : 2 ^ (104 + 1) = 4503599627370496 * 9007199254740992 := by decide
        omega
    unfold rungF
    rw [if_neg (by omega), hl]
    have e1 : max ((-1074 : Int) + ((q - 1 : Nat) : Int) + -52 + ((104 : Nat) : Int) - 52) (-1074) = -1074 + ((q - 1 : Nat) : Int) := by omega
    simp only [e1]
    have e2 : ((-1074 : Int) + ((q - 1 : Nat) : Int) + -52 - (-1074 + ((q - 1 : Nat) : Int))).toNat = 0 := by omega
    have e3 : ((-1074 : Int) + ((q - 1 : Nat) : Int) - (-1074 + ((q - 1 : Nat) : Int) + -52)).toNat = 52 := by omega
    have e4 : ((-1074 : Int) + ((q - 1 : Nat) : Int) - -1074).toNat = q - 1 := by omega
    rw [e2, e3, e4, cut_exact (by omega)]
    have : (q - 1) * 4503599627370496 + (4503599627370496 + r) = k := by omega
    rw [this]; omega
/-- a word's sign, and the rest -/
theorem read_split (y : Nat) : ∃ s : Bool, Ieee.double.read y = (if s then (Ieee.double.read (y % 9223372036854775808)).opposite else Ieee.double.read (y % 9223372036854775808)) := by
  have h2 : y % 9223372036854775808 % 9223372036854775808 = y % 9223372036854775808 := Nat.mod_mod _ _
  have h3 : (y % 9223372036854775808 / 9223372036854775808 % 2 == 1) = false := by rw [Nat.div_eq_of_lt (Nat.mod_lt _ (by decide))]; rfl
  refine ⟨y / 9223372036854775808 % 2 == 1, ?_⟩
  unfold Ieee.Format.read
  simp only [e_sw, e_bn, e_ir, h2, h3]
  cases (y / 9223372036854775808 % 2 == 1) with
  | false => simp
  | true =>
    simp only [if_true]
    split
    · simp [Ieee.Datum.opposite]
    · split
      · simp [Ieee.Datum.opposite]
      · split
        · simp [Ieee.Datum.opposite]
        · simp [Ieee.Datum.opposite]
theorem opp_opp (d : Datum) : d.opposite.opposite = d := by cases d <;> simp [Ieee.Datum.opposite]
def negOne : Nat := 13830554455654793216
theorem read_negOne : Ieee.double.read negOne = .number true 4503599627370496 (-52) := by decide
theorem mul_negOne {y : Nat} (hn : isNaN y = false) : ∃ r, Ieee.double.mul negOne y = some r ∧ Ieee.double.read r = (Ieee.double.read y).opposite := by
  obtain ⟨s, hs⟩ := read_split y
  have hk : y % 9223372036854775808 ≤ 9218868437227405312 := by
    rcases Nat.lt_or_ge 9218868437227405312 (y % 9223372036854775808) with h | h
    · have : isNaN y = true := by
        unfold isNaN Ieee.Format.read
        simp only [e_sw, e_bn, e_ir]
        rw [if_neg (by omega), if_neg (by omega), if_neg (by omega)]
        rfl
      rw [this] at hn; cases hn
    · exact h
  generalize y % 9223372036854775808 = k at hs hk
  unfold Ieee.Format.mul
  rw [read_negOne, hs]
  rcases Nat.lt_or_ge k 9218868437227405312 with h | h
  · obtain ⟨m, e, h1, h2⟩ := rungF_read h
    rw [h1]
    have e1 : (-52 + e : Int) = e + -52 := by omega
    cases s with
    | false =>
      refine ⟨Ieee.double.word true k, ?_, ?_⟩
      · simp [Ieee.Datum.product, Ieee.Format.write, nearest_eq, e1, h2]
      · rw [read_word _ _ hk]; simp [h1]
    | true =>
      refine ⟨Ieee.double.word false k, ?_, ?_⟩
      · simp [Ieee.Datum.product, Ieee.Datum.opposite, Ieee.Format.write, nearest_eq, e1, h2]
      · rw [read_word _ _ hk]; simp [h1, Ieee.Datum.opposite]
  · have hke : k = 9218868437227405312 := by omega
    subst hke
    have hi : Ieee.double.read 9218868437227405312 = .infinity false := by decide
    rw [hi]
    cases s with
    | false =>
      refine ⟨Ieee.double.word true 9218868437227405312, ?_, ?_⟩
      · simp [Ieee.Datum.product, Ieee.Format.write, e_ir]
      · rw [read_word _ _ hk]; simp [hi]
    | true =>
      refine ⟨Ieee.double.word false 9218868437227405312, ?_, ?_⟩
      · simp [Ieee.Datum.product, Ieee.Datum.opposite, Ieee.Format.write, e_ir]
      · rw [read_word _ _ hk]; simp [hi, Ieee.Datum.opposite]

theorem product_opp (a b : Datum) : a.opposite.product b = (a.product b).map Datum.opposite := by
  cases a <;> cases b <;> simp [Ieee.Datum.opposite, Ieee.Datum.product] <;> (try split) <;> simp_all [Ieee.Datum.opposite]
theorem product_comm (a b : Datum) : a.product b = b.product a := by
  cases a <;> cases b <;> simp [Ieee.Datum.product, Bool.xor_comm, Nat.mul_comm, Int.add_comm] <;> (try split) <;> simp_all [Bool.xor_comm]
theorem write_opp {d : Datum} (h : d.isNaN = false) : Ieee.double.read (Ieee.double.write d.opposite) = (Ieee.double.read (Ieee.double.write d)).opposite ∧ (Ieee.double.read (Ieee.double.write d)).isNaN = false := by
  have nn : ∀ k, k ≤ 9218868437227405312 → (Ieee.double.read k).isNaN = false := by
    intro k hk
    rcases Nat.lt_or_ge k 9218868437227405312 with h | h
    · obtain ⟨m, e, h1, _⟩ := rungF_read h
      rw [h1]; rfl
    · have : k = 9218868437227405312 := by omega
      subst this; decide
  have on : ∀ d : Datum, d.opposite.isNaN = d.isNaN := by intro d; cases d <;> rfl
  have key : ∀ (s : Bool) (k : Nat), k ≤ 9218868437227405312 → Ieee.double.read (Ieee.double.word (!s) k) = (Ieee.double.read (Ieee.double.word s k)).opposite ∧ (Ieee.double.read (Ieee.double.word s k)).isNaN = false := by
    intro s k hk
    rw [read_word _ _ hk, read_word _ _ hk]
    cases s
    · simp [nn k hk]
    · simp [opp_opp, on, nn k hk]
  cases d with
  | number s m p =>
    simp only [Ieee.Datum.opposite, Ieee.Format.write, nearest_eq]
    exact key s _ (rungF_le m p)
  | infinity s =>
    simp only [Ieee.Datum.opposite, Ieee.Format.write, e_ir]
    exact key s _ (Nat.le_refl _)
  | nan s t => cases h
theorem cn_idem (b : Nat) : cn (cn b) = cn b := by
  rcases cn_cases b with ⟨h1, h2⟩ | ⟨h1, h2⟩
  · rw [h2]; exact cn_qn
  · rw [h2, h2]
theorem add_cnr (a b : Nat) : Ieee.double.add a (cn b) = Ieee.double.add a b := by
  rw [← add_cn a (cn b), cn_idem, add_cn]
theorem sub_cnr (a b : Nat) : Ieee.double.sub a (cn b) = Ieee.double.sub a b := by
  rw [← sub_cn a (cn b), cn_idem, sub_cn]
theorem mul_cnl (a b : Nat) : Ieee.double.mul (cn a) b = Ieee.double.mul a b := by
  rw [← mul_cn (cn a) b, cn_idem, mul_cn]
theorem nan_mul (x : Nat) {y : Nat} (h : isNaN y = true) : Ieee.double.mul x y = none ∧ Ieee.double.mul y x = none := by
  obtain ⟨s, t, hr⟩ := nan_read h
  unfold Ieee.Format.mul
  rw [hr]
  constructor
  · cases Ieee.double.read x <;> rfl
  · rfl
theorem nan_add (x : Nat) {y : Nat} (h : isNaN y = true) : Ieee.double.add x y = none ∧ Ieee.double.sub x y = none := by
  obtain ⟨s, t, hr⟩ := nan_read h
  unfold Ieee.Format.add Ieee.Format.sub
  rw [hr]
  constructor <;> cases Ieee.double.read x <;> rfl
theorem qnN : isNaN qn = true := by decide
/-- ger's step is the document's: a number less a product -/
theorem ger_step {p x y : Nat} : fadd p (fmul (fmul negOne y) x) = fsub p (fmul x y) := by
  have ff : ∀ (f : Nat → Nat → Option Nat) a b, fop f a b = (match f a b with | some r => cn r | none => qn) := fun _ _ _ => rfl
  by_cases hn : isNaN y = true
  · have e1 : fmul negOne y = qn := by show fop _ _ _ = _; rw [ff, (nan_mul negOne hn).1]
    have e2 : fmul qn x = qn := by show fop _ _ _ = _; rw [ff, (nan_mul x qnN).2]
    have e3 : fmul x y = qn := by show fop _ _ _ = _; rw [ff, (nan_mul x hn).1]
    rw [e1, e2, e3]
    show fop _ _ _ = fop _ _ _
    rw [ff, ff, (nan_add p qnN).1, (nan_add p qnN).2]
  · have hn' : isNaN y = false := by simpa using hn
    obtain ⟨r, h1, h2⟩ := mul_negOne hn'
    have e1 : fmul negOne y = cn r := by show fop _ _ _ = _; rw [ff, h1]
    rw [e1]
    have e2 : Ieee.double.mul (cn r) x = ((Ieee.double.read x).product (Ieee.double.read y)).map (fun d => Ieee.double.write d.opposite) := by
      rw [mul_cnl]
      unfold Ieee.Format.mul
      rw [h2, product_opp, product_comm]
      cases (Ieee.double.read x).product (Ieee.double.read y) <;> rfl
    have e3 : Ieee.double.mul x y = ((Ieee.double.read x).product (Ieee.double.read y)).map Ieee.double.write := rfl
    show fop _ p (fop _ _ _) = fop _ p (fop _ _ _)
    simp only [ff]
    rw [e2, e3]
    cases hd : (Ieee.double.read x).product (Ieee.double.read y) with
    | none =>
      simp only [Option.map_none]
      rw [(nan_add p qnN).1, (nan_add p qnN).2]
    | some d =>
      simp only [Option.map_some]
      rw [add_cnr, sub_cnr]
      have hdn : d.isNaN = false := by
        revert hd
        cases Ieee.double.read x <;> cases Ieee.double.read y <;> simp [Ieee.Datum.product] <;> first | (intro hh; subst hh; rfl) | (intro _ hh; subst hh; rfl)
      obtain ⟨h3, h4⟩ := write_opp hdn
      unfold Ieee.Format.add Ieee.Format.sub
      rw [h3]
end Go.Sx

set_option linter.unusedVariables false
set_option linter.unusedSimpArgs false
set_option maxRecDepth 20000
namespace Go.Sx
open Go.Proofs
attribute [local irreducible] Ex exOps exD opX opE thenX blkX RetQ Spec CSpec Fr condK guardK guardD ckK valK pickK loadK faK callK argK gK fK rK RetV lpX prK
set_option maxHeartbeats 4000000 in
theorem vat_c (H : List (List AV)) (D : AV) (l : List Nat) (hF : FL H D l) (off rows cols ld : Int) (hI : MI l.length off rows cols ld) (hG : GoodP l.length off rows cols ld) (i j : Int) (hi : 0 ≤ i) (hj : 0 ≤ j) (hi' : i < rows) (hj' : j < cols) :
    CSpec Try.prog 105 [mt D off rows cols ld, .int .i64 i, .int .i64 j] H (.flt (mel l off ld i.toNat j.toNat)) H := by
  obtain ⟨hn, ho1, ho2, hr1, hr2, hc1, hc2, hl1, hl2⟩ := id hI
  have hpl := (plV_T (show PlaceP l.length off rows cols ld i j from ⟨hG, hi, hj, hi', hj'⟩)).1
  have hpl0 := (plV_T (show PlaceP l.length off rows cols ld i j from ⟨hG, hi, hj, hi', hj'⟩)).2
  have hpl9 := pl_lt hpl0
  have hij : (i.toNat : Int) = i ∧ (j.toNat : Int) = j := ⟨by omega, by omega⟩
  have hmul : (j.toNat : Int) * ld = j * ld := by rw [hij.2]
  refine .mk (fun args w => Try.call105 args w) (Spec.intro' (fn := Try.f105) Try.func105 rfl (by kernel_rfl) (by simp) false [] (draw := drawX Try.prog ⟨false, _, []⟩) dOk ?_)
  simp only [argE, Nat.reduceAdd]
  repeat' (first
    | (refine gateE ?_; (first | (refine b_c0 ?_; (first | refine b_move (by (conv => {lhs; whnf}); done) ?_ | (refine b_fa (by (conv => {lhs; whnf}); done) ?_; first | refine f_loc (by (conv => {lhs; whnf}); done) ?_ | refine f_ptr (by (conv => {lhs; whnf}); done) ?_) | (refine b_load (by (conv => {lhs; whnf}); done) ?_; (first | refine l_loc1 (by exact rfl) (by exact rfl) ?_ | refine l_locA (by exact rfl) (by exact rfl) ?_ | refine l_FL (FL.app hF _) (by omega) ?_ | fail)) | refine b_iaF (by (conv => {lhs; whnf}); done) (by (conv => {lhs; whnf}); done) (by exact hF.len) (by omega) ?_ | (refine b_bin (by (conv => {lhs; whnf}); done) (by (conv => {lhs; whnf}); done) (by (conv => {lhs; whnf}); done) ?_; (first | refine v_T (by omega) ?_ | refine v_F (by omega) ?_ | refine v_w (by omega) ?_ | refine v_wu (by omega) ?_ | refine v_k ?_ | refine v_c (by omega) ?_ | fail)) | refine b_assignF (by kernel_rfl) ?_ | refine b_assignI ?_ | refine b_assignN ?_ | refine b_assign (by (conv => {lhs; whnf}); done) ?_ | refine b_callB ?_ | refine b_box (by (conv => {lhs; whnf}); done) (by exact rfl) (by exact rfl) (by exact rfl) (by exact rfl) ?_ | fail)) | refine b_nil ?_ | fail))
    | (refine gateT ?_; (first | refine b_thn ?_ | refine b_thr ?_ | refine b_the ?_ | fail))
    | (refine gateX ?_; (first | refine b_seq ?_ | refine b_region ?_ | (refine b_cond (by (conv => {lhs; whnf}); done) ?_; (first | refine c_T ?_ | refine c_F ?_ | refine c_P ?_ ?_ | refine c_B ?_ ?_ | fail)) | refine b_ret ?_ | refine b_skip ?_ | refine b_block ?_ | refine b_exit ?_ | fail))
    | refine a_cons (by (conv => {lhs; whnf}); done) ?_
    | refine a_nil ?_
    | (refine gateK ?_; (first | refine c_call (place_c _ D l.length off rows cols ld hF.len hI i j (by omega) (by omega) (by omega) (by omega)) (OldOk.app (by simp)) ?_ | fail))
    | (refine gateQ ?_; refine b_retK (by simp) (by (conv => {lhs; whnf}); done) ?_)
    | (refine gateR ?_; (first | refine rk_tmp (by (conv => {lhs; whnf}); done) ?_ | refine rk_cellA (by (conv => {lhs; whnf}); done) (by exact rfl) (by exact rfl) ?_ | refine rk_cell1 (by (conv => {lhs; whnf}); done) (by exact rfl) (by exact rfl) ?_ | refine rk_nil ?_ | fail))
    | intro _)
  all_goals first | refine rv_old rfl (by simp [mx, mxL, aOf, aOf1, resOne]) ?_ | (trace_state; fail)
  all_goals first
    | (refine congrArg AV.flt ?_; rw [mel_pos, hpl]; unfold pos; congr 2; omega)
    | (exfalso; omega)

set_option maxHeartbeats 4000000 in
theorem grow_c (H : List (List AV)) (D : AV) (l : List Nat) (hF : FL H D l) (off n inc : Int) (hI : VI l.length off n inc) :
    CSpec Try.prog 142 [vt D off n inc] H (mt D off 1 n inc) H := by
  refine .mk (fun args w => Try.call142 args w) (Spec.intro' (fn := Try.f142) Try.func142 rfl (by kernel_rfl) (by simp) false [] (draw := drawX Try.prog ⟨false, _, []⟩) dOk ?_)
  simp only [argE, Nat.reduceAdd]
  repeat' (first
    | (refine gateE ?_; (first | (refine b_c0 ?_; (first | (refine b_fa (by (conv => {lhs; whnf}); done) ?_; first | refine f_loc (by (conv => {lhs; whnf}); done) ?_ | refine f_ptr (by (conv => {lhs; whnf}); done) ?_) | (refine b_load (by (conv => {lhs; whnf}); done) ?_; (first | refine l_loc1 (by exact rfl) (by exact rfl) ?_ | refine l_locA (by exact rfl) (by exact rfl) ?_ | fail)) | refine b_stL (by (conv => {lhs; whnf}); done) (by (conv => {lhs; whnf}); done) (by first | exact (by exact rfl) | exact cells_of_len hF.len | fail) (by exact rfl) (by exact rfl) (by exact Nat.le_of_ble_eq_true rfl) (by (conv => {lhs; simp only [sc, List.set_cons_zero, List.set_cons_succ]}); done) ?_ | refine b_box (by (conv => {lhs; whnf}); done) (by exact rfl) (by exact rfl) (by exact rfl) (by exact rfl) ?_ | refine b_alloc (by exact rfl) (by exact rfl) ?_ | refine b_build ?_ | fail)) | refine b_nil ?_ | fail))
    | (refine gateT ?_; (first | refine b_thn ?_ | refine b_thr ?_ | refine b_the ?_ | fail))
    | (refine gateX ?_; (first | refine b_seq ?_ | refine b_region ?_ | (refine b_cond (by (conv => {lhs; whnf}); done) ?_; (first | refine c_T ?_ | refine c_F ?_ | refine c_P ?_ ?_ | refine c_B ?_ ?_ | fail)) | refine b_ret ?_ | refine b_skip ?_ | refine b_block ?_ | refine b_exit ?_ | fail))
    | refine fk_cons (by (conv => {lhs; whnf}); done) (by first | exact (by exact rfl) | exact cells_of_len hF.len | fail) (by exact rfl) (by exact rfl) (by (conv => {lhs; simp only [sc, List.set_cons_zero, List.set_cons_succ]}); done) ?_
    | refine fk_nil ?_
    | (refine gateQ ?_; refine b_retK (by simp) (by (conv => {lhs; whnf}); done) ?_)
    | (refine gateR ?_; (first | refine rk_tmp (by (conv => {lhs; whnf}); done) ?_ | refine rk_cellA (by (conv => {lhs; whnf}); done) (by exact rfl) (by exact rfl) ?_ | refine rk_cell1 (by (conv => {lhs; whnf}); done) (by exact rfl) (by exact rfl) ?_ | refine rk_nil ?_ | fail))
    | intro _)
  all_goals first
    | (refine rv_old rfl (by have := hF.mx; simp [mx, mxL, resOne, aOf, aOf1]; omega) ?_; exact rfl)

set_option maxHeartbeats 4000000 in
theorem swap_c (H H' : List (List AV)) (b : Nat) (l : List Nat) (hb : H[b]? = some (fl l)) (off ld : Int) (r c : Nat) (hI : MI l.length off r c ld) (hG : GoodP l.length off r c ld) (i k : Nat) (hi : i < r) (hk : k < r) (hik : i ≠ k) (hH : H.set b (fl (setM l off ld r c (swpG (mel l off ld) i k))) = H') :
    CSpec Try.prog 159 [vt (.slm b l.length 0 l.length 1) (rOff off (c : Int) (i : Int)) c ld, vt (.slm b l.length 0 l.length 1) (rOff off (c : Int) (k : Int)) c ld] H (.tup []) H' := by
  subst hH
  obtain ⟨hn, ho1, ho2, hr1, hr2, hc1, hc2, hl1, hl2⟩ := id hI
  have hbl : b < H.length := (List.getElem?_eq_some_iff.1 hb).1
  have hgd := id hG
  obtain ⟨hg1, hg2, hg3, hg4, hg5, hg6⟩ := hgd
  have hS0 : H.set b (fl (setM l off ld r c (swpS (mel l off ld) i k 0))) = H := by (rw [setM_congr (g' := mel l off ld) (by omega) (by omega) (fun i' j _ _ => by simp [swpS]), setM_mel (by omega) (by omega)]; exact set_self hb)
  have hS9 : setM l off ld r c (swpG (mel l off ld) i k) = setM l off ld r c (swpS (mel l off ld) i k c) := setM_congr (by omega) (by omega) (fun i' j _ hj => by simp [swpS, hj])
  rw [hS9]
  refine .mk (fun args w => Try.call159 args w) (Spec.intro' (fn := Try.f159) Try.func159 rfl (by kernel_rfl) (by simp) false [] (draw := drawX Try.prog ⟨false, _, []⟩) dOk ?_)
  simp only [argE, Nat.reduceAdd]
  repeat' (first
    | (refine gateE ?_; (first | (refine b_c0 ?_; (first | refine b_moveF (by kernel_rfl) ?_ | refine b_moveI ?_ | refine b_move (by (conv => {lhs; whnf}); done) ?_ | (refine b_fa (by (conv => {lhs; whnf}); done) ?_; first | refine f_loc (by (conv => {lhs; whnf}); done) ?_ | refine f_ptr (by (conv => {lhs; whnf}); done) ?_) | (refine b_load (by (conv => {lhs; whnf}); done) ?_; (first | refine l_loc1 (by exact rfl) (by exact rfl) ?_ | refine l_locA (by exact rfl) (by exact rfl) ?_ | refine l_bF hbl (by simp) (by simp; first | exact pos_lt hG hi ht | exact pos_lt hG hk ht | fail) ?_ | fail)) | refine b_nilC (by (conv => {lhs; whnf}); done) ?_ | refine b_iaM (m := pos off ld i t) (by (conv => {lhs; whnf}); done) (by (conv => {lhs; whnf}); done) (by exact rfl) (by exact row_pos hG hi ht) (by exact pos_lt hG hi ht) ?_ | refine b_iaM (m := pos off ld k t) (by (conv => {lhs; whnf}); done) (by (conv => {lhs; whnf}); done) (by exact rfl) (by exact row_pos hG hk ht) (by exact pos_lt hG hk ht) ?_ | refine b_stB (X' := setM l off ld r c (updG (swpS (mel l off ld) i k t) i t (mel l off ld k t))) (by (conv => {lhs; whnf}); done) (by (conv => {lhs; whnf}); done) hbl (by simp) (by simp; exact pos_lt hG hi ht) (by rw [Nat.zero_add, Nat.zero_add, ← mel_pos, mel_setM hG hk ht, set_setM hG hi ht]; simp [swpS]) ?_ | refine b_stB (X' := setM l off ld r c (swpS (mel l off ld) i k (t + 1))) (by (conv => {lhs; whnf}); done) (by (conv => {lhs; whnf}); done) hbl (by simp) (by simp; exact pos_lt hG hk ht) (by rw [Nat.zero_add, Nat.zero_add, ← mel_pos, mel_setM hG hi ht, set_setM hG hk ht]; exact setM_congr (by omega) (by omega) (fun i' j _ _ => by rw [← swpS_step hik]; simp [swpS])) ?_ | (refine b_bin (by (conv => {lhs; whnf}); done) (by (conv => {lhs; whnf}); done) (by (conv => {lhs; whnf}); done) ?_; (first | refine v_w (by first | omega | (have h1 := row_pos hG hi ht; have h2 := pos_lt hG hi ht; have h3 := row_pos hG hk ht; have h4 := pos_lt hG hk ht; have h5 := good_place hG (i := 0) (j := (t : Int)) (by omega) (by omega) (by omega) (by omega); omega) | fail) ?_ | refine v_T (by omega) ?_ | refine v_F (by omega) ?_ | refine v_w (by omega) ?_ | refine v_wu (by omega) ?_ | refine v_k ?_ | refine v_c (by omega) ?_ | fail)) | refine b_assign (by (conv => {lhs; whnf}); done) ?_ | refine b_stL (by (conv => {lhs; whnf}); done) (by (conv => {lhs; whnf}); done) (by first | exact (by exact rfl) | exact cells_of_len hF.len | fail) (by exact rfl) (by exact rfl) (by exact Nat.le_of_ble_eq_true rfl) (by (conv => {lhs; simp only [sc, List.set_cons_zero, List.set_cons_succ]}); done) ?_ | refine b_box (by (conv => {lhs; whnf}); done) (by exact rfl) (by exact rfl) (by exact rfl) (by exact rfl) ?_ | fail)) | refine b_nil ?_ | fail))
    | (refine gateO ?_; (first | refine b_moveF (by kernel_rfl) ?_ | refine b_moveI ?_ | refine b_move (by (conv => {lhs; whnf}); done) ?_ | (refine b_fa (by (conv => {lhs; whnf}); done) ?_; first | refine f_loc (by (conv => {lhs; whnf}); done) ?_ | refine f_ptr (by (conv => {lhs; whnf}); done) ?_) | (refine b_load (by (conv => {lhs; whnf}); done) ?_; (first | refine l_loc1 (by exact rfl) (by exact rfl) ?_ | refine l_locA (by exact rfl) (by exact rfl) ?_ | refine l_bF hbl (by simp) (by simp; first | exact pos_lt hG hi ht | exact pos_lt hG hk ht | fail) ?_ | fail)) | refine b_nilC (by (conv => {lhs; whnf}); done) ?_ | refine b_iaM (m := pos off ld i t) (by (conv => {lhs; whnf}); done) (by (conv => {lhs; whnf}); done) (by exact rfl) (by exact row_pos hG hi ht) (by exact pos_lt hG hi ht) ?_ | refine b_iaM (m := pos off ld k t) (by (conv => {lhs; whnf}); done) (by (conv => {lhs; whnf}); done) (by exact rfl) (by exact row_pos hG hk ht) (by exact pos_lt hG hk ht) ?_ | refine b_stB (X' := setM l off ld r c (updG (swpS (mel l off ld) i k t) i t (mel l off ld k t))) (by (conv => {lhs; whnf}); done) (by (conv => {lhs; whnf}); done) hbl (by simp) (by simp; exact pos_lt hG hi ht) (by rw [Nat.zero_add, Nat.zero_add, ← mel_pos, mel_setM hG hk ht, set_setM hG hi ht]; simp [swpS]) ?_ | refine b_stB (X' := setM l off ld r c (swpS (mel l off ld) i k (t + 1))) (by (conv => {lhs; whnf}); done) (by (conv => {lhs; whnf}); done) hbl (by simp) (by simp; exact pos_lt hG hk ht) (by rw [Nat.zero_add, Nat.zero_add, ← mel_pos, mel_setM hG hi ht, set_setM hG hk ht]; exact setM_congr (by omega) (by omega) (fun i' j _ _ => by rw [← swpS_step hik]; simp [swpS])) ?_ | (refine b_bin (by (conv => {lhs; whnf}); done) (by (conv => {lhs; whnf}); done) (by (conv => {lhs; whnf}); done) ?_; (first | refine v_w (by first | omega | (have h1 := row_pos hG hi ht; have h2 := pos_lt hG hi ht; have h3 := row_pos hG hk ht; have h4 := pos_lt hG hk ht; have h5 := good_place hG (i := 0) (j := (t : Int)) (by omega) (by omega) (by omega) (by omega); omega) | fail) ?_ | refine v_T (by omega) ?_ | refine v_F (by omega) ?_ | refine v_w (by omega) ?_ | refine v_wu (by omega) ?_ | refine v_k ?_ | refine v_c (by omega) ?_ | fail)) | refine b_assign (by (conv => {lhs; whnf}); done) ?_ | refine b_stL (by (conv => {lhs; whnf}); done) (by (conv => {lhs; whnf}); done) (by first | exact (by exact rfl) | exact cells_of_len hF.len | fail) (by exact rfl) (by exact rfl) (by exact Nat.le_of_ble_eq_true rfl) (by (conv => {lhs; simp only [sc, List.set_cons_zero, List.set_cons_succ]}); done) ?_ | refine b_box (by (conv => {lhs; whnf}); done) (by exact rfl) (by exact rfl) (by exact rfl) (by exact rfl) ?_ | fail))
    | (refine gateD ?_; (first | (refine d_c0 (by exact rfl) ?_; (first | refine b_moveF (by kernel_rfl) ?_ | refine b_moveI ?_ | refine b_move (by (conv => {lhs; whnf}); done) ?_ | (refine b_fa (by (conv => {lhs; whnf}); done) ?_; first | refine f_loc (by (conv => {lhs; whnf}); done) ?_ | refine f_ptr (by (conv => {lhs; whnf}); done) ?_) | (refine b_load (by (conv => {lhs; whnf}); done) ?_; (first | refine l_loc1 (by exact rfl) (by exact rfl) ?_ | refine l_locA (by exact rfl) (by exact rfl) ?_ | refine l_bF hbl (by simp) (by simp; first | exact pos_lt hG hi ht | exact pos_lt hG hk ht | fail) ?_ | fail)) | refine b_nilC (by (conv => {lhs; whnf}); done) ?_ | refine b_iaM (m := pos off ld i t) (by (conv => {lhs; whnf}); done) (by (conv => {lhs; whnf}); done) (by exact rfl) (by exact row_pos hG hi ht) (by exact pos_lt hG hi ht) ?_ | refine b_iaM (m := pos off ld k t) (by (conv => {lhs; whnf}); done) (by (conv => {lhs; whnf}); done) (by exact rfl) (by exact row_pos hG hk ht) (by exact pos_lt hG hk ht) ?_ | refine b_stB (X' := setM l off ld r c (updG (swpS (mel l off ld) i k t) i t (mel l off ld k t))) (by (conv => {lhs; whnf}); done) (by (conv => {lhs; whnf}); done) hbl (by simp) (by simp; exact pos_lt hG hi ht) (by rw [Nat.zero_add, Nat.zero_add, ← mel_pos, mel_setM hG hk ht, set_setM hG hi ht]; simp [swpS]) ?_ | refine b_stB (X' := setM l off ld r c (swpS (mel l off ld) i k (t + 1))) (by (conv => {lhs; whnf}); done) (by (conv => {lhs; whnf}); done) hbl (by simp) (by simp; exact pos_lt hG hk ht) (by rw [Nat.zero_add, Nat.zero_add, ← mel_pos, mel_setM hG hi ht, set_setM hG hk ht]; exact setM_congr (by omega) (by omega) (fun i' j _ _ => by rw [← swpS_step hik]; simp [swpS])) ?_ | (refine b_bin (by (conv => {lhs; whnf}); done) (by (conv => {lhs; whnf}); done) (by (conv => {lhs; whnf}); done) ?_; (first | refine v_w (by first | omega | (have h1 := row_pos hG hi ht; have h2 := pos_lt hG hi ht; have h3 := row_pos hG hk ht; have h4 := pos_lt hG hk ht; have h5 := good_place hG (i := 0) (j := (t : Int)) (by omega) (by omega) (by omega) (by omega); omega) | fail) ?_ | refine v_T (by omega) ?_ | refine v_F (by omega) ?_ | refine v_w (by omega) ?_ | refine v_wu (by omega) ?_ | refine v_k ?_ | refine v_c (by omega) ?_ | fail)) | refine b_assign (by (conv => {lhs; whnf}); done) ?_ | refine b_stL (by (conv => {lhs; whnf}); done) (by (conv => {lhs; whnf}); done) (by first | exact (by exact rfl) | exact cells_of_len hF.len | fail) (by exact rfl) (by exact rfl) (by exact Nat.le_of_ble_eq_true rfl) (by (conv => {lhs; simp only [sc, List.set_cons_zero, List.set_cons_succ]}); done) ?_ | refine b_box (by (conv => {lhs; whnf}); done) (by exact rfl) (by exact rfl) (by exact rfl) (by exact rfl) ?_ | fail)) | refine d_nil ?_ | fail))
    | (refine gateC ?_; (first | refine k_lt ?_ | refine k_ld (by (conv => {lhs; whnf}); done) (by exact rfl) ?_ | refine k_ldT (by (conv => {lhs; whnf}); done) ?_ | refine k_bin (by (conv => {lhs; whnf}); done) (by exact rfl) ?_ | refine k_mn ?_ | refine k_mnB (by exact rfl) ?_ | refine k_mnF ?_ | fail))
    | (refine gateT ?_; (first | refine b_thn ?_ | refine b_thr ?_ | refine b_the ?_ | fail))
    | (refine gateX ?_; (first | refine b_seq ?_ | refine b_region ?_ | (refine b_cond (by (conv => {lhs; whnf}); done) ?_; (first | refine c_T ?_ | refine c_F ?_ | refine c_P ?_ ?_ | refine c_B ?_ ?_ | fail)) | refine b_ret ?_ | refine b_skip ?_ | refine b_block ?_ | refine b_exit ?_ | refine b_draw (id := 4) [] [] [(0, .lt), (1, .ld true), (2, .lt), (3, .ld true), (4, .lt), (5, .lt), (6, .ld true), (7, .lt), (8, .lt), (9, .lt), (10, .lt), (11, .ld true), (12, .lt), (13, .ld true), (14, .lt), (15, .lt), (16, .ld true), (17, .lt), (18, .lt), (19, .lt), (20, .lt), (21, .lt)] (by kernel_rfl) ?_ | refine b_draw (id := 5) [] [9, 11] [(0, .lt), (1, .lt), (2, .lt), (3, .lt), (4, .ld true), (5, .lt), (6, .lt), (7, .ld true), (8, .lt), (9, .mn false), (10, .lt), (11, .mn false)] (by kernel_rfl) ?_ | (refine b_loop [9, 8, 2, 3] c (fun t => ⟨[(9, .val (.int .i64 (t : Int))), (8, .val (.int .i64 (c : Int))), (2, .loc 2 0), (3, .loc 3 0)], [(2, [(.slm b l.length 0 l.length 1), .int .i64 (rOff off (c : Int) (i : Int)), .int .i64 (c : Int), .int .i64 ld]), (3, [(.slm b l.length 0 l.length 1), .int .i64 (rOff off (c : Int) (k : Int)), .int .i64 (c : Int), .int .i64 ld])], H.set b (fl (setM l off ld r c (swpS (mel l off ld) i k t))) ++ []⟩) (by simp only [hS0]; exact rfl) ?_ ?_ <;> (first | intro t ht K hK | intro K) <;> (try dsimp only at *) <;> (try simp only [Int.natCast_add, Int.natCast_one] at *)) | fail))
    | (refine gateB ?_; (first | refine b_bln ?_ | refine b_blr ?_ | refine b_ble ?_ | refine b_blo (by exact rfl) ?_ | fail))
    | (refine gateL ?_; (first | refine lp_n ?_ | refine lp_r ?_ | refine lp_e ?_ | fail))
    | (refine pr_k (by exact rfl) ?_; first | exact hK | fail | (exfalso; first | omega | (simp_all; done) | (simp_all; omega)))
    | (refine gateQ ?_; refine b_retK (by simp) (by (conv => {lhs; whnf}); done) ?_)
    | (refine gateR ?_; (first | refine rk_tmp (by (conv => {lhs; whnf}); done) ?_ | refine rk_cellA (by (conv => {lhs; whnf}); done) (by exact rfl) (by exact rfl) ?_ | refine rk_cell1 (by (conv => {lhs; whnf}); done) (by exact rfl) (by exact rfl) ?_ | refine rk_nil ?_ | fail))
    | intro _)
  all_goals first
    | (refine rv_old (by simp) (by simp [mx, mxL, resOne]) ?_; exact rfl)


end Go.Sx

set_option linter.unusedVariables false
set_option linter.unusedSimpArgs false
set_option maxRecDepth 20000
namespace Go.Sx
open Go.Proofs
attribute [local irreducible] Ex exOps exD opX opE thenX blkX RetQ Spec CSpec Fr condK guardK guardD ckK valK pickK loadK faK callK argK gK fK rK RetV lpX prK
set_option maxHeartbeats 4000000 in
theorem rows_c (H H' : List (List AV)) (b : Nat) (l : List Nat) (hb : H[b]? = some (fl l)) (off ld : Int) (r c : Nat) (hI : MI l.length off r c ld) (hG : GoodP l.length off r c ld) (i k : Nat) (hi : i < r) (hk : k < r) (hH : H.set b (fl (setM l off ld r c (swpG (mel l off ld) i k))) = H') :
    CSpec Try.prog 140 [mt (.slm b l.length 0 l.length 1) off r c ld, .int .i64 (i : Int), .int .i64 (k : Int)] H (.int .i64 0) H' := by
  subst hH
  obtain ⟨hn, ho1, ho2, hr1, hr2, hc1, hc2, hl1, hl2⟩ := id hI
  have hbl : b < H.length := (List.getElem?_eq_some_iff.1 hb).1
  have hgd := id hG
  obtain ⟨hg1, hg2, hg3, hg4, hg5, hg6⟩ := hgd
  refine .mk (fun args w => Try.call140 args w) (Spec.intro' (fn := Try.f140) Try.func140 rfl (by kernel_rfl) (by simp) false [] (draw := drawX Try.prog ⟨false, _, []⟩) dOk ?_)
  simp only [argE, Nat.reduceAdd]
  repeat' (first
    | (refine gateE ?_; (first | (refine b_c0 ?_; (first | refine b_move (by (conv => {lhs; whnf}); done) ?_ | (refine b_fa (by (conv => {lhs; whnf}); done) ?_; first | refine f_loc (by (conv => {lhs; whnf}); done) ?_ | refine f_ptr (by (conv => {lhs; whnf}); done) ?_) | (refine b_load (by (conv => {lhs; whnf}); done) ?_; (first | refine l_loc1 (by exact rfl) (by exact rfl) ?_ | refine l_locA (by exact rfl) (by exact rfl) ?_ | fail)) | (refine b_bin (by (conv => {lhs; whnf}); done) (by (conv => {lhs; whnf}); done) (by (conv => {lhs; whnf}); done) ?_; (first | refine v_neT (by omega) ?_ | refine v_neF (by omega) ?_ | refine v_neP ?_ | refine v_T (by omega) ?_ | refine v_F (by omega) ?_ | refine v_w (by omega) ?_ | refine v_wu (by omega) ?_ | refine v_nT ?_ | refine v_nF ?_ | refine v_nP ?_ | refine v_k ?_ | refine v_c (by omega) ?_ | fail)) | (refine b_pick (by (conv => {lhs; whnf}); done) ?_; (first | refine p_T (by (conv => {lhs; whnf}); done) ?_ | refine p_F (by (conv => {lhs; whnf}); done) ?_ | fail)) | refine b_assignF (by kernel_rfl) ?_ | refine b_assignI ?_ | refine b_assignN ?_ | refine b_assign (by (conv => {lhs; whnf}); done) ?_ | (refine b_un (by (conv => {lhs; whnf}); done) (by (conv => {lhs; whnf}); done) ?_; (first | refine v_neT (by omega) ?_ | refine v_neF (by omega) ?_ | refine v_neP ?_ | refine v_T (by omega) ?_ | refine v_F (by omega) ?_ | refine v_w (by omega) ?_ | refine v_wu (by omega) ?_ | refine v_nT ?_ | refine v_nF ?_ | refine v_nP ?_ | refine v_k ?_ | refine v_c (by omega) ?_ | fail)) | refine b_callB ?_ | refine b_box (by (conv => {lhs; whnf}); done) (by exact rfl) (by exact rfl) (by exact rfl) (by exact rfl) ?_ | fail)) | refine b_nil ?_ | refine b_gT (by exact rfl) (by exact rfl) ?_ | refine b_gF (by exact rfl) (by exact rfl) (by exact rfl) ?_ | refine b_gU (by exact rfl) (by exact rfl) (by constructor <;> simp) (by exact rfl) (by exact rfl) ?_ | (refine b_g0 (by exact rfl) (by exact rfl) (by (conv => {lhs; whnf}); done) ?_; (first | refine g_TT ?_ | refine g_FF ?_ | refine g_TF ?_ | refine g_FT ?_ | refine g_PT ?_ ?_ | refine g_PF ?_ ?_ | refine g_BT ?_ ?_ | refine g_BF ?_ ?_ | fail)) | (refine b_g1 (by exact rfl) (by exact rfl) (by exact rfl) (by (conv => {lhs; whnf}); done) ?_; (first | refine g_TT ?_ | refine g_FF ?_ | refine g_TF ?_ | refine g_FT ?_ | refine g_PT ?_ ?_ | refine g_PF ?_ ?_ | refine g_BT ?_ ?_ | refine g_BF ?_ ?_ | fail)) | refine b_c1 (by exact rfl) ?_ | fail))
    | (refine gateO ?_; (first | refine b_move (by (conv => {lhs; whnf}); done) ?_ | (refine b_fa (by (conv => {lhs; whnf}); done) ?_; first | refine f_loc (by (conv => {lhs; whnf}); done) ?_ | refine f_ptr (by (conv => {lhs; whnf}); done) ?_) | (refine b_load (by (conv => {lhs; whnf}); done) ?_; (first | refine l_loc1 (by exact rfl) (by exact rfl) ?_ | refine l_locA (by exact rfl) (by exact rfl) ?_ | fail)) | (refine b_bin (by (conv => {lhs; whnf}); done) (by (conv => {lhs; whnf}); done) (by (conv => {lhs; whnf}); done) ?_; (first | refine v_neT (by omega) ?_ | refine v_neF (by omega) ?_ | refine v_neP ?_ | refine v_T (by omega) ?_ | refine v_F (by omega) ?_ | refine v_w (by omega) ?_ | refine v_wu (by omega) ?_ | refine v_nT ?_ | refine v_nF ?_ | refine v_nP ?_ | refine v_k ?_ | refine v_c (by omega) ?_ | fail)) | (refine b_pick (by (conv => {lhs; whnf}); done) ?_; (first | refine p_T (by (conv => {lhs; whnf}); done) ?_ | refine p_F (by (conv => {lhs; whnf}); done) ?_ | fail)) | refine b_assignF (by kernel_rfl) ?_ | refine b_assignI ?_ | refine b_assignN ?_ | refine b_assign (by (conv => {lhs; whnf}); done) ?_ | (refine b_un (by (conv => {lhs; whnf}); done) (by (conv => {lhs; whnf}); done) ?_; (first | refine v_neT (by omega) ?_ | refine v_neF (by omega) ?_ | refine v_neP ?_ | refine v_T (by omega) ?_ | refine v_F (by omega) ?_ | refine v_w (by omega) ?_ | refine v_wu (by omega) ?_ | refine v_nT ?_ | refine v_nF ?_ | refine v_nP ?_ | refine v_k ?_ | refine v_c (by omega) ?_ | fail)) | refine b_callB ?_ | refine b_box (by (conv => {lhs; whnf}); done) (by exact rfl) (by exact rfl) (by exact rfl) (by exact rfl) ?_ | fail))
    | (refine gateD ?_; (first | (refine d_c0 (by exact rfl) ?_; (first | refine b_move (by (conv => {lhs; whnf}); done) ?_ | (refine b_fa (by (conv => {lhs; whnf}); done) ?_; first | refine f_loc (by (conv => {lhs; whnf}); done) ?_ | refine f_ptr (by (conv => {lhs; whnf}); done) ?_) | (refine b_load (by (conv => {lhs; whnf}); done) ?_; (first | refine l_loc1 (by exact rfl) (by exact rfl) ?_ | refine l_locA (by exact rfl) (by exact rfl) ?_ | fail)) | (refine b_bin (by (conv => {lhs; whnf}); done) (by (conv => {lhs; whnf}); done) (by (conv => {lhs; whnf}); done) ?_; (first | refine v_neT (by omega) ?_ | refine v_neF (by omega) ?_ | refine v_neP ?_ | refine v_T (by omega) ?_ | refine v_F (by omega) ?_ | refine v_w (by omega) ?_ | refine v_wu (by omega) ?_ | refine v_nT ?_ | refine v_nF ?_ | refine v_nP ?_ | refine v_k ?_ | refine v_c (by omega) ?_ | fail)) | (refine b_pick (by (conv => {lhs; whnf}); done) ?_; (first | refine p_T (by (conv => {lhs; whnf}); done) ?_ | refine p_F (by (conv => {lhs; whnf}); done) ?_ | fail)) | refine b_assignF (by kernel_rfl) ?_ | refine b_assignI ?_ | refine b_assignN ?_ | refine b_assign (by (conv => {lhs; whnf}); done) ?_ | (refine b_un (by (conv => {lhs; whnf}); done) (by (conv => {lhs; whnf}); done) ?_; (first | refine v_neT (by omega) ?_ | refine v_neF (by omega) ?_ | refine v_neP ?_ | refine v_T (by omega) ?_ | refine v_F (by omega) ?_ | refine v_w (by omega) ?_ | refine v_wu (by omega) ?_ | refine v_nT ?_ | refine v_nF ?_ | refine v_nP ?_ | refine v_k ?_ | refine v_c (by omega) ?_ | fail)) | refine b_callB ?_ | refine b_box (by (conv => {lhs; whnf}); done) (by exact rfl) (by exact rfl) (by exact rfl) (by exact rfl) ?_ | fail)) | refine d_nil ?_ | refine d_gT (by exact rfl) (by exact rfl) (by exact rfl) ?_ | refine d_gF (by exact rfl) (by exact rfl) (by exact rfl) (by exact rfl) ?_ | refine d_gU (by exact rfl) (by exact rfl) (by exact rfl) (by constructor <;> simp) (by exact rfl) (by exact rfl) ?_ | (refine d_g0 (by exact rfl) (by exact rfl) (by exact rfl) (by (conv => {lhs; whnf}); done) ?_; (first | refine dg_TT ?_ | refine dg_FF ?_ | refine dg_TF ?_ | refine dg_FT ?_ | refine dg_PT ?_ ?_ | refine dg_PF ?_ ?_ | refine dg_BT ?_ ?_ | refine dg_BF ?_ ?_ | fail)) | (refine d_g1 (by exact rfl) (by exact rfl) (by exact rfl) (by exact rfl) (by (conv => {lhs; whnf}); done) ?_; (first | refine dg_TT ?_ | refine dg_FF ?_ | refine dg_TF ?_ | refine dg_FT ?_ | refine dg_PT ?_ ?_ | refine dg_PF ?_ ?_ | refine dg_BT ?_ ?_ | refine dg_BF ?_ ?_ | fail)) | refine d_c1 (by exact rfl) (by exact rfl) ?_ | fail))
    | (refine gateC ?_; (first | refine k_lt ?_ | refine k_ld (by (conv => {lhs; whnf}); done) (by exact rfl) ?_ | refine k_ldT (by (conv => {lhs; whnf}); done) ?_ | refine k_bin (by (conv => {lhs; whnf}); done) (by exact rfl) ?_ | refine k_mn ?_ | refine k_mnB (by exact rfl) ?_ | refine k_mnF ?_ | fail))
    | (refine gateT ?_; (first | refine b_thn ?_ | refine b_thr ?_ | refine b_the ?_ | fail))
    | (refine gateX ?_; (first | refine b_seq ?_ | refine b_region ?_ | (refine b_cond (by (conv => {lhs; whnf}); done) ?_; (first | refine c_T ?_ | refine c_F ?_ | refine c_P ?_ ?_ | refine c_B ?_ ?_ | fail)) | refine b_ret ?_ | refine b_skip ?_ | refine b_block ?_ | refine b_exit ?_ | refine b_draw (id := 4) [] [6] [(0, .ld true), (1, .lt), (3, .ld true), (4, .lt), (2, .mn true), (5, .mn true), (6, .mn false)] (by kernel_rfl) ?_ | fail))
    | refine a_cons (by (conv => {lhs; whnf}); done) ?_
    | refine a_nil ?_
    | (refine gateK ?_; (first | refine c_call (good_c _ _ l.length off _ _ ld (by exact rfl) hI) (OldOk.app (by simp)) ?_ | refine c_call (row_c _ _ l ((FL.old hb (by exact rfl) rfl).app _) off _ _ ld hI hG (i : Int) (by omega) (by omega)) (OldOk.app (by simp)) ?_ | refine c_call (row_c _ _ l ((FL.old hb (by exact rfl) rfl).app _) off _ _ ld hI hG (k : Int) (by omega) (by omega)) (OldOk.app (by simp)) ?_ | refine c_call (swap_c _ _ b l (hg_old hb) off ld r c hI hG i k hi hk (by omega) (hs_old hbl)) (OldOk.set (by simp) (by rw [mxL_fl]; omega)) ?_ | fail))
    | (refine gateQ ?_; refine b_retK (by simp) (by (conv => {lhs; whnf}); done) ?_)
    | (refine gateR ?_; (first | refine rk_tmp (by (conv => {lhs; whnf}); done) ?_ | refine rk_cellA (by (conv => {lhs; whnf}); done) (by exact rfl) (by exact rfl) ?_ | refine rk_cell1 (by (conv => {lhs; whnf}); done) (by exact rfl) (by exact rfl) ?_ | refine rk_nil ?_ | fail))
    | intro _)
  all_goals first
    | (exfalso; first | contradiction | omega)
    | (have hik : i = k := by omega
       subst hik
       rw [setM_congr (g' := mel l off ld) (by omega) (by omega) (fun i' j _ _ => swpG_same i' j), setM_mel (by omega) (by omega), set_self hb]
       refine rv_old rfl (by simp [mx, mxL, aOf, aOf1, resOne]) ?_; exact rfl)
    | (refine rv_old (by simp) (by simp [mx, mxL, aOf, aOf1, resOne]) ?_; exact rfl)

set_option maxHeartbeats 4000000 in
theorem most_c (H : List (List AV)) (D : AV) (l : List Nat) (hF : FL H D l) (off inc : Int) (n : Nat) (hI : VI l.length off n inc) (hR : RightP l.length off n inc) (hn0 : 0 < n) :
    CSpec Try.prog 139 [vt D off n inc] H (.tup [.int .i64 (moN (vecL l off (n : Int) inc) n : Int), .int .i64 0]) H := by
  obtain ⟨hm, ho1, ho2, hn1, hn2, hi1, hi2⟩ := id hI
  have hlt : ∀ k, 0 < k → moN (vecL l off (n : Int) inc) k < k := fun k hk => moN_lt _ k hk
  have hg : ∀ k : Nat, k < n → l.getD (off + (k : Int) * inc).toNat 0 = (vecL l off (n : Int) inc).getD k 0 := fun k hk => (vecL_get (by omega)).symm
  refine .mk (fun args w => Try.call139 args w) (Spec.intro' (fn := Try.f139) Try.func139 rfl (by kernel_rfl) (by simp) false [] (draw := drawX Try.prog ⟨false, _, []⟩) dOk ?_)
  simp only [argE, Nat.reduceAdd]
  repeat' (first
    | (refine gateE ?_; (first | (refine b_c0 ?_; (first | refine b_moveF (by kernel_rfl) ?_ | refine b_moveI ?_ | refine b_move (by (conv => {lhs; whnf}); done) ?_ | (refine b_fa (by (conv => {lhs; whnf}); done) ?_; first | refine f_loc (by (conv => {lhs; whnf}); done) ?_ | refine f_ptr (by (conv => {lhs; whnf}); done) ?_) | (refine b_load (by (conv => {lhs; whnf}); done) ?_; (first | refine l_loc1 (by exact rfl) (by exact rfl) ?_ | refine l_locA (by exact rfl) (by exact rfl) ?_ | fail)) | (refine b_bin (by (conv => {lhs; whnf}); done) (by (conv => {lhs; whnf}); done) (by (conv => {lhs; whnf}); done) ?_; (first | refine v_T (by omega) ?_ | refine v_F (by omega) ?_ | refine v_w (by omega) ?_ | refine v_wu (by omega) ?_ | refine v_nT ?_ | refine v_nF ?_ | refine v_nP ?_ | refine v_k ?_ | refine v_c (by omega) ?_ | fail)) | (refine b_pick (by (conv => {lhs; whnf}); done) ?_; (first | refine p_T (by (conv => {lhs; whnf}); done) ?_ | refine p_F (by (conv => {lhs; whnf}); done) ?_ | fail)) | refine b_assignF (by kernel_rfl) ?_ | refine b_assignI ?_ | refine b_assignN ?_ | refine b_assign (by (conv => {lhs; whnf}); done) ?_ | (refine b_un (by (conv => {lhs; whnf}); done) (by (conv => {lhs; whnf}); done) ?_; (first | refine v_T (by omega) ?_ | refine v_F (by omega) ?_ | refine v_w (by omega) ?_ | refine v_wu (by omega) ?_ | refine v_nT ?_ | refine v_nF ?_ | refine v_nP ?_ | refine v_k ?_ | refine v_c (by omega) ?_ | fail)) | refine b_callB ?_ | refine b_box (by (conv => {lhs; whnf}); done) (by exact rfl) (by exact rfl) (by exact rfl) (by exact rfl) ?_ | fail)) | refine b_nil ?_ | refine b_gT (by exact rfl) (by exact rfl) ?_ | refine b_gF (by exact rfl) (by exact rfl) (by exact rfl) ?_ | refine b_gU (by exact rfl) (by exact rfl) (by constructor <;> simp) (by exact rfl) (by exact rfl) ?_ | (refine b_g0 (by exact rfl) (by exact rfl) (by (conv => {lhs; whnf}); done) ?_; (first | refine g_TT ?_ | refine g_FF ?_ | refine g_TF ?_ | refine g_FT ?_ | refine g_PT ?_ ?_ | refine g_PF ?_ ?_ | refine g_BT ?_ ?_ | refine g_BF ?_ ?_ | fail)) | (refine b_g1 (by exact rfl) (by exact rfl) (by exact rfl) (by (conv => {lhs; whnf}); done) ?_; (first | refine g_TT ?_ | refine g_FF ?_ | refine g_TF ?_ | refine g_FT ?_ | refine g_PT ?_ ?_ | refine g_PF ?_ ?_ | refine g_BT ?_ ?_ | refine g_BF ?_ ?_ | fail)) | refine b_c1 (by exact rfl) ?_ | fail))
    | (refine gateO ?_; (first | refine b_moveF (by kernel_rfl) ?_ | refine b_moveI ?_ | refine b_move (by (conv => {lhs; whnf}); done) ?_ | (refine b_fa (by (conv => {lhs; whnf}); done) ?_; first | refine f_loc (by (conv => {lhs; whnf}); done) ?_ | refine f_ptr (by (conv => {lhs; whnf}); done) ?_) | (refine b_load (by (conv => {lhs; whnf}); done) ?_; (first | refine l_loc1 (by exact rfl) (by exact rfl) ?_ | refine l_locA (by exact rfl) (by exact rfl) ?_ | fail)) | (refine b_bin (by (conv => {lhs; whnf}); done) (by (conv => {lhs; whnf}); done) (by (conv => {lhs; whnf}); done) ?_; (first | refine v_T (by omega) ?_ | refine v_F (by omega) ?_ | refine v_w (by omega) ?_ | refine v_wu (by omega) ?_ | refine v_nT ?_ | refine v_nF ?_ | refine v_nP ?_ | refine v_k ?_ | refine v_c (by omega) ?_ | fail)) | (refine b_pick (by (conv => {lhs; whnf}); done) ?_; (first | refine p_T (by (conv => {lhs; whnf}); done) ?_ | refine p_F (by (conv => {lhs; whnf}); done) ?_ | fail)) | refine b_assignF (by kernel_rfl) ?_ | refine b_assignI ?_ | refine b_assignN ?_ | refine b_assign (by (conv => {lhs; whnf}); done) ?_ | (refine b_un (by (conv => {lhs; whnf}); done) (by (conv => {lhs; whnf}); done) ?_; (first | refine v_T (by omega) ?_ | refine v_F (by omega) ?_ | refine v_w (by omega) ?_ | refine v_wu (by omega) ?_ | refine v_nT ?_ | refine v_nF ?_ | refine v_nP ?_ | refine v_k ?_ | refine v_c (by omega) ?_ | fail)) | refine b_callB ?_ | refine b_box (by (conv => {lhs; whnf}); done) (by exact rfl) (by exact rfl) (by exact rfl) (by exact rfl) ?_ | fail))
    | (refine gateD ?_; (first | (refine d_c0 (by exact rfl) ?_; (first | refine b_moveF (by kernel_rfl) ?_ | refine b_moveI ?_ | refine b_move (by (conv => {lhs; whnf}); done) ?_ | (refine b_fa (by (conv => {lhs; whnf}); done) ?_; first | refine f_loc (by (conv => {lhs; whnf}); done) ?_ | refine f_ptr (by (conv => {lhs; whnf}); done) ?_) | (refine b_load (by (conv => {lhs; whnf}); done) ?_; (first | refine l_loc1 (by exact rfl) (by exact rfl) ?_ | refine l_locA (by exact rfl) (by exact rfl) ?_ | fail)) | (refine b_bin (by (conv => {lhs; whnf}); done) (by (conv => {lhs; whnf}); done) (by (conv => {lhs; whnf}); done) ?_; (first | refine v_T (by omega) ?_ | refine v_F (by omega) ?_ | refine v_w (by omega) ?_ | refine v_wu (by omega) ?_ | refine v_nT ?_ | refine v_nF ?_ | refine v_nP ?_ | refine v_k ?_ | refine v_c (by omega) ?_ | fail)) | (refine b_pick (by (conv => {lhs; whnf}); done) ?_; (first | refine p_T (by (conv => {lhs; whnf}); done) ?_ | refine p_F (by (conv => {lhs; whnf}); done) ?_ | fail)) | refine b_assignF (by kernel_rfl) ?_ | refine b_assignI ?_ | refine b_assignN ?_ | refine b_assign (by (conv => {lhs; whnf}); done) ?_ | (refine b_un (by (conv => {lhs; whnf}); done) (by (conv => {lhs; whnf}); done) ?_; (first | refine v_T (by omega) ?_ | refine v_F (by omega) ?_ | refine v_w (by omega) ?_ | refine v_wu (by omega) ?_ | refine v_nT ?_ | refine v_nF ?_ | refine v_nP ?_ | refine v_k ?_ | refine v_c (by omega) ?_ | fail)) | refine b_callB ?_ | refine b_box (by (conv => {lhs; whnf}); done) (by exact rfl) (by exact rfl) (by exact rfl) (by exact rfl) ?_ | fail)) | refine d_nil ?_ | refine d_gT (by exact rfl) (by exact rfl) (by exact rfl) ?_ | refine d_gF (by exact rfl) (by exact rfl) (by exact rfl) (by exact rfl) ?_ | refine d_gU (by exact rfl) (by exact rfl) (by exact rfl) (by constructor <;> simp) (by exact rfl) (by exact rfl) ?_ | (refine d_g0 (by exact rfl) (by exact rfl) (by exact rfl) (by (conv => {lhs; whnf}); done) ?_; (first | refine dg_TT ?_ | refine dg_FF ?_ | refine dg_TF ?_ | refine dg_FT ?_ | refine dg_PT ?_ ?_ | refine dg_PF ?_ ?_ | refine dg_BT ?_ ?_ | refine dg_BF ?_ ?_ | fail)) | (refine d_g1 (by exact rfl) (by exact rfl) (by exact rfl) (by exact rfl) (by (conv => {lhs; whnf}); done) ?_; (first | refine dg_TT ?_ | refine dg_FF ?_ | refine dg_TF ?_ | refine dg_FT ?_ | refine dg_PT ?_ ?_ | refine dg_PF ?_ ?_ | refine dg_BT ?_ ?_ | refine dg_BF ?_ ?_ | fail)) | refine d_c1 (by exact rfl) (by exact rfl) ?_ | fail))
    | (refine gateC ?_; (first | refine k_lt ?_ | refine k_ld (by (conv => {lhs; whnf}); done) (by exact rfl) ?_ | refine k_ldT (by (conv => {lhs; whnf}); done) ?_ | refine k_bin (by (conv => {lhs; whnf}); done) (by exact rfl) ?_ | refine k_mn ?_ | refine k_mnB (by exact rfl) ?_ | refine k_mnF ?_ | fail))
    | (refine gateT ?_; (first | refine b_thn ?_ | refine b_thr ?_ | refine b_the ?_ | fail))
    | (refine gateX ?_; (first | refine b_seq ?_ | refine b_region ?_ | (refine b_cond (by (conv => {lhs; whnf}); done) ?_; (first | refine c_T ?_ | refine c_F ?_ | refine c_P ?_ ?_ | refine c_B ?_ ?_ | fail)) | refine b_ret ?_ | refine b_skip ?_ | refine b_block ?_ | refine b_exit ?_ | refine b_draw (id := 7) [] [] [(0, .lt), (1, .lt), (2, .lt), (3, .ld true), (4, .lt), (7, .ld true), (8, .lt), (5, .mn true), (6, .mn true), (9, .mn true), (10, .mn true), (11, .lt), (12, .lt)] (by kernel_rfl) ?_ | (refine b_loop [11, 10, 1, 4, 3, 2] n (fun k => ⟨[(11, .val (.int .i64 (k : Int))), (10, .val (.int .i64 (n : Int))), (1, .loc 1 0), (4, .val (.int .i64 (moI (vecL l off (n : Int) inc) k))), (3, .val (.int .i64 0)), (2, .val (.int .i64 0))], [(1, [D, .int .i64 off, .int .i64 (n : Int), .int .i64 inc])], H ++ []⟩) (by exact rfl) ?_ ?_ <;> (first | (intro k hk K hK; rcases Nat.eq_zero_or_pos k with h0 | h0) | intro K) <;> (try dsimp only at *) <;> (try simp only [Int.natCast_add, Int.natCast_one] at *) <;> (try (first | (subst h0; simp only [moI_zero, moI_one] at *) | (simp only [moI_pos h0, moI_pos (Nat.succ_pos k)] at *)))) | fail))
    | refine a_cons (by (conv => {lhs; whnf}); done) ?_
    | refine a_nil ?_
    | (refine gateK ?_; (first | refine c_call (right_c _ D l (FL.app hF _) off n inc hI) (OldOk.app (by simp)) ?_ | refine c_call (at_c _ D l (FL.app hF _) off _ inc hI hR (k : Int) (by omega) (by omega)) (OldOk.app (by simp)) ?_ | refine c_call (at_c _ D l (FL.app hF _) off _ inc hI hR ((moN _ k : Nat) : Int) (by omega) (by have := hlt k h0; omega)) (OldOk.app (by simp)) ?_ | refine c_call (mabs_c _ _) (OldOk.app (by simp)) ?_ | fail))
    | (refine gateB ?_; (first | refine b_bln ?_ | refine b_blr ?_ | refine b_ble ?_ | refine b_blo (by exact rfl) ?_ | fail))
    | (refine gateL ?_; (first | refine lp_n ?_ | refine lp_r ?_ | refine lp_e ?_ | fail))
    | (refine pr_k (by exact rfl) ?_; first | exact hK | (rw [moN_T h0 (by rw [← hg k hk, ← hg _ (by have := hlt k h0; omega)]; assumption)] at hK; exact hK) | (rw [moN_F h0 (by rw [← hg k hk, ← hg _ (by have := hlt k h0; omega)]; assumption)] at hK; exact hK) | (exfalso; first | omega | (simp_all; done) | (simp_all; omega)))
    | (refine gateQ ?_; refine b_retK (by simp) (by (conv => {lhs; whnf}); done) ?_)
    | (refine gateR ?_; (first | refine rk_tmp (by (conv => {lhs; whnf}); done) ?_ | refine rk_cellA (by (conv => {lhs; whnf}); done) (by exact rfl) (by exact rfl) ?_ | refine rk_cell1 (by (conv => {lhs; whnf}); done) (by exact rfl) (by exact rfl) ?_ | refine rk_nil ?_ | fail))
    | intro _)
  all_goals first
    | (exfalso; contradiction)
    | (refine rv_old rfl (by simp [mx, mxL, aOf, aOf1, resOne]) ?_; rw [moI_pos hn0]; exact rfl)


end Go.Sx

set_option linter.unusedVariables false
set_option linter.unusedSimpArgs false
namespace Go.Sx
theorem hs_set2 {H N : List (List AV)} {b : Nat} {X Y : List AV} (h : b < H.length) : (H.set b X ++ N).set b Y = H.set b Y ++ N := by
  rw [hs_old (by simpa using h), List.set_set]
theorem hg_set {H N : List (List AV)} {b : Nat} {X : List AV} (h : b < H.length) : (H.set b X ++ N)[b]? = some X := hg_old (hb_set h)
/-! ### the factors, step by step -/
def colK (g : Nat → Nat → Nat) (k n : Nat) : List Nat := rml (fun i => g (k + i) k) (n - k)
@[simp] theorem colK_len (g : Nat → Nat → Nat) (k n : Nat) : (colK g k n).length = n - k := by simp [colK]
def pvK (g : Nat → Nat → Nat) (k n : Nat) : Nat := k + moN (colK g k n) (n - k)
theorem pvK_lt {g : Nat → Nat → Nat} {k n : Nat} (h : k < n) : pvK g k n < n := by
  have := moN_lt (colK g k n) (n - k) (by omega)
  unfold pvK; omega
def swK (g : Nat → Nat → Nat) (k n : Nat) : Nat → Nat → Nat := swpG g k (pvK g k n)
def divG (g : Nat → Nat → Nat) (k : Nat) : Nat → Nat → Nat := fun i j => if k < i ∧ j = k then fdiv (g i k) (g k k) else g i j
def subG (g : Nat → Nat → Nat) (k : Nat) : Nat → Nat → Nat := fun i j => if k < i ∧ k < j then fsub (g i j) (fmul (g i k) (g k j)) else g i j
def elG (g : Nat → Nat → Nat) (k : Nat) : Nat → Nat → Nat := subG (divG g k) k
def stG (g : Nat → Nat → Nat) (n : Nat) : Nat → Nat → Nat → Nat
  | 0 => g
  | k + 1 => elG (swK (stG g n k) k n) k
def sgK (g : Nat → Nat → Nat) (n k : Nat) : Bool := feq (swK (stG g n k) k n k k) 0
def pvL (g : Nat → Nat → Nat) (n k : Nat) : List Int := (List.range k).map fun t => (pvK (stG g n t) t n : Int)
@[simp] theorem pvL_len (g : Nat → Nat → Nat) (n k : Nat) : (pvL g n k).length = k := by simp [pvL]
theorem pvL_succ (g : Nat → Nat → Nat) (n k : Nat) : pvL g n (k + 1) = pvL g n k ++ [(pvK (stG g n k) k n : Int)] := by simp [pvL, List.range_succ]
theorem pvL_il (g : Nat → Nat → Nat) (n k : Nat) : il (pvL g n k) ++ [.int .i64 (pvK (stG g n k) k n : Int)] = il (pvL g n (k + 1)) := by rw [pvL_succ]; simp [il]
/-- the first step whose pivot is 0 -/
def fN (g : Nat → Nat → Nat) (n : Nat) : Nat := (List.range n).findIdx (sgK g n)
theorem fN_le (g : Nat → Nat → Nat) (n : Nat) : fN g n ≤ n := by
  have := List.findIdx_le_length (xs := List.range n) (p := sgK g n)
  simpa [fN] using this
theorem fN_lt {g : Nat → Nat → Nat} {n k : Nat} (h : k < fN g n) : sgK g n k = false := by
  have := List.not_of_lt_findIdx (xs := List.range n) (p := sgK g n) (i := k) h
  simpa using this
theorem fN_at {g : Nat → Nat → Nat} {n : Nat} (h : fN g n < n) : sgK g n (fN g n) = true := by
  have h' : (List.range n).findIdx (sgK g n) < (List.range n).length := by simpa [fN] using h
  have := List.findIdx_getElem (xs := List.range n) (p := sgK g n) (w := h')
  simpa [fN] using this
theorem elG_row {g : Nat → Nat → Nat} {k i j : Nat} (h : i ≤ k) : elG g k i j = g i j := by
  unfold elG subG divG
  rw [if_neg (by omega), if_neg (by omega)]
end Go.Sx

set_option linter.unusedVariables false
set_option linter.unusedSimpArgs false
set_option maxRecDepth 20000
namespace Go.Sx
open Go.Proofs
attribute [local irreducible] Ex exOps exD opX opE thenX blkX RetQ Spec CSpec Fr condK guardK guardD ckK valK pickK loadK faK callK argK gK fK rK RetV lpX prK
theorem tat_m (H : List (List AV)) (A : AV) (g : Nat → Nat → Nat) (r c : Nat) (hA : FL H A (rmA g r c)) (hr : r ≤ 1000) (hc : c ≤ 1000) (i j : Nat) (hi : i < r) (hj : j < c) : CSpec Try.prog 42 [mM A r c, .int .i64 (i : Int), .int .i64 (j : Int)] H (.flt (g i j)) H := by
  have := tat_c H A _ hA r c (by simp) hr hc i j hi hj
  rwa [rmA_get hi hj] at this
theorem tset_m (H H' : List (List AV)) (b : Nat) (g g' : Nat → Nat → Nat) (r c : Nat) (hb : H[b]? = some (fl (rmA g r c))) (hr : r ≤ 1000) (hc : c ≤ 1000) (i j : Nat) (hi : i < r) (hj : j < c) (x : Nat) (hg : ∀ i' j', i' < r → j' < c → updG g i j x i' j' = g' i' j') (hH : H.set b (fl (rmA g' r c)) = H') : CSpec Try.prog 94 [mM (.slm b (r * c) 0 (r * c) 1) r c, .int .i64 (i : Int), .int .i64 (j : Int), .flt x] H (.tup []) H' :=
  tset_c H H' b _ hb r c (by simp) hr hc i j hi hj x (by rw [rmA_set hi hj, rmA_congr hg]; exact hH)
end Go.Sx

set_option linter.unusedVariables false
set_option linter.unusedSimpArgs false
namespace Go.Sx
theorem sc_all {cs xs : List AV} (h : xs.length = cs.length) : sc cs 0 xs = xs := by
  apply List.ext_getElem?
  intro i
  rw [sc_get _ _ _ _ (by omega)]
  by_cases hi : i < xs.length
  · rw [if_pos (by omega)]; simp
  · rw [if_neg (by omega), List.getElem?_eq_none (by omega), List.getElem?_eq_none (by omega)]
section
variable {P : Program} {cfg : Cfg} {e : List (Nat × EV)} {L : List (Nat × List AV)} {H N : List (List AV)} {K : St → Prop}
variable {ty : TypeId} {pos : String} {aft : Array Edge} {gd : Option (Nat × Bool)} {dd : Nat}
/-- a whole block is written over -/
theorem b_cpyF {t tx el el' : TypeId} {z' : Nat} {s x : Operand} {n i g q m : Nat} {tag : Option (Nat × Nat)} {xs cs : List AV} {A N N' : List (List AV)} [si : SlI P t el 1] [sj : SlI P tx el' z'] (hs : St.ev ⟨e, L, A ++ N⟩ s = .val (.slm (n + i) g 0 q 1)) (hx : St.ev ⟨e, L, A ++ N⟩ x = .val (.sl tag m xs))
    (hA : A.length = n) (hc : N[i]? = some cs) (hg : cs.length = g) (hq : q = g) (hm : m = g) (hxl : xs.length = g) (hn : cfg.n0 = n) (hN : N.set i xs = N') (h : K ⟨(dd, .val (.int .i64 (g : Int))) :: e, L, A ++ N'⟩) :
    opX P cfg ⟨some dd, .call { callee := .builtin .copy, args := #[s, x], argTypes := #[t, tx] }, ty, pos, aft, gd⟩ K ⟨e, L, A ++ N⟩ := by
  subst hA
  have hsrc : srcX (A ++ N) 1 (.sl tag m xs) = some (m, xs) := src_fz (by omega)
  simp only [opX, opE, List.map_cons, List.map_nil, hs, hx, EV.asV, si.h, si.z, sj.h, sj.z, Option.bind_some, hsrc, cpyX, hg_new rfl hc]
  refine ⟨by omega, trivial, hg, .inl (by omega), by omega, ?_⟩
  have e1 : sc cs 0 (xs.take (min m q * 1)) = xs := by
    rw [show min m q * 1 = xs.length by omega, List.take_length]
    exact sc_all (by omega)
  rw [e1, hs_new rfl hN, show min m q = g by omega]
  exact h
end
theorem v_to {e : List (Nat × EV)} {L : List (Nat × List AV)} {H : List (List AV)} {K : St → Prop} {dd : Nat} (n' : Int) {n : Int} (hw : -9223372036854775808 ≤ n ∧ n ≤ 9223372036854775807) (hn : n = n') (h : K ⟨(dd, .val (.int .i64 n')) :: e, L, H⟩) : valK dd K ⟨e, L, H⟩ (some (True, .int .i64 (IntKind.i64.wrap n))) := by
  subst hn; exact v_w hw h
theorem colk_right {n : Nat} {off ld : Int} {r c k j : Nat} (hG : GoodP n off r c ld) (hk : k < c) (hj : j ≤ r) : RightP n (cOff off r ld k + (j : Int)) ((r - j : Nat) : Int) 1 := by
  obtain ⟨h1, h2, h3, h4⟩ := col_right hG (j := (k : Int)) (by omega) (by omega)
  refine ⟨by omega, by omega, by omega, ?_⟩
  rcases h4 with h4 | h4
  · exact .inl (by omega)
  · by_cases h : j = r
    · exact .inl (by omega)
    · exact .inr (by omega)
theorem colk_vec {l : List Nat} {off ld : Int} {r c k j : Nat} (hG : GoodP l.length off r c ld) (hk : k < c) (hj : j ≤ r) : vecL l (cOff off r ld k + (j : Int)) ((r - j : Nat) : Int) 1 = rml (fun i => mel l off ld (j + i) k) (r - j) := by
  unfold vecL rml
  rw [Int.toNat_natCast]
  refine List.map_congr_left fun i hi => ?_
  have hi' : i < r - j := by simpa using hi
  have := col_pos hG (i := j + i) (t := k) (by omega) hk
  rw [mel_pos]
  congr 1
  omega
/-- a column, divided number by number -/
def dvS (g : Nat → Nat → Nat) (k t : Nat) : Nat → Nat → Nat := fun i j => if k < i ∧ i < k + 1 + t ∧ j = k then fdiv (g i k) (g k k) else g i j
theorem dvS_zero {g : Nat → Nat → Nat} {k : Nat} (i j : Nat) : dvS g k 0 i j = g i j := by unfold dvS; rw [if_neg (by omega)]
theorem dvS_all {g : Nat → Nat → Nat} {k n : Nat} (h : k < n) (i j : Nat) (hi : i < n) : dvS g k (n - (k + 1)) i j = divG g k i j := by
  unfold dvS divG
  by_cases h1 : k < i ∧ j = k
  · rw [if_pos (by omega), if_pos h1]
  · rw [if_neg (by omega), if_neg h1]
theorem dvS_step {g : Nat → Nat → Nat} {k t : Nat} (i j : Nat) : updG (dvS g k t) (k + 1 + t) k (fdiv (dvS g k t (k + 1 + t) k) (g k k)) i j = dvS g k (t + 1) i j := by
  have e1 : dvS g k t (k + 1 + t) k = g (k + 1 + t) k := by unfold dvS; rw [if_neg (by omega)]
  rw [e1]
  unfold updG dvS
  by_cases h1 : i = k + 1 + t ∧ j = k
  · obtain ⟨rfl, rfl⟩ := h1
    rw [if_pos ⟨rfl, rfl⟩, if_pos (by omega)]
  · rw [if_neg h1]
    by_cases h2 : k < i ∧ i < k + 1 + t ∧ j = k
    · rw [if_pos h2, if_pos (by omega)]
    · rw [if_neg h2, if_neg (by omega)]
/-! ### a list that grows while others, too, have become -/
theorem gN_ne {l : List AV} (h : l ≠ []) : gN l = [l] := if_neg h
theorem set_last {α : Type} {A : List α} {x y : α} {i : Nat} (h : i = A.length) : (A ++ [x]).set i y = A ++ [y] := by
  subst h; rw [List.set_append_right _ _ (Nat.le_refl _)]; simp
theorem get_last {α : Type} {A : List α} {x : α} {i : Nat} (h : i = A.length) : (A ++ [x])[i]? = some x := by
  subst h; simp
end Go.Sx

set_option linter.unusedVariables false
set_option linter.unusedSimpArgs false
set_option maxRecDepth 20000
namespace Go.Sx
open Go.Proofs
attribute [local irreducible] Ex exOps exD opX opE thenX blkX RetQ Spec CSpec Fr condK guardK guardD ckK valK pickK loadK faK callK argK gK fK rK RetV lpX prK
def pOff (off ld i j r c : Int) : Int := if 0 < r ∧ 0 < c then off + (i + j * ld) else off
set_option maxHeartbeats 4000000 in
theorem part_c (H : List (List AV)) (D : AV) (l : List Nat) (hF : FL H D l) (off rows cols ld : Int) (hI : MI l.length off rows cols ld) (hG : GoodP l.length off rows cols ld) (i j r c : Int) (hi : 0 ≤ i) (hj : 0 ≤ j) (hr : 0 ≤ r) (hc : 0 ≤ c) (hir : i + r ≤ rows) (hjc : j + c ≤ cols) :
    CSpec Try.prog 107 [mt D off rows cols ld, .int .i64 i, .int .i64 j, .int .i64 r, .int .i64 c] H (mt D (pOff off ld i j r c) r c ld) H := by
  obtain ⟨hn, ho1, ho2, hr1, hr2, hc1, hc2, hl1, hl2⟩ := id hI
  have hgd := id hG
  obtain ⟨hg1, hg2, hg3, hg4, hg5, hg6⟩ := hgd
  refine .mk (fun args w => Try.call107 args w) (Spec.intro' (fn := Try.f107) Try.func107 rfl (by kernel_rfl) (by simp) false [] (draw := drawX Try.prog ⟨false, _, []⟩) dOk ?_)
  simp only [argE, Nat.reduceAdd]
  repeat' (first
    | (refine gateE ?_; (first | (refine b_c0 ?_; (first | refine b_move (by (conv => {lhs; whnf}); done) ?_ | (refine b_fa (by (conv => {lhs; whnf}); done) ?_; first | refine f_loc (by (conv => {lhs; whnf}); done) ?_ | refine f_ptr (by (conv => {lhs; whnf}); done) ?_) | (refine b_load (by (conv => {lhs; whnf}); done) ?_; (first | refine l_loc1 (by exact rfl) (by exact rfl) ?_ | refine l_locA (by exact rfl) (by exact rfl) ?_ | fail)) | (refine b_bin (by (conv => {lhs; whnf}); done) (by (conv => {lhs; whnf}); done) (by (conv => {lhs; whnf}); done) ?_; (first | refine v_w (by first | omega | (have hp := good_place hG (i := i) (j := j) (by omega) (by omega) (by omega) (by omega); have hp2 := good_place hG (i := 0) (j := j) (by omega) (by omega) (by omega) (by omega); omega) | fail) ?_ | refine v_T (by omega) ?_ | refine v_F (by omega) ?_ | refine v_w (by omega) ?_ | refine v_wu (by omega) ?_ | refine v_nT ?_ | refine v_nF ?_ | refine v_nP ?_ | refine v_k ?_ | refine v_c (by omega) ?_ | fail)) | (refine b_pick (by (conv => {lhs; whnf}); done) ?_; (first | refine p_T (by (conv => {lhs; whnf}); done) ?_ | refine p_F (by (conv => {lhs; whnf}); done) ?_ | fail)) | (refine b_un (by (conv => {lhs; whnf}); done) (by (conv => {lhs; whnf}); done) ?_; (first | refine v_w (by first | omega | (have hp := good_place hG (i := i) (j := j) (by omega) (by omega) (by omega) (by omega); have hp2 := good_place hG (i := 0) (j := j) (by omega) (by omega) (by omega) (by omega); omega) | fail) ?_ | refine v_T (by omega) ?_ | refine v_F (by omega) ?_ | refine v_w (by omega) ?_ | refine v_wu (by omega) ?_ | refine v_nT ?_ | refine v_nF ?_ | refine v_nP ?_ | refine v_k ?_ | refine v_c (by omega) ?_ | fail)) | refine b_callB ?_ | refine b_stL (by (conv => {lhs; whnf}); done) (by (conv => {lhs; whnf}); done) (by first | exact (by exact rfl) | exact cells_of_len hF.len | fail) (by exact rfl) (by exact rfl) (by exact Nat.le_of_ble_eq_true rfl) (by (conv => {lhs; simp only [sc, List.set_cons_zero, List.set_cons_succ]}); done) ?_ | refine b_box (by (conv => {lhs; whnf}); done) (by exact rfl) (by exact rfl) (by exact rfl) (by exact rfl) ?_ | refine b_alloc (by exact rfl) (by exact rfl) ?_ | refine b_build ?_ | fail)) | refine b_nil ?_ | refine b_gT (by exact rfl) (by exact rfl) ?_ | refine b_gF (by exact rfl) (by exact rfl) (by exact rfl) ?_ | refine b_gU (by exact rfl) (by exact rfl) (by constructor <;> simp) (by exact rfl) (by exact rfl) ?_ | (refine b_g0 (by exact rfl) (by exact rfl) (by (conv => {lhs; whnf}); done) ?_; (first | refine g_TT ?_ | refine g_FF ?_ | refine g_TF ?_ | refine g_FT ?_ | refine g_PT ?_ ?_ | refine g_PF ?_ ?_ | refine g_BT ?_ ?_ | refine g_BF ?_ ?_ | fail)) | (refine b_g1 (by exact rfl) (by exact rfl) (by exact rfl) (by (conv => {lhs; whnf}); done) ?_; (first | refine g_TT ?_ | refine g_FF ?_ | refine g_TF ?_ | refine g_FT ?_ | refine g_PT ?_ ?_ | refine g_PF ?_ ?_ | refine g_BT ?_ ?_ | refine g_BF ?_ ?_ | fail)) | refine b_c1 (by exact rfl) ?_ | fail))
    | (refine gateO ?_; (first | refine b_move (by (conv => {lhs; whnf}); done) ?_ | (refine b_fa (by (conv => {lhs; whnf}); done) ?_; first | refine f_loc (by (conv => {lhs; whnf}); done) ?_ | refine f_ptr (by (conv => {lhs; whnf}); done) ?_) | (refine b_load (by (conv => {lhs; whnf}); done) ?_; (first | refine l_loc1 (by exact rfl) (by exact rfl) ?_ | refine l_locA (by exact rfl) (by exact rfl) ?_ | fail)) | (refine b_bin (by (conv => {lhs; whnf}); done) (by (conv => {lhs; whnf}); done) (by (conv => {lhs; whnf}); done) ?_; (first | refine v_w (by first | omega | (have hp := good_place hG (i := i) (j := j) (by omega) (by omega) (by omega) (by omega); have hp2 := good_place hG (i := 0) (j := j) (by omega) (by omega) (by omega) (by omega); omega) | fail) ?_ | refine v_T (by omega) ?_ | refine v_F (by omega) ?_ | refine v_w (by omega) ?_ | refine v_wu (by omega) ?_ | refine v_nT ?_ | refine v_nF ?_ | refine v_nP ?_ | refine v_k ?_ | refine v_c (by omega) ?_ | fail)) | (refine b_pick (by (conv => {lhs; whnf}); done) ?_; (first | refine p_T (by (conv => {lhs; whnf}); done) ?_ | refine p_F (by (conv => {lhs; whnf}); done) ?_ | fail)) | (refine b_un (by (conv => {lhs; whnf}); done) (by (conv => {lhs; whnf}); done) ?_; (first | refine v_w (by first | omega | (have hp := good_place hG (i := i) (j := j) (by omega) (by omega) (by omega) (by omega); have hp2 := good_place hG (i := 0) (j := j) (by omega) (by omega) (by omega) (by omega); omega) | fail) ?_ | refine v_T (by omega) ?_ | refine v_F (by omega) ?_ | refine v_w (by omega) ?_ | refine v_wu (by omega) ?_ | refine v_nT ?_ | refine v_nF ?_ | refine v_nP ?_ | refine v_k ?_ | refine v_c (by omega) ?_ | fail)) | refine b_callB ?_ | refine b_stL (by (conv => {lhs; whnf}); done) (by (conv => {lhs; whnf}); done) (by first | exact (by exact rfl) | exact cells_of_len hF.len | fail) (by exact rfl) (by exact rfl) (by exact Nat.le_of_ble_eq_true rfl) (by (conv => {lhs; simp only [sc, List.set_cons_zero, List.set_cons_succ]}); done) ?_ | refine b_box (by (conv => {lhs; whnf}); done) (by exact rfl) (by exact rfl) (by exact rfl) (by exact rfl) ?_ | refine b_alloc (by exact rfl) (by exact rfl) ?_ | refine b_build ?_ | fail))
    | (refine gateT ?_; (first | refine b_thn ?_ | refine b_thr ?_ | refine b_the ?_ | fail))
    | (refine gateX ?_; (first | refine b_seq ?_ | refine b_region ?_ | (refine b_cond (by (conv => {lhs; whnf}); done) ?_; (first | refine c_T ?_ | refine c_F ?_ | refine c_P ?_ ?_ | refine c_B ?_ ?_ | fail)) | refine b_ret ?_ | refine b_skip ?_ | refine b_block ?_ | refine b_exit ?_ | fail))
    | refine a_cons (by (conv => {lhs; whnf}); done) ?_
    | refine a_nil ?_
    | (refine gateK ?_; (first | refine c_call (good_c _ D l.length off rows cols ld hF.len hI) (OldOk.app (by simp)) ?_ | fail))
    | refine fk_cons (by (conv => {lhs; whnf}); done) (by first | exact (by exact rfl) | exact cells_of_len hF.len | fail) (by exact rfl) (by exact rfl) (by (conv => {lhs; simp only [sc, List.set_cons_zero, List.set_cons_succ]}); done) ?_
    | refine fk_nil ?_
    | (refine gateQ ?_; refine b_retK (by simp) (by (conv => {lhs; whnf}); done) ?_)
    | (refine gateR ?_; (first | refine rk_tmp (by (conv => {lhs; whnf}); done) ?_ | refine rk_cellA (by (conv => {lhs; whnf}); done) (by exact rfl) (by exact rfl) ?_ | refine rk_cell1 (by (conv => {lhs; whnf}); done) (by exact rfl) (by exact rfl) ?_ | refine rk_nil ?_ | fail))
    | intro _)
  all_goals first
    | (exfalso; contradiction)
    | (exfalso; omega)
    | (refine rv_old rfl (by have := hF.mx; simp [mx, mxL, resOne, aOf, aOf1]; omega) ?_; unfold pOff; first | (rw [if_pos (by omega)]; exact rfl) | (rw [if_neg (by omega)]; exact rfl) | fail)

set_option maxHeartbeats 4000000 in
theorem clone_k (H H' : List (List AV)) (D : AV) (l : List Nat) (hF : FL H D l) (off ld : Int) (r c : Nat) (hI : MI l.length off r c ld) (hG : GoodP l.length off r c ld) (hr : r ≤ 64) (hc : c ≤ 64) (m : Nat) (hm : H.length = m) (hH : H ++ [fl (cmA (mel l off ld) r c)] = H') :
    CSpec Try.prog 138 [mt D off r c ld] H (.tup [mt (.slm m (r * c) 0 (r * c) 1) 0 r c ((max r 1 : Nat) : Int), .int .i64 0]) H' := by
  subst hH hm
  obtain ⟨hn, ho1, ho2, hr1, hr2, hc1, hc2, hl1, hl2⟩ := id hI
  refine .mk (fun args w => Try.call138 args w) (Spec.intro' (fn := Try.f138) Try.func138 rfl (by kernel_rfl) (by simp) false [] (draw := drawX Try.prog ⟨false, _, []⟩) dOk ?_)
  simp only [argE, Nat.reduceAdd]
  repeat' (first
    | (refine gateE ?_; (first | (refine b_c0 ?_; (first | refine b_move (by (conv => {lhs; whnf}); done) ?_ | (refine b_fa (by (conv => {lhs; whnf}); done) ?_; first | refine f_loc (by (conv => {lhs; whnf}); done) ?_ | refine f_ptr (by (conv => {lhs; whnf}); done) ?_) | (refine b_load (by (conv => {lhs; whnf}); done) ?_; (first | refine l_loc1 (by exact rfl) (by exact rfl) ?_ | refine l_locA (by exact rfl) (by exact rfl) ?_ | fail)) | refine b_cpyF (by (conv => {lhs; whnf}); done) (by (conv => {lhs; whnf}); done) (by exact rfl) (by exact rfl) (by simp [denseL_len]) (by exact rfl) (by simp) (by simp) (by exact rfl) (by (conv => {lhs; simp only [List.set_cons_zero, List.set_cons_succ]}); done) ?_ | (refine b_bin (by (conv => {lhs; whnf}); done) (by (conv => {lhs; whnf}); done) (by (conv => {lhs; whnf}); done) ?_; (first | refine v_T (by omega) ?_ | refine v_F (by omega) ?_ | refine v_w (by omega) ?_ | refine v_wu (by omega) ?_ | refine v_nT ?_ | refine v_nF ?_ | refine v_nP ?_ | refine v_k ?_ | refine v_c (by omega) ?_ | fail)) | (refine b_pick (by (conv => {lhs; whnf}); done) ?_; (first | refine p_T (by (conv => {lhs; whnf}); done) ?_ | refine p_F (by (conv => {lhs; whnf}); done) ?_ | fail)) | refine b_assignF (by kernel_rfl) ?_ | refine b_assignI ?_ | refine b_assignN ?_ | refine b_assign (by (conv => {lhs; whnf}); done) ?_ | (refine b_un (by (conv => {lhs; whnf}); done) (by (conv => {lhs; whnf}); done) ?_; (first | refine v_T (by omega) ?_ | refine v_F (by omega) ?_ | refine v_w (by omega) ?_ | refine v_wu (by omega) ?_ | refine v_nT ?_ | refine v_nF ?_ | refine v_nP ?_ | refine v_k ?_ | refine v_c (by omega) ?_ | fail)) | refine b_callB ?_ | refine b_stL (by (conv => {lhs; whnf}); done) (by (conv => {lhs; whnf}); done) (by first | exact (by exact rfl) | exact cells_of_len hF.len | fail) (by exact rfl) (by exact rfl) (by exact Nat.le_of_ble_eq_true rfl) (by (conv => {lhs; simp only [sc, List.set_cons_zero, List.set_cons_succ]}); done) ?_ | refine b_box (by (conv => {lhs; whnf}); done) (by exact rfl) (by exact rfl) (by exact rfl) (by exact rfl) ?_ | refine b_alloc (by exact rfl) (by exact rfl) ?_ | refine b_build ?_ | fail)) | refine b_nil ?_ | refine b_gT (by exact rfl) (by exact rfl) ?_ | refine b_gF (by exact rfl) (by exact rfl) (by exact rfl) ?_ | refine b_gU (by exact rfl) (by exact rfl) (by constructor <;> simp) (by exact rfl) (by exact rfl) ?_ | (refine b_g0 (by exact rfl) (by exact rfl) (by (conv => {lhs; whnf}); done) ?_; (first | refine g_TT ?_ | refine g_FF ?_ | refine g_TF ?_ | refine g_FT ?_ | refine g_PT ?_ ?_ | refine g_PF ?_ ?_ | refine g_BT ?_ ?_ | refine g_BF ?_ ?_ | fail)) | (refine b_g1 (by exact rfl) (by exact rfl) (by exact rfl) (by (conv => {lhs; whnf}); done) ?_; (first | refine g_TT ?_ | refine g_FF ?_ | refine g_TF ?_ | refine g_FT ?_ | refine g_PT ?_ ?_ | refine g_PF ?_ ?_ | refine g_BT ?_ ?_ | refine g_BF ?_ ?_ | fail)) | refine b_c1 (by exact rfl) ?_ | fail))
    | (refine gateO ?_; (first | refine b_move (by (conv => {lhs; whnf}); done) ?_ | (refine b_fa (by (conv => {lhs; whnf}); done) ?_; first | refine f_loc (by (conv => {lhs; whnf}); done) ?_ | refine f_ptr (by (conv => {lhs; whnf}); done) ?_) | (refine b_load (by (conv => {lhs; whnf}); done) ?_; (first | refine l_loc1 (by exact rfl) (by exact rfl) ?_ | refine l_locA (by exact rfl) (by exact rfl) ?_ | fail)) | refine b_cpyF (by (conv => {lhs; whnf}); done) (by (conv => {lhs; whnf}); done) (by exact rfl) (by exact rfl) (by simp [denseL_len]) (by exact rfl) (by simp) (by simp) (by exact rfl) (by (conv => {lhs; simp only [List.set_cons_zero, List.set_cons_succ]}); done) ?_ | (refine b_bin (by (conv => {lhs; whnf}); done) (by (conv => {lhs; whnf}); done) (by (conv => {lhs; whnf}); done) ?_; (first | refine v_T (by omega) ?_ | refine v_F (by omega) ?_ | refine v_w (by omega) ?_ | refine v_wu (by omega) ?_ | refine v_nT ?_ | refine v_nF ?_ | refine v_nP ?_ | refine v_k ?_ | refine v_c (by omega) ?_ | fail)) | (refine b_pick (by (conv => {lhs; whnf}); done) ?_; (first | refine p_T (by (conv => {lhs; whnf}); done) ?_ | refine p_F (by (conv => {lhs; whnf}); done) ?_ | fail)) | refine b_assignF (by kernel_rfl) ?_ | refine b_assignI ?_ | refine b_assignN ?_ | refine b_assign (by (conv => {lhs; whnf}); done) ?_ | (refine b_un (by (conv => {lhs; whnf}); done) (by (conv => {lhs; whnf}); done) ?_; (first | refine v_T (by omega) ?_ | refine v_F (by omega) ?_ | refine v_w (by omega) ?_ | refine v_wu (by omega) ?_ | refine v_nT ?_ | refine v_nF ?_ | refine v_nP ?_ | refine v_k ?_ | refine v_c (by omega) ?_ | fail)) | refine b_callB ?_ | refine b_stL (by (conv => {lhs; whnf}); done) (by (conv => {lhs; whnf}); done) (by first | exact (by exact rfl) | exact cells_of_len hF.len | fail) (by exact rfl) (by exact rfl) (by exact Nat.le_of_ble_eq_true rfl) (by (conv => {lhs; simp only [sc, List.set_cons_zero, List.set_cons_succ]}); done) ?_ | refine b_box (by (conv => {lhs; whnf}); done) (by exact rfl) (by exact rfl) (by exact rfl) (by exact rfl) ?_ | refine b_alloc (by exact rfl) (by exact rfl) ?_ | refine b_build ?_ | fail))
    | (refine gateD ?_; (first | (refine d_c0 (by exact rfl) ?_; (first | refine b_move (by (conv => {lhs; whnf}); done) ?_ | (refine b_fa (by (conv => {lhs; whnf}); done) ?_; first | refine f_loc (by (conv => {lhs; whnf}); done) ?_ | refine f_ptr (by (conv => {lhs; whnf}); done) ?_) | (refine b_load (by (conv => {lhs; whnf}); done) ?_; (first | refine l_loc1 (by exact rfl) (by exact rfl) ?_ | refine l_locA (by exact rfl) (by exact rfl) ?_ | fail)) | refine b_cpyF (by (conv => {lhs; whnf}); done) (by (conv => {lhs; whnf}); done) (by exact rfl) (by exact rfl) (by simp [denseL_len]) (by exact rfl) (by simp) (by simp) (by exact rfl) (by (conv => {lhs; simp only [List.set_cons_zero, List.set_cons_succ]}); done) ?_ | (refine b_bin (by (conv => {lhs; whnf}); done) (by (conv => {lhs; whnf}); done) (by (conv => {lhs; whnf}); done) ?_; (first | refine v_T (by omega) ?_ | refine v_F (by omega) ?_ | refine v_w (by omega) ?_ | refine v_wu (by omega) ?_ | refine v_nT ?_ | refine v_nF ?_ | refine v_nP ?_ | refine v_k ?_ | refine v_c (by omega) ?_ | fail)) | (refine b_pick (by (conv => {lhs; whnf}); done) ?_; (first | refine p_T (by (conv => {lhs; whnf}); done) ?_ | refine p_F (by (conv => {lhs; whnf}); done) ?_ | fail)) | refine b_assignF (by kernel_rfl) ?_ | refine b_assignI ?_ | refine b_assignN ?_ | refine b_assign (by (conv => {lhs; whnf}); done) ?_ | (refine b_un (by (conv => {lhs; whnf}); done) (by (conv => {lhs; whnf}); done) ?_; (first | refine v_T (by omega) ?_ | refine v_F (by omega) ?_ | refine v_w (by omega) ?_ | refine v_wu (by omega) ?_ | refine v_nT ?_ | refine v_nF ?_ | refine v_nP ?_ | refine v_k ?_ | refine v_c (by omega) ?_ | fail)) | refine b_callB ?_ | refine b_stL (by (conv => {lhs; whnf}); done) (by (conv => {lhs; whnf}); done) (by first | exact (by exact rfl) | exact cells_of_len hF.len | fail) (by exact rfl) (by exact rfl) (by exact Nat.le_of_ble_eq_true rfl) (by (conv => {lhs; simp only [sc, List.set_cons_zero, List.set_cons_succ]}); done) ?_ | refine b_box (by (conv => {lhs; whnf}); done) (by exact rfl) (by exact rfl) (by exact rfl) (by exact rfl) ?_ | refine b_alloc (by exact rfl) (by exact rfl) ?_ | refine b_build ?_ | fail)) | refine d_nil ?_ | refine d_gT (by exact rfl) (by exact rfl) (by exact rfl) ?_ | refine d_gF (by exact rfl) (by exact rfl) (by exact rfl) (by exact rfl) ?_ | refine d_gU (by exact rfl) (by exact rfl) (by exact rfl) (by constructor <;> simp) (by exact rfl) (by exact rfl) ?_ | (refine d_g0 (by exact rfl) (by exact rfl) (by exact rfl) (by (conv => {lhs; whnf}); done) ?_; (first | refine dg_TT ?_ | refine dg_FF ?_ | refine dg_TF ?_ | refine dg_FT ?_ | refine dg_PT ?_ ?_ | refine dg_PF ?_ ?_ | refine dg_BT ?_ ?_ | refine dg_BF ?_ ?_ | fail)) | (refine d_g1 (by exact rfl) (by exact rfl) (by exact rfl) (by exact rfl) (by (conv => {lhs; whnf}); done) ?_; (first | refine dg_TT ?_ | refine dg_FF ?_ | refine dg_TF ?_ | refine dg_FT ?_ | refine dg_PT ?_ ?_ | refine dg_PF ?_ ?_ | refine dg_BT ?_ ?_ | refine dg_BF ?_ ?_ | fail)) | refine d_c1 (by exact rfl) (by exact rfl) ?_ | fail))
    | (refine gateC ?_; (first | refine k_lt ?_ | refine k_ld (by (conv => {lhs; whnf}); done) (by exact rfl) ?_ | refine k_ldT (by (conv => {lhs; whnf}); done) ?_ | refine k_bin (by (conv => {lhs; whnf}); done) (by exact rfl) ?_ | refine k_mn ?_ | refine k_mnB (by exact rfl) ?_ | refine k_mnF ?_ | refine k_mnL (by exact rfl) ?_ | fail))
    | (refine gateT ?_; (first | refine b_thn ?_ | refine b_thr ?_ | refine b_the ?_ | fail))
    | (refine gateX ?_; (first | refine b_seq ?_ | refine b_region ?_ | (refine b_cond (by (conv => {lhs; whnf}); done) ?_; (first | refine c_T ?_ | refine c_F ?_ | refine c_P ?_ ?_ | refine c_B ?_ ?_ | fail)) | refine b_ret ?_ | refine b_skip ?_ | refine b_block ?_ | refine b_exit ?_ | refine b_draw (id := 6) [] [4] [(0, .lt), (1, .ld true), (2, .ld true), (3, .mn true), (4, .mn false)] (by kernel_rfl) ?_ | fail))
    | refine a_consF (by kernel_rfl) ?_
    | refine a_consI ?_
    | refine a_cons (by (conv => {lhs; whnf}); done) ?_
    | refine a_nil ?_
    | (refine gateK ?_; (first | refine c_call (good_c _ D l.length off _ _ ld hF.len hI) (OldOk.app (by simp)) ?_ | refine c_call (dense_k _ _ r c hr hc .slnil [] (FL.nil _) (by simp) _ (by (conv => {lhs; simp only [List.length_append, List.length_cons, List.length_nil, List.length_set, Nat.reduceAdd, Nat.zero_add]}); done) (by (conv => {lhs; simp only [List.append_assoc, List.cons_append, List.nil_append]}); done)) (OldOk.app (by simp)) ?_ | refine c_call (numbers_c _ D l (FL.app hF _) off r c ld hI hG (by omega) (by omega)) (OldOk.app (by simp)) ?_ | fail))
    | refine fk_cons (by (conv => {lhs; whnf}); done) (by first | exact (by exact rfl) | exact cells_of_len hF.len | fail) (by exact rfl) (by exact rfl) (by (conv => {lhs; simp only [sc, List.set_cons_zero, List.set_cons_succ]}); done) ?_
    | refine fk_nil ?_
    | (refine gateB ?_; (first | refine b_bln ?_ | refine b_blr ?_ | refine b_ble ?_ | refine b_blo (by exact rfl) ?_ | fail))
    | (refine gateQ ?_; refine b_retK (by simp) (by (conv => {lhs; whnf}); done) ?_)
    | (refine gateR ?_; (first | refine rk_tmp (by (conv => {lhs; whnf}); done) ?_ | refine rk_cellA (by (conv => {lhs; whnf}); done) (by exact rfl) (by exact rfl) ?_ | refine rk_cell1 (by (conv => {lhs; whnf}); done) (by exact rfl) (by exact rfl) ?_ | refine rk_nil ?_ | fail))
    | intro _)
  all_goals first
    | (exfalso; contradiction)
    | (exfalso; omega)
    | exact rv_kp (j := 0) (cs := fl (cmA (mel l off ld) r c)) rfl rfl (by rw [mxL_fl]; exact Nat.zero_le _) (Fr.tup (Frs.cons (Fr.agg (Frs.cons (Fr.kp (j := 0) (cs := fl (cmA (mel l off ld) r c)) rfl (hg_new rfl rfl) (by simp)) (Frs.old (by simp [mxL, mx])))) (Frs.cons (Fr.old (by simp [mx])) Frs.nil)))

set_option maxHeartbeats 4000000 in
theorem square_k (H H' : List (List AV)) (D : AV) (l : List Nat) (hF : FL H D l) (off ld : Int) (n : Nat) (hI : MI l.length off n n ld) (hG : GoodP l.length off n n ld) (hn6 : n ≤ 64) (m : Nat) (hm : H.length = m) (hH : H ++ [fl (cmA (mel l off ld) n n)] = H') :
    CSpec Try.prog 102 [mt D off n n ld] H (.tup [mt (.slm m (n * n) 0 (n * n) 1) 0 n n ((max n 1 : Nat) : Int), .int .i64 0]) H' := by
  subst hH hm
  obtain ⟨hn, ho1, ho2, hr1, hr2, hc1, hc2, hl1, hl2⟩ := id hI
  refine .mk (fun args w => Try.call102 args w) (Spec.intro' (fn := Try.f102) Try.func102 rfl (by kernel_rfl) (by simp) false [] (draw := drawX Try.prog ⟨false, _, []⟩) dOk ?_)
  simp only [argE, Nat.reduceAdd]
  repeat' (first
    | (refine gateE ?_; (first | (refine b_c0 ?_; (first | (refine b_fa (by (conv => {lhs; whnf}); done) ?_; first | refine f_loc (by (conv => {lhs; whnf}); done) ?_ | refine f_ptr (by (conv => {lhs; whnf}); done) ?_) | (refine b_load (by (conv => {lhs; whnf}); done) ?_; (first | refine l_loc1 (by exact rfl) (by exact rfl) ?_ | refine l_locA (by exact rfl) (by exact rfl) ?_ | fail)) | (refine b_bin (by (conv => {lhs; whnf}); done) (by (conv => {lhs; whnf}); done) (by (conv => {lhs; whnf}); done) ?_; (first | refine v_neT (by omega) ?_ | refine v_neF (by omega) ?_ | refine v_neP ?_ | refine v_w (by omega) ?_ | refine v_wu (by omega) ?_ | refine v_nT ?_ | refine v_nF ?_ | refine v_nP ?_ | refine v_k ?_ | refine v_c (by omega) ?_ | fail)) | refine b_assignF (by kernel_rfl) ?_ | refine b_assignI ?_ | refine b_assignN ?_ | refine b_assign (by (conv => {lhs; whnf}); done) ?_ | (refine b_un (by (conv => {lhs; whnf}); done) (by (conv => {lhs; whnf}); done) ?_; (first | refine v_neT (by omega) ?_ | refine v_neF (by omega) ?_ | refine v_neP ?_ | refine v_w (by omega) ?_ | refine v_wu (by omega) ?_ | refine v_nT ?_ | refine v_nF ?_ | refine v_nP ?_ | refine v_k ?_ | refine v_c (by omega) ?_ | fail)) | refine b_callB ?_ | refine b_ext (by (conv => {lhs; whnf}); done) (by exact rfl) ?_ | refine b_stL (by (conv => {lhs; whnf}); done) (by (conv => {lhs; whnf}); done) (by first | exact (by exact rfl) | exact cells_of_len hF.len | fail) (by exact rfl) (by exact rfl) (by exact Nat.le_of_ble_eq_true rfl) (by (conv => {lhs; simp only [sc, List.set_cons_zero, List.set_cons_succ]}); done) ?_ | refine b_box (by (conv => {lhs; whnf}); done) (by exact rfl) (by exact rfl) (by exact rfl) (by exact rfl) ?_ | refine b_alloc (by exact rfl) (by exact rfl) ?_ | refine b_build ?_ | fail)) | refine b_nil ?_ | fail))
    | (refine gateT ?_; (first | refine b_thn ?_ | refine b_thr ?_ | refine b_the ?_ | fail))
    | (refine gateX ?_; (first | refine b_seq ?_ | refine b_region ?_ | (refine b_cond (by (conv => {lhs; whnf}); done) ?_; (first | refine c_T ?_ | refine c_F ?_ | refine c_P ?_ ?_ | refine c_B ?_ ?_ | fail)) | refine b_ret ?_ | refine b_skip ?_ | refine b_block ?_ | refine b_exit ?_ | fail))
    | refine a_cons (by (conv => {lhs; whnf}); done) ?_
    | refine a_nil ?_
    | (refine gateK ?_; (first | refine c_call (good_c _ D l.length off _ _ ld hF.len hI) (OldOk.app (by simp)) ?_ | refine c_call (clone_k _ _ D l (FL.app hF _) off ld n n hI hG hn6 hn6 _ (by (conv => {lhs; simp only [List.length_append, List.length_cons, List.length_nil, List.length_set, Nat.reduceAdd, Nat.zero_add]}); done) (by (conv => {lhs; simp only [List.append_assoc, List.cons_append, List.nil_append]}); done)) (OldOk.app (by simp)) ?_ | fail))
    | refine fk_cons (by (conv => {lhs; whnf}); done) (by first | exact (by exact rfl) | exact cells_of_len hF.len | fail) (by exact rfl) (by exact rfl) (by (conv => {lhs; simp only [sc, List.set_cons_zero, List.set_cons_succ]}); done) ?_
    | refine fk_nil ?_
    | (refine gateB ?_; (first | refine b_bln ?_ | refine b_blr ?_ | refine b_ble ?_ | refine b_blo (by exact rfl) ?_ | fail))
    | (refine gateQ ?_; refine b_retK (by simp) (by (conv => {lhs; whnf}); done) ?_)
    | (refine gateR ?_; (first | refine rk_tmp (by (conv => {lhs; whnf}); done) ?_ | refine rk_cellA (by (conv => {lhs; whnf}); done) (by exact rfl) (by exact rfl) ?_ | refine rk_cell1 (by (conv => {lhs; whnf}); done) (by exact rfl) (by exact rfl) ?_ | refine rk_nil ?_ | fail))
    | intro _)
  all_goals first
    | (exfalso; contradiction)
    | (exfalso; omega)
    | exact rv_kp (j := 0) (cs := fl (cmA (mel l off ld) n n)) rfl rfl (by rw [mxL_fl]; exact Nat.zero_le _) (Fr.tup (Frs.cons (Fr.agg (Frs.cons (Fr.kp (j := 0) (cs := fl (cmA (mel l off ld) n n)) rfl (hg_new rfl rfl) (by simp)) (Frs.old (by simp [mxL, mx])))) (Frs.cons (Fr.old (by simp [mx])) Frs.nil)))


end Go.Sx

set_option linter.unusedVariables false
set_option linter.unusedSimpArgs false
set_option maxRecDepth 20000
namespace Go.Sx
open Go.Proofs
attribute [local irreducible] Ex exOps exD opX opE thenX blkX RetQ Spec CSpec Fr condK guardK guardD ckK valK pickK loadK faK callK argK gK fK rK RetV lpX prK
set_option maxHeartbeats 4000000 in
theorem pivot_c (H H' : List (List AV)) (b : Nat) (l : List Nat) (hb : H[b]? = some (fl l)) (off ld : Int) (r c : Nat) (hI : MI l.length off r c ld) (hG : GoodP l.length off r c ld) (k : Nat) (hk : k < r) (hkc : k < c) (hH : H.set b (fl (setM l off ld r c (swK (mel l off ld) k r))) = H') :
    CSpec Try.prog 103 [mt (.slm b l.length 0 l.length 1) off r c ld, .int .i64 (k : Int)] H (.tup [.int .i64 (pvK (mel l off ld) k r : Int), .bool (!(feq (swK (mel l off ld) k r k k) 0))]) H' := by
  subst hH
  obtain ⟨hn, ho1, ho2, hr1, hr2, hc1, hc2, hl1, hl2⟩ := id hI
  have hbl : b < H.length := (List.getElem?_eq_some_iff.1 hb).1
  have hgd := id hG
  obtain ⟨hg1, hg2, hg3, hg4, hg5, hg6⟩ := hgd
  have hvat : ∀ (i j : Nat) (g : Nat → Nat → Nat) (N : List (List AV)), i < r → j < c → CSpec Try.prog 105 [mt (.slm b l.length 0 l.length 1) off r c ld, .int .i64 (i : Int), .int .i64 (j : Int)] (H.set b (fl (setM l off ld r c g)) ++ N) (.flt (g i j)) (H.set b (fl (setM l off ld r c g)) ++ N) := fun i j g N h1 h2 => (by (have := vat_c (H.set b (fl (setM l off ld r c g)) ++ N) (.slm b l.length 0 l.length 1) _ (FL.set hbl (by simp) (by simp)) off r c ld (by simpa using hI) (by simpa using hG) i j (by omega) (by omega) (by omega) (by omega)); simp only [Int.toNat_natCast] at this; rwa [mel_setM hG h1 h2] at this)
  have hco := cOff_le hG (j := (k : Int)) (by omega) (by omega) hn
  have hco2 := (colk_right hG hkc (Nat.le_of_lt hk)).2.2.1
  have hco3 : cOff off (r : Int) ld (k : Int) + (k : Int) ≤ 9223372036854775807 := by (have h1 := col_pos hG (i := k) (t := k) hk hkc; have h2 := pos_lt hG (i := k) (j := k) hk hkc; omega)
  have hco4 := (col_right hG (j := (k : Int)) (by omega) (by omega)).2.2.1
  have hvr := colk_right hG hkc (Nat.le_of_lt hk)
  have hvi := right_VI hvr hn (by omega) (by omega) hco3
  have hmost : ∀ N, CSpec Try.prog 139 [vt (.slm b l.length 0 l.length 1) (cOff off (r : Int) ld (k : Int) + (k : Int)) ((r - k : Nat) : Int) 1] (H ++ N) (.tup [.int .i64 ((moN (colK (mel l off ld) k r) (r - k)) : Int), .int .i64 0]) (H ++ N) := fun N => (by (have := most_c (H ++ N) (.slm b l.length 0 l.length 1) l ((FL.old hb rfl rfl).app N) _ 1 (r - k) hvi hvr (by omega)); rwa [colk_vec hG hkc (Nat.le_of_lt hk)] at this)
  have hmo : (moN (colK (mel l off ld) k r) (r - k)) < r - k := moN_lt _ _ (by omega)
  refine .mk (fun args w => Try.call103 args w) (Spec.intro' (fn := Try.f103) Try.func103 rfl (by kernel_rfl) (by simp) false [] (draw := drawX Try.prog ⟨false, _, []⟩) dOk ?_)
  simp only [argE, Nat.reduceAdd]
  repeat' (first
    | (refine gateE ?_; (first | (refine b_c0 ?_; (first | refine b_move (by (conv => {lhs; whnf}); done) ?_ | (refine b_fa (by (conv => {lhs; whnf}); done) ?_; first | refine f_loc (by (conv => {lhs; whnf}); done) ?_ | refine f_ptr (by (conv => {lhs; whnf}); done) ?_) | (refine b_load (by (conv => {lhs; whnf}); done) ?_; (first | refine l_loc1 (by exact rfl) (by exact rfl) ?_ | refine l_locA (by exact rfl) (by exact rfl) ?_ | fail)) | (refine b_bin (by (conv => {lhs; whnf}); done) (by (conv => {lhs; whnf}); done) (by (conv => {lhs; whnf}); done) ?_; (first | refine v_subN (by omega) (by omega) ?_ | refine v_to (pvK (mel l off ld) k r : Int) (by have := @pvK_lt (mel l off ld) k r hk; unfold pvK at this; omega) (by unfold pvK; omega) ?_ | refine v_neT (by omega) ?_ | refine v_neF (by omega) ?_ | refine v_neP ?_ | refine v_w (by omega) ?_ | refine v_wu (by omega) ?_ | refine v_k ?_ | refine v_c (by omega) ?_ | fail)) | refine b_assignF (by kernel_rfl) ?_ | refine b_assignI ?_ | refine b_assignN ?_ | refine b_assign (by (conv => {lhs; whnf}); done) ?_ | refine b_callB ?_ | refine b_ext (by (conv => {lhs; whnf}); done) (by exact rfl) ?_ | refine b_stL (by (conv => {lhs; whnf}); done) (by (conv => {lhs; whnf}); done) (by first | exact (by exact rfl) | exact cells_of_len hF.len | fail) (by exact rfl) (by exact rfl) (by exact Nat.le_of_ble_eq_true rfl) (by (conv => {lhs; simp only [sc, List.set_cons_zero, List.set_cons_succ]}); done) ?_ | refine b_box (by (conv => {lhs; whnf}); done) (by exact rfl) (by exact rfl) (by exact rfl) (by exact rfl) ?_ | refine b_alloc (by exact rfl) (by exact rfl) ?_ | fail)) | refine b_nil ?_ | fail))
    | (refine gateT ?_; (first | refine b_thn ?_ | refine b_thr ?_ | refine b_the ?_ | fail))
    | (refine gateX ?_; (first | refine b_seq ?_ | refine b_region ?_ | (refine b_cond (by (conv => {lhs; whnf}); done) ?_; (first | refine c_T ?_ | refine c_F ?_ | refine c_P ?_ ?_ | refine c_B ?_ ?_ | fail)) | refine b_ret ?_ | refine b_skip ?_ | refine b_block ?_ | refine b_exit ?_ | fail))
    | refine a_cons (by (conv => {lhs; whnf}); done) ?_
    | refine a_nil ?_
    | (refine gateK ?_; (first | refine c_call (col_c _ (.slm b l.length 0 l.length 1) l ((FL.old hb (by exact rfl) rfl).app _) off _ _ ld hI hG (k : Int) (by omega) (by omega)) (OldOk.app (by simp)) ?_ | refine c_call (hmost _) (OldOk.app (by simp)) ?_ | refine c_call (rows_c _ _ b l (hg_old hb) off ld r c hI hG k (pvK (mel l off ld) k r) hk (pvK_lt hk) (hs_old hbl)) (OldOk.set (by simp) (by rw [mxL_fl]; exact Nat.zero_le _)) ?_ | refine c_call (hvat k k _ _ hk hkc) (OldOk.app (by simp)) ?_ | fail))
    | (refine gateQ ?_; refine b_retK (by simp) (by (conv => {lhs; whnf}); done) ?_)
    | (refine gateR ?_; (first | refine rk_tmp (by (conv => {lhs; whnf}); done) ?_ | refine rk_cellA (by (conv => {lhs; whnf}); done) (by exact rfl) (by exact rfl) ?_ | refine rk_cell1 (by (conv => {lhs; whnf}); done) (by exact rfl) (by exact rfl) ?_ | refine rk_nil ?_ | fail))
    | intro _)
  all_goals first
    | (refine rv_old (by simp) (by simp [mx, mxL, aOf, aOf1, resOne]) ?_; exact rfl)

set_option maxHeartbeats 4000000 in
theorem column_c (H H' : List (List AV)) (b : Nat) (l : List Nat) (hb : H[b]? = some (fl l)) (off ld : Int) (r c : Nat) (hI : MI l.length off r c ld) (hG : GoodP l.length off r c ld) (k : Nat) (hk : k < r) (hkc : k < c) (hH : H.set b (fl (setM l off ld r c (divG (mel l off ld) k))) = H') :
    CSpec Try.prog 104 [mt (.slm b l.length 0 l.length 1) off r c ld, .int .i64 (k : Int)] H (vt (.slm b l.length 0 l.length 1) (cOff off (r : Int) ld (k : Int) + ((k + 1 : Nat) : Int)) ((r - (k + 1) : Nat) : Int) 1) H' := by
  subst hH
  obtain ⟨hn, ho1, ho2, hr1, hr2, hc1, hc2, hl1, hl2⟩ := id hI
  have hbl : b < H.length := (List.getElem?_eq_some_iff.1 hb).1
  have hgd := id hG
  obtain ⟨hg1, hg2, hg3, hg4, hg5, hg6⟩ := hgd
  have hvat : ∀ (i j : Nat) (g : Nat → Nat → Nat) (N : List (List AV)), i < r → j < c → CSpec Try.prog 105 [mt (.slm b l.length 0 l.length 1) off r c ld, .int .i64 (i : Int), .int .i64 (j : Int)] (H.set b (fl (setM l off ld r c g)) ++ N) (.flt (g i j)) (H.set b (fl (setM l off ld r c g)) ++ N) := fun i j g N h1 h2 => (by (have := vat_c (H.set b (fl (setM l off ld r c g)) ++ N) (.slm b l.length 0 l.length 1) _ (FL.set hbl (by simp) (by simp)) off r c ld (by simpa using hI) (by simpa using hG) i j (by omega) (by omega) (by omega) (by omega)); simp only [Int.toNat_natCast] at this; rwa [mel_setM hG h1 h2] at this)
  have hco := cOff_le hG (j := (k : Int)) (by omega) (by omega) hn
  have hco2 := (colk_right hG hkc (Nat.le_of_lt hk)).2.2.1
  have hco3 : cOff off (r : Int) ld (k : Int) + (k : Int) ≤ 9223372036854775807 := by (have h1 := col_pos hG (i := k) (t := k) hk hkc; have h2 := pos_lt hG (i := k) (j := k) hk hkc; omega)
  have hco4 := (col_right hG (j := (k : Int)) (by omega) (by omega)).2.2.1
  have hco5 : cOff off (r : Int) ld (k : Int) + ((k + 1 : Nat) : Int) ≤ 9223372036854775807 := by (have h1 := col_pos hG (i := k) (t := k) hk hkc; have h2 := pos_lt hG (i := k) (j := k) hk hkc; omega)
  have hS0 : H.set b (fl (setM l off ld r c (dvS (mel l off ld) k 0))) = H := by (rw [setM_congr (g' := (mel l off ld)) (by omega) (by omega) (fun i' j _ _ => dvS_zero i' j), setM_mel (by omega) (by omega)]; exact set_self hb)
  have hS9 : setM l off ld r c (divG (mel l off ld) k) = setM l off ld r c (dvS (mel l off ld) k (r - (k + 1))) := setM_congr (by omega) (by omega) (fun i' j hi _ => (dvS_all hk i' j hi).symm)
  rw [hS9]
  refine .mk (fun args w => Try.call104 args w) (Spec.intro' (fn := Try.f104) Try.func104 rfl (by kernel_rfl) (by simp) false [] (draw := drawX Try.prog ⟨false, _, []⟩) dOk ?_)
  simp only [argE, Nat.reduceAdd]
  repeat' (first
    | (refine gateE ?_; (first | (refine b_c0 ?_; (first | refine b_moveF (by kernel_rfl) ?_ | refine b_moveI ?_ | refine b_move (by (conv => {lhs; whnf}); done) ?_ | (refine b_fa (by (conv => {lhs; whnf}); done) ?_; first | refine f_loc (by (conv => {lhs; whnf}); done) ?_ | refine f_ptr (by (conv => {lhs; whnf}); done) ?_) | (refine b_load (by (conv => {lhs; whnf}); done) ?_; (first | refine l_loc1 (by exact rfl) (by exact rfl) ?_ | refine l_locA (by exact rfl) (by exact rfl) ?_ | refine l_bF hbl (by simp) (by simp; exact pos_lt hG (by omega) hkc) ?_ | fail)) | refine b_iaM (m := pos off ld (k + 1 + t) k) (by (conv => {lhs; whnf}); done) (by (conv => {lhs; whnf}); done) (by exact rfl) (by exact rfl) (by exact pos_lt hG (by omega) hkc) ?_ | refine b_stB (X' := setM l off ld r c (dvS (mel l off ld) k (t + 1))) (by (conv => {lhs; whnf}); done) (by (conv => {lhs; whnf}); done) hbl (by simp) (by simp; exact pos_lt hG (by omega) hkc) (by rw [Nat.zero_add, ← mel_pos, mel_setM hG (by omega) hkc, set_setM hG (by omega) hkc]; exact setM_congr (by omega) (by omega) (fun i' j _ _ => by rw [← dvS_step])) ?_ | (refine b_bin (by (conv => {lhs; whnf}); done) (by (conv => {lhs; whnf}); done) (by (conv => {lhs; whnf}); done) ?_; (first | refine v_to ((k + 1 : Nat) : Int) (by omega) (by omega) ?_ | refine v_subN (by omega) (by omega) ?_ | refine v_to ((pos off ld (k + 1 + t) k : Nat) : Int) (by have h1 := col_pos hG (i := k + 1 + t) (t := k) (by omega) hkc; have h2 := pos_lt hG (i := k + 1 + t) (j := k) (by omega) hkc; omega) (by first | (have h1 := col_pos hG (i := k + 1 + t) (t := k) (by omega) hkc; omega) | fail) ?_ | refine v_w (by omega) ?_ | refine v_T (by omega) ?_ | refine v_F (by omega) ?_ | refine v_w (by omega) ?_ | refine v_wu (by omega) ?_ | refine v_qc (by omega) (by omega) ?_ | refine v_k ?_ | refine v_c (by omega) ?_ | fail)) | refine b_assign (by (conv => {lhs; whnf}); done) ?_ | refine b_callB ?_ | refine b_stL (by (conv => {lhs; whnf}); done) (by (conv => {lhs; whnf}); done) (by first | exact (by exact rfl) | exact cells_of_len hF.len | fail) (by exact rfl) (by exact rfl) (by exact Nat.le_of_ble_eq_true rfl) (by (conv => {lhs; simp only [sc, List.set_cons_zero, List.set_cons_succ]}); done) ?_ | refine b_box (by (conv => {lhs; whnf}); done) (by exact rfl) (by exact rfl) (by exact rfl) (by exact rfl) ?_ | refine b_alloc (by exact rfl) (by exact rfl) ?_ | fail)) | refine b_nil ?_ | fail))
    | (refine gateT ?_; (first | refine b_thn ?_ | refine b_thr ?_ | refine b_the ?_ | fail))
    | (refine gateX ?_; (first | refine b_seq ?_ | refine b_region ?_ | (refine b_cond (by (conv => {lhs; whnf}); done) ?_; (first | refine c_T ?_ | refine c_F ?_ | refine c_P ?_ ?_ | refine c_B ?_ ?_ | fail)) | refine b_ret ?_ | refine b_skip ?_ | refine b_block ?_ | refine b_exit ?_ | (refine b_loop [29, 28, 6, 5, 4] (r - (k + 1)) (fun t => ⟨[(29, .val (.int .i64 (t : Int))), (28, .val (.int .i64 ((r - (k + 1) : Nat) : Int))), (6, .loc 6 0), (5, .val (.flt ((mel l off ld) k k))), (4, .loc 4 0)], [(6, [(.slm b l.length 0 l.length 1), .int .i64 (cOff off (r : Int) ld (k : Int) + ((k + 1 : Nat) : Int)), .int .i64 ((r - (k + 1) : Nat) : Int), .int .i64 1]), (4, [.slnil, .int .i64 0, .int .i64 0, .int .i64 0])], H.set b (fl (setM l off ld r c (dvS (mel l off ld) k t))) ++ []⟩) (by simp only [hS0]; exact rfl) ?_ ?_ <;> (first | intro t ht K hK | intro K) <;> (try dsimp only at *) <;> (try simp only [Int.natCast_add, Int.natCast_one] at *)) | fail))
    | refine a_cons (by (conv => {lhs; whnf}); done) ?_
    | refine a_nil ?_
    | (refine gateK ?_; (first | refine c_call (col_c _ (.slm b l.length 0 l.length 1) l ((FL.old hb (by exact rfl) rfl).app _) off _ _ ld hI hG (k : Int) (by omega) (by omega)) (OldOk.app (by simp)) ?_ | refine c_call (vat_c _ (.slm b l.length 0 l.length 1) l ((FL.old hb (by exact rfl) rfl).app _) off _ _ ld hI hG (k : Int) (k : Int) (by omega) (by omega) (by omega) (by omega)) (OldOk.app (by simp)) ?_ | fail))
    | (refine gateB ?_; (first | refine b_bln ?_ | refine b_blr ?_ | refine b_ble ?_ | refine b_blo (by exact rfl) ?_ | fail))
    | (refine gateL ?_; (first | refine lp_n ?_ | refine lp_r ?_ | refine lp_e ?_ | fail))
    | (refine pr_k (by exact rfl) ?_; first | exact hK | fail | (exfalso; first | omega | (simp_all; done) | (simp_all; omega)))
    | (refine gateQ ?_; refine b_retK (by simp) (by (conv => {lhs; whnf}); done) ?_)
    | (refine gateR ?_; (first | refine rk_tmp (by (conv => {lhs; whnf}); done) ?_ | refine rk_cellA (by (conv => {lhs; whnf}); done) (by exact rfl) (by exact rfl) ?_ | refine rk_cell1 (by (conv => {lhs; whnf}); done) (by exact rfl) (by exact rfl) ?_ | refine rk_nil ?_ | fail))
    | intro _)
  all_goals first
    | (refine rv_old (by simp) (by simp [mx, mxL, aOf, aOf1, resOne]; omega) ?_; exact rfl)


end Go.Sx

set_option linter.unusedVariables false
set_option linter.unusedSimpArgs false
namespace Go.Sx
def gerG (g : Nat → Nat → Nat) (a : Nat) (xs ys : Nat → Nat) : Nat → Nat → Nat := fun i j => fadd (g i j) (fmul (fmul a (ys j)) (xs i))
def gerS (g : Nat → Nat → Nat) (a : Nat) (xs ys : Nat → Nat) (r t : Nat) : Nat → Nat → Nat := fun i j => if j * r + i < t then gerG g a xs ys i j else g i j
theorem gerS_zero {g : Nat → Nat → Nat} {a : Nat} {xs ys : Nat → Nat} {r : Nat} (i j : Nat) : gerS g a xs ys r 0 i j = g i j := by unfold gerS; rw [if_neg (by omega)]
theorem gerS_all {g : Nat → Nat → Nat} {a : Nat} {xs ys : Nat → Nat} {r c : Nat} (i j : Nat) (hi : i < r) (hj : j < c) : gerS g a xs ys r (c * r) i j = gerG g a xs ys i j := by
  unfold gerS; rw [if_pos (ix_lt hj hi)]
theorem gerS_at {g : Nat → Nat → Nat} {a : Nat} {xs ys : Nat → Nat} {r : Nat} (i j : Nat) : gerS g a xs ys r (j * r + i) i j = g i j := by unfold gerS; rw [if_neg (by omega)]
theorem gerS_step {g : Nat → Nat → Nat} {a : Nat} {xs ys : Nat → Nat} {r i j : Nat} (hi : i < r) (i' j' : Nat) (hi' : i' < r) : updG (gerS g a xs ys r (j * r + i)) i j (gerG g a xs ys i j) i' j' = gerS g a xs ys r (j * r + i + 1) i' j' := by
  unfold updG gerS
  by_cases h : i' = i ∧ j' = j
  · obtain ⟨rfl, rfl⟩ := h
    rw [if_pos ⟨rfl, rfl⟩, if_pos (by omega)]
  · rw [if_neg h]
    by_cases h2 : j' * r + i' < j * r + i
    · rw [if_pos h2, if_pos (by omega)]
    · rw [if_neg h2, if_neg]
      intro h3
      have h4 : j' * r + i' = j * r + i := by omega
      apply h
      have h5 := ix_mod (c := r) (i := j') hi'
      have h6 := ix_mod (c := r) (i := j) hi
      have h7 := ix_div (c := r) (i := j') hi'
      have h8 := ix_div (c := r) (i := j) hi
      rw [h4] at h5 h7
      exact ⟨by omega, by omega⟩
end Go.Sx

set_option linter.unusedVariables false
set_option linter.unusedSimpArgs false
set_option maxRecDepth 20000
namespace Go.Sx
open Go.Proofs
attribute [local irreducible] Ex exOps exD opX opE thenX blkX RetQ Spec CSpec Fr condK guardK guardD ckK valK pickK loadK faK callK argK gK fK rK RetV lpX prK
set_option maxHeartbeats 4000000 in
theorem each_c (S : Nat → List (List AV)) (Lf : Nat → List Nat) (D : AV) (hF : ∀ t, FL (S t) D (Lf t)) (n : Nat) (hl : ∀ t, (Lf t).length = n) (off ld : Int) (r c : Nat) (hI : MI n off r c ld) (hG : GoodP n off r c ld) (fid : Nat) (caps : List AV) (hSl : ∀ t, (S t).length = (S 0).length) (hO : ∀ t N N', OldOk (S 0).length (S t ++ N) (S (t + 1) ++ N')) (hS : ∀ j i N, j < c → i < r → CSpec Try.prog fid ([.int .i64 (i : Int), .int .i64 (j : Int), .eptr D (pos off ld i j)] ++ caps) (S (j * r + i) ++ N) (.tup []) (S (j * r + i + 1) ++ N)) :
    CSpec Try.prog 143 [mt D off r c ld, .func fid [] caps] (S 0) (.tup []) (S (c * r)) := by
  obtain ⟨hn, ho1, ho2, hr1, hr2, hc1, hc2, hl1, hl2⟩ := id hI
  refine .mk (fun args w => Try.call143 args w) (Spec.intro' (fn := Try.f143) Try.func143 rfl (by kernel_rfl) (by simp) false [] (draw := drawX Try.prog ⟨false, _, []⟩) dOk ?_)
  simp only [argE, Nat.reduceAdd]
  repeat' (first
    | (refine gateE ?_; (first | (refine b_c0 ?_; (first | refine b_moveF (by kernel_rfl) ?_ | refine b_moveI ?_ | refine b_move (by (conv => {lhs; whnf}); done) ?_ | (refine b_fa (by (conv => {lhs; whnf}); done) ?_; first | refine f_loc (by (conv => {lhs; whnf}); done) ?_ | refine f_ptr (by (conv => {lhs; whnf}); done) ?_) | (refine b_load (by (conv => {lhs; whnf}); done) ?_; (first | refine l_loc1 (by exact rfl) (by exact rfl) ?_ | refine l_locA (by exact rfl) (by exact rfl) ?_ | fail)) | refine b_iaM (m := pos off ld i j) (by (conv => {lhs; whnf}); done) (by (conv => {lhs; whnf}); done) (by exact (hl (j * r)) ▸ (hF (j * r)).len) (by exact rfl) (by exact pos_lt hG hi hj) ?_ | (refine b_binB (by first | (conv => {lhs; whnf}; done) | exact (by exact rfl) | fail) (by first | (conv => {lhs; whnf}; done) | exact (by exact rfl) | fail) ?_; (first | refine v_to ((pos off ld i j : Nat) : Int) (by have h1 := col_pos hG (i := i) (t := j) hi hj; have h2 := pos_lt hG hi hj; omega) (by have h1 := col_pos hG (i := i) (t := j) hi hj; omega) ?_ | refine v_bbT (by exact rfl) ?_ | refine v_k ?_ | fail)) | (refine b_bin (by (conv => {lhs; whnf}); done) (by (conv => {lhs; whnf}); done) (by (conv => {lhs; whnf}); done) ?_; (first | refine v_to ((pos off ld i j : Nat) : Int) (by have h1 := col_pos hG (i := i) (t := j) hi hj; have h2 := pos_lt hG hi hj; omega) (by have h1 := col_pos hG (i := i) (t := j) hi hj; omega) ?_ | refine v_eT (by omega) ?_ | refine v_eF (by omega) ?_ | refine v_eP ?_ | refine v_T (by omega) ?_ | refine v_F (by omega) ?_ | refine v_w (by omega) ?_ | refine v_wu (by omega) ?_ | refine v_k ?_ | refine v_c (by omega) ?_ | fail)) | refine b_assign (by (conv => {lhs; whnf}); done) ?_ | refine b_callB ?_ | refine b_callV (by first | (conv => {lhs; whnf}; done) | exact (by exact rfl) | fail) ?_ | refine b_stL (by (conv => {lhs; whnf}); done) (by (conv => {lhs; whnf}); done) (by first | exact (by exact rfl) | exact cells_of_len hF.len | fail) (by exact rfl) (by exact rfl) (by exact Nat.le_of_ble_eq_true rfl) (by (conv => {lhs; simp only [sc, List.set_cons_zero, List.set_cons_succ]}); done) ?_ | refine b_box (by (conv => {lhs; whnf}); done) (by exact rfl) (by exact rfl) (by exact rfl) (by exact rfl) ?_ | refine b_alloc (by exact rfl) (by exact rfl) ?_ | fail)) | refine b_nil ?_ | fail))
    | (refine gateT ?_; (first | refine b_thn ?_ | refine b_thr ?_ | refine b_the ?_ | fail))
    | (refine gateX ?_; (first | refine b_seq ?_ | refine b_region ?_ | (refine b_cond (by (conv => {lhs; whnf}); done) ?_; (first | refine c_T ?_ | refine c_F ?_ | refine c_P ?_ ?_ | refine c_B ?_ ?_ | fail)) | refine b_ret ?_ | refine b_skip ?_ | refine b_block ?_ | refine b_exit ?_ | (refine b_loop [20, 19, 12, 11, 2, 5, 4, 1] r (fun i => ⟨[(20, .val (.int .i64 (i : Int))), (19, .val (.int .i64 (r : Int))), (12, .val (.int .i64 (j : Int))), (11, .val (.int .i64 (c : Int))), (2, .loc 2 0), (5, .loc 5 0), (4, .val (.int .i64 (j : Int))), (1, .val (.func fid [] caps))], [(2, [D, .int .i64 off, .int .i64 (r : Int), .int .i64 (c : Int), .int .i64 ld]), (5, [D, .int .i64 (cOff off (r : Int) ld (j : Int)), .int .i64 (r : Int), .int .i64 1])], S (j * r + i) ++ []⟩) (by exact rfl) ?_ ?_ <;> (first | intro i hi K hK | intro K) <;> (try dsimp only at *) <;> (try simp only [Int.natCast_add, Int.natCast_one] at *)) | (refine b_loop [12, 11, 2, 1] c (fun j => ⟨[(12, .val (.int .i64 (j : Int))), (11, .val (.int .i64 (c : Int))), (2, .loc 2 0), (1, .val (.func fid [] caps))], [(2, [D, .int .i64 off, .int .i64 (r : Int), .int .i64 (c : Int), .int .i64 ld])], S (j * r) ++ []⟩) (by simp only [Nat.zero_mul]; exact rfl) ?_ ?_ <;> (first | intro j hj K hK | intro K) <;> (try dsimp only at *) <;> (try simp only [Int.natCast_add, Int.natCast_one, Nat.add_mul, Nat.one_mul] at *)) | fail))
    | refine a_cons (by (conv => {lhs; whnf}); done) ?_
    | refine a_nil ?_
    | (refine gateK ?_; (first | refine c_call (col_c _ D (Lf (j * r)) ((hF _).app _) off _ _ ld (by rw [hl]; exact hI) (by rw [hl]; exact hG) (j : Int) (by omega) (by omega)) (OldOk.app (Nat.le_of_eq (hSl _).symm)) ?_ | refine c_call (hS j i [] hj hi) (hO _ _ _) ?_ | fail))
    | refine gk_consF (by kernel_rfl) ?_
    | refine gk_cons (by (conv => {lhs; whnf}); done) ?_
    | (refine gk_nilN (by (conv => {lhs; simp only [List.nil_append, List.cons_append]}); done) ?_; first | refine ⟨by exact rfl, ?_⟩ | skip)
    | refine gk_nil ?_
    | (intro N' hN'; simp only [List.nil_append, List.cons_append] at hN'; subst hN')
    | (refine gateB ?_; (first | refine b_bln ?_ | refine b_blr ?_ | refine b_ble ?_ | refine b_blo (by exact rfl) ?_ | fail))
    | (refine gateL ?_; (first | refine lp_n ?_ | refine lp_r ?_ | refine lp_e ?_ | fail))
    | (refine pr_k (by exact rfl) ?_; first | exact hK | fail | (exfalso; first | omega | (simp_all; done) | (simp_all; omega)))
    | (refine gateQ ?_; refine b_retK (by simp) (by (conv => {lhs; whnf}); done) ?_)
    | (refine gateR ?_; (first | refine rk_tmp (by (conv => {lhs; whnf}); done) ?_ | refine rk_cellA (by (conv => {lhs; whnf}); done) (by exact rfl) (by exact rfl) ?_ | refine rk_cell1 (by (conv => {lhs; whnf}); done) (by exact rfl) (by exact rfl) ?_ | refine rk_nil ?_ | fail))
    | intro _)
  all_goals first
    | (have hr0 : r = 0 := by omega
       subst hr0; rw [Nat.mul_zero]; refine rv_old rfl (by simp [mx, mxL, resOne]) ?_; exact rfl)
    | (refine rv_old (hSl _) (by simp [mx, mxL, resOne]) ?_; exact rfl)

set_option maxHeartbeats 4000000 in
theorem ger1_c (H H' : List (List AV)) (b : Nat) (l : List Nat) (hb : H[b]? = some (fl l)) (p : Nat) (hp : p < l.length) (a ba : Nat) (hba : H[ba]? = some [.flt a]) (Y : AV) (ly : List Nat) (hFY : FL H Y ly) (oY nY iY : Int) (hIY : VI ly.length oY nY iY) (hRY : RightP ly.length oY nY iY) (bY : Nat) (hbY : H[bY]? = some [Y, .int .i64 oY, .int .i64 nY, .int .i64 iY]) (X : AV) (lx : List Nat) (hFX : FL H X lx) (oX nX iX : Int) (hIX : VI lx.length oX nX iX) (hRX : RightP lx.length oX nX iX) (bX : Nat) (hbX : H[bX]? = some [X, .int .i64 oX, .int .i64 nX, .int .i64 iX]) (i j : Nat) (hi : (i : Int) < nX) (hj : (j : Int) < nY) (hH : H.set b (fl (l.set p (fadd (l.getD p 0) (fmul (fmul a (ly.getD (oY + (j : Int) * iY).toNat 0)) (lx.getD (oX + (i : Int) * iX).toNat 0))))) = H') :
    CSpec Try.prog 144 [.int .i64 (i : Int), .int .i64 (j : Int), .eptr (.slm b l.length 0 l.length 1) p, .eptr (.slm ba 1 0 1 1) 0, .eptr (.slm bY 4 0 1 4) 0, .eptr (.slm bX 4 0 1 4) 0] H (.tup []) H' := by
  subst hH
  have hbl : b < H.length := (List.getElem?_eq_some_iff.1 hb).1
  have h1 := right_at hRX (i := (i : Int)) (by omega) hi
  have h2 := right_at hRY (i := (j : Int)) (by omega) hj
  obtain ⟨hmY, ho1Y, ho2Y, hn1Y, hn2Y, hi1Y, hi2Y⟩ := id hIY
  obtain ⟨hmX, ho1X, ho2X, hn1X, hn2X, hi1X, hi2X⟩ := id hIX
  refine .mk (fun args w => Try.call144 args w) (Spec.intro' (fn := Try.f144) Try.func144 rfl (by kernel_rfl) (by simp) false [] (draw := drawX Try.prog ⟨false, _, []⟩) dOk ?_)
  simp only [argE, Nat.reduceAdd]
  repeat' (first
    | (refine gateE ?_; (first | (refine b_c0 ?_; (first | refine b_move (by (conv => {lhs; whnf}); done) ?_ | (refine b_fa (by (conv => {lhs; whnf}); done) ?_; first | refine f_loc (by (conv => {lhs; whnf}); done) ?_ | refine f_ptr (by (conv => {lhs; whnf}); done) ?_) | (refine b_load (by (conv => {lhs; whnf}); done) ?_; (first | refine l_loc1 (by exact rfl) (by exact rfl) ?_ | refine l_locA (by exact rfl) (by exact rfl) ?_ | refine l_FL (FL.app hFX _) (by omega) ?_ | refine l_FL (FL.app hFY _) (by omega) ?_ | refine l_o1 hba (by exact rfl) (by exact rfl) ?_ | refine l_o1 hbY (by exact rfl) (by exact rfl) ?_ | refine l_o1 hbX (by exact rfl) (by exact rfl) ?_ | refine l_o1 hb (by simp) (by rw [Nat.zero_add]; exact fl_get hp) ?_ | fail)) | refine b_nilC (by (conv => {lhs; whnf}); done) ?_ | refine b_iaF (by (conv => {lhs; whnf}); done) (by (conv => {lhs; whnf}); done) (by exact hFX.len) (by omega) ?_ | refine b_iaF (by (conv => {lhs; whnf}); done) (by (conv => {lhs; whnf}); done) (by exact hFY.len) (by omega) ?_ | refine b_stF (by (conv => {lhs; whnf}); done) (by (conv => {lhs; whnf}); done) hb (by exact rfl) (by omega) (m' := l.set p (fadd (l.getD p 0) (fmul (fmul a (ly.getD (oY + (j : Int) * iY).toNat 0)) (lx.getD (oX + (i : Int) * iX).toNat 0)))) (by rw [Nat.zero_add]) ?_ | (refine b_bin (by (conv => {lhs; whnf}); done) (by (conv => {lhs; whnf}); done) (by (conv => {lhs; whnf}); done) ?_; (first | refine v_w (by omega) ?_ | refine v_w (by omega) ?_ | refine v_wu (by omega) ?_ | refine v_k ?_ | refine v_c (by omega) ?_ | fail)) | refine b_assign (by (conv => {lhs; whnf}); done) ?_ | refine b_stL (by (conv => {lhs; whnf}); done) (by (conv => {lhs; whnf}); done) (by first | exact (by exact rfl) | exact cells_of_len hF.len | fail) (by exact rfl) (by exact rfl) (by exact Nat.le_of_ble_eq_true rfl) (by (conv => {lhs; simp only [sc, List.set_cons_zero, List.set_cons_succ]}); done) ?_ | fail)) | refine b_nil ?_ | fail))
    | (refine gateO ?_; (first | refine b_move (by (conv => {lhs; whnf}); done) ?_ | (refine b_fa (by (conv => {lhs; whnf}); done) ?_; first | refine f_loc (by (conv => {lhs; whnf}); done) ?_ | refine f_ptr (by (conv => {lhs; whnf}); done) ?_) | (refine b_load (by (conv => {lhs; whnf}); done) ?_; (first | refine l_loc1 (by exact rfl) (by exact rfl) ?_ | refine l_locA (by exact rfl) (by exact rfl) ?_ | refine l_FL (FL.app hFX _) (by omega) ?_ | refine l_FL (FL.app hFY _) (by omega) ?_ | refine l_o1 hba (by exact rfl) (by exact rfl) ?_ | refine l_o1 hbY (by exact rfl) (by exact rfl) ?_ | refine l_o1 hbX (by exact rfl) (by exact rfl) ?_ | refine l_o1 hb (by simp) (by rw [Nat.zero_add]; exact fl_get hp) ?_ | fail)) | refine b_nilC (by (conv => {lhs; whnf}); done) ?_ | refine b_iaF (by (conv => {lhs; whnf}); done) (by (conv => {lhs; whnf}); done) (by exact hFX.len) (by omega) ?_ | refine b_iaF (by (conv => {lhs; whnf}); done) (by (conv => {lhs; whnf}); done) (by exact hFY.len) (by omega) ?_ | refine b_stF (by (conv => {lhs; whnf}); done) (by (conv => {lhs; whnf}); done) hb (by exact rfl) (by omega) (m' := l.set p (fadd (l.getD p 0) (fmul (fmul a (ly.getD (oY + (j : Int) * iY).toNat 0)) (lx.getD (oX + (i : Int) * iX).toNat 0)))) (by rw [Nat.zero_add]) ?_ | (refine b_bin (by (conv => {lhs; whnf}); done) (by (conv => {lhs; whnf}); done) (by (conv => {lhs; whnf}); done) ?_; (first | refine v_w (by omega) ?_ | refine v_w (by omega) ?_ | refine v_wu (by omega) ?_ | refine v_k ?_ | refine v_c (by omega) ?_ | fail)) | refine b_assign (by (conv => {lhs; whnf}); done) ?_ | refine b_stL (by (conv => {lhs; whnf}); done) (by (conv => {lhs; whnf}); done) (by first | exact (by exact rfl) | exact cells_of_len hF.len | fail) (by exact rfl) (by exact rfl) (by exact Nat.le_of_ble_eq_true rfl) (by (conv => {lhs; simp only [sc, List.set_cons_zero, List.set_cons_succ]}); done) ?_ | fail))
    | (refine gateD ?_; (first | (refine d_c0 (by exact rfl) ?_; (first | refine b_move (by (conv => {lhs; whnf}); done) ?_ | (refine b_fa (by (conv => {lhs; whnf}); done) ?_; first | refine f_loc (by (conv => {lhs; whnf}); done) ?_ | refine f_ptr (by (conv => {lhs; whnf}); done) ?_) | (refine b_load (by (conv => {lhs; whnf}); done) ?_; (first | refine l_loc1 (by exact rfl) (by exact rfl) ?_ | refine l_locA (by exact rfl) (by exact rfl) ?_ | refine l_FL (FL.app hFX _) (by omega) ?_ | refine l_FL (FL.app hFY _) (by omega) ?_ | refine l_o1 hba (by exact rfl) (by exact rfl) ?_ | refine l_o1 hbY (by exact rfl) (by exact rfl) ?_ | refine l_o1 hbX (by exact rfl) (by exact rfl) ?_ | refine l_o1 hb (by simp) (by rw [Nat.zero_add]; exact fl_get hp) ?_ | fail)) | refine b_nilC (by (conv => {lhs; whnf}); done) ?_ | refine b_iaF (by (conv => {lhs; whnf}); done) (by (conv => {lhs; whnf}); done) (by exact hFX.len) (by omega) ?_ | refine b_iaF (by (conv => {lhs; whnf}); done) (by (conv => {lhs; whnf}); done) (by exact hFY.len) (by omega) ?_ | refine b_stF (by (conv => {lhs; whnf}); done) (by (conv => {lhs; whnf}); done) hb (by exact rfl) (by omega) (m' := l.set p (fadd (l.getD p 0) (fmul (fmul a (ly.getD (oY + (j : Int) * iY).toNat 0)) (lx.getD (oX + (i : Int) * iX).toNat 0)))) (by rw [Nat.zero_add]) ?_ | (refine b_bin (by (conv => {lhs; whnf}); done) (by (conv => {lhs; whnf}); done) (by (conv => {lhs; whnf}); done) ?_; (first | refine v_w (by omega) ?_ | refine v_w (by omega) ?_ | refine v_wu (by omega) ?_ | refine v_k ?_ | refine v_c (by omega) ?_ | fail)) | refine b_assign (by (conv => {lhs; whnf}); done) ?_ | refine b_stL (by (conv => {lhs; whnf}); done) (by (conv => {lhs; whnf}); done) (by first | exact (by exact rfl) | exact cells_of_len hF.len | fail) (by exact rfl) (by exact rfl) (by exact Nat.le_of_ble_eq_true rfl) (by (conv => {lhs; simp only [sc, List.set_cons_zero, List.set_cons_succ]}); done) ?_ | fail)) | refine d_nil ?_ | fail))
    | (refine gateC ?_; (first | refine k_lt ?_ | refine k_ld (by (conv => {lhs; whnf}); done) (by exact rfl) ?_ | refine k_ldT (by (conv => {lhs; whnf}); done) ?_ | refine k_bin (by (conv => {lhs; whnf}); done) (by exact rfl) ?_ | refine k_mn ?_ | refine k_mnB (by exact rfl) ?_ | refine k_mnF ?_ | refine k_mnL (by exact rfl) ?_ | fail))
    | (refine gateT ?_; (first | refine b_thn ?_ | refine b_thr ?_ | refine b_the ?_ | fail))
    | (refine gateX ?_; (first | refine b_seq ?_ | refine b_region ?_ | (refine b_cond (by (conv => {lhs; whnf}); done) ?_; (first | refine c_T ?_ | refine c_F ?_ | refine c_P ?_ ?_ | refine c_B ?_ ?_ | fail)) | refine b_ret ?_ | refine b_skip ?_ | refine b_block ?_ | refine b_exit ?_ | refine b_draw (id := 0) [] [] [(0, .ld true), (1, .lt), (2, .ld true), (3, .lt), (4, .ld true), (5, .lt), (6, .lt), (7, .ld true), (8, .lt), (9, .lt), (10, .lt), (11, .ld true), (12, .lt), (13, .lt)] (by kernel_rfl) ?_ | refine b_draw (id := 1) [] [18] [(0, .lt), (1, .lt), (2, .ld true), (3, .lt), (4, .lt), (5, .ld true), (6, .lt), (7, .ld true), (8, .lt), (9, .lt), (10, .ld true), (11, .lt), (12, .lt), (13, .lt), (14, .ld true), (15, .lt), (16, .lt), (17, .lt), (18, .mn false)] (by kernel_rfl) ?_ | fail))
    | (refine gateQ ?_; refine b_retK (by simp) (by (conv => {lhs; whnf}); done) ?_)
    | (refine gateR ?_; (first | refine rk_tmp (by (conv => {lhs; whnf}); done) ?_ | refine rk_cellA (by (conv => {lhs; whnf}); done) (by exact rfl) (by exact rfl) ?_ | refine rk_cell1 (by (conv => {lhs; whnf}); done) (by exact rfl) (by exact rfl) ?_ | refine rk_nil ?_ | fail))
    | intro _)
  all_goals first
    | (refine rv_old (by simp) (by simp [mx, mxL, resOne]) ?_; exact rfl)


end Go.Sx

set_option linter.unusedVariables false
set_option linter.unusedSimpArgs false
set_option maxRecDepth 20000
namespace Go.Sx
open Go.Proofs
attribute [local irreducible] Ex exOps exD opX opE thenX blkX RetQ Spec CSpec Fr condK guardK guardD ckK valK pickK loadK faK callK argK gK fK rK RetV lpX prK

theorem ger_each (H : List (List AV)) (b : Nat) (l : List Nat) (hb : H[b]? = some (fl l)) (off ld : Int) (r c : Nat) (hI : MI l.length off r c ld) (hG : GoodP l.length off r c ld) (a : Nat) (X : AV) (nX : Nat) (oX iX : Int) (hIX : VI nX oX r iX) (hRX : RightP nX oX r iX) (xs : Nat → Nat) (hXe : ∀ g, ∃ lX, FL (H.set b (fl (setM l off ld r c g))) X lX ∧ lX.length = nX ∧ ∀ k : Nat, k < r → lX.getD (oX + (k : Int) * iX).toNat 0 = xs k) (hMX : ∀ N, CSpec Try.prog 17 [mt X oX 1 r iX, mt (.slm b l.length 0 l.length 1) off r c ld] (H ++ N) (.bool false) (H ++ N)) (Y : AV) (nY : Nat) (oY iY : Int) (hIY : VI nY oY c iY) (hRY : RightP nY oY c iY) (ys : Nat → Nat) (hYe : ∀ g, ∃ lY, FL (H.set b (fl (setM l off ld r c g))) Y lY ∧ lY.length = nY ∧ ∀ k : Nat, k < c → lY.getD (oY + (k : Int) * iY).toNat 0 = ys k) (hMY : ∀ N, CSpec Try.prog 17 [mt Y oY 1 c iY, mt (.slm b l.length 0 l.length 1) off r c ld] (H ++ N) (.bool false) (H ++ N)) :
    CSpec Try.prog 143 [mt (.slm b l.length 0 l.length 1) off r c ld, .func 144 [] [.eptr (.slm (H.length + 0) 1 0 1 1) 0, .eptr (.slm (H.length + 2) 4 0 1 4) 0, .eptr (.slm (H.length + 1) 4 0 1 4) 0]] (H ++ [[.flt a], [X, .int .i64 oX, .int .i64 (r : Int), .int .i64 iX], [Y, .int .i64 oY, .int .i64 (c : Int), .int .i64 iY], [(.slm b l.length 0 l.length 1), .int .i64 off, .int .i64 (r : Int), .int .i64 (c : Int), .int .i64 ld]]) (.tup []) (H.set b (fl (setM l off ld r c (gerG (mel l off ld) a xs ys))) ++ [[.flt a], [X, .int .i64 oX, .int .i64 (r : Int), .int .i64 iX], [Y, .int .i64 oY, .int .i64 (c : Int), .int .i64 iY], [(.slm b l.length 0 l.length 1), .int .i64 off, .int .i64 (r : Int), .int .i64 (c : Int), .int .i64 ld]]) := by
  obtain ⟨hn, ho1, ho2, hr1, hr2, hc1, hc2, hl1, hl2⟩ := id hI
  have hbl : b < H.length := (List.getElem?_eq_some_iff.1 hb).1
  have hgd := id hG
  obtain ⟨hg1, hg2, hg3, hg4, hg5, hg6⟩ := hgd
  have hS0 : H.set b (fl (setM l off ld r c (gerS (mel l off ld) a xs ys r 0))) = H := by (rw [setM_congr (g' := (mel l off ld)) (by omega) (by omega) (fun i' j _ _ => gerS_zero i' j), setM_mel (by omega) (by omega)]; exact set_self hb)
  have hS9 : setM l off ld r c (gerG (mel l off ld) a xs ys) = setM l off ld r c (gerS (mel l off ld) a xs ys r (c * r)) := setM_congr (by omega) (by omega) (fun i' j hi hj => (gerS_all i' j hi hj).symm)
  have h := each_c (fun t => H.set b (fl (setM l off ld r c (gerS (mel l off ld) a xs ys r t))) ++ [[.flt a], [X, .int .i64 oX, .int .i64 (r : Int), .int .i64 iX], [Y, .int .i64 oY, .int .i64 (c : Int), .int .i64 iY], [(.slm b l.length 0 l.length 1), .int .i64 off, .int .i64 (r : Int), .int .i64 (c : Int), .int .i64 ld]]) (fun t => setM l off ld r c (gerS (mel l off ld) a xs ys r t)) (.slm b l.length 0 l.length 1) (fun t => FL.set hbl (by simp) (by simp)) l.length (by simp) off ld r c hI hG 144 [.eptr (.slm (H.length + 0) 1 0 1 1) 0, .eptr (.slm (H.length + 2) 4 0 1 4) 0, .eptr (.slm (H.length + 1) 4 0 1 4) 0] (by simp) (fun t N N' => ?_) (fun j i N hj hi => ?_)
  · simp only [hS0] at h
    rw [hS9]; exact h
  · have ho := OldOk.set (A := H.set b (fl (setM l off ld r c (gerS (mel l off ld) a xs ys r t))) ++ [[.flt a], [X, .int .i64 oX, .int .i64 (r : Int), .int .i64 iX], [Y, .int .i64 oY, .int .i64 (c : Int), .int .i64 iY], [(.slm b l.length 0 l.length 1), .int .i64 off, .int .i64 (r : Int), .int .i64 (c : Int), .int .i64 ld]]) (N := N) (N' := N') (n := (H ++ [[.flt a], [X, .int .i64 oX, .int .i64 (r : Int), .int .i64 iX], [Y, .int .i64 oY, .int .i64 (c : Int), .int .i64 iY], [(.slm b l.length 0 l.length 1), .int .i64 off, .int .i64 (r : Int), .int .i64 (c : Int), .int .i64 ld]]).length) (i := b) (cs := fl (setM l off ld r c (gerS (mel l off ld) a xs ys r (t + 1)))) (by simp) (by rw [mxL_fl]; exact Nat.zero_le _)
    rw [hs_set2 hbl] at ho
    simpa using ho
  · obtain ⟨lX, hFX, hlX, hgX⟩ := hXe (gerS (mel l off ld) a xs ys r (j * r + i))
    obtain ⟨lY, hFY, hlY, hgY⟩ := hYe (gerS (mel l off ld) a xs ys r (j * r + i))
    subst hlX hlY
    have hp := pos_lt hG hi hj
    simp only [List.append_assoc]
    refine ger1_c _ _ b (setM l off ld r c (gerS (mel l off ld) a xs ys r (j * r + i))) (hg_set hbl) (pos off ld i j) (by simpa using hp) a (H.length + 0) (hg_new (by simp) rfl) Y lY (hFY.app _) oY c iY hIY hRY (H.length + 2) (hg_new (by simp) rfl) X lX (hFX.app _) oX r iX hIX hRX (H.length + 1) (hg_new (by simp) rfl) i j (by omega) (by omega) ?_ |> fun h => (by simpa using h)
    rw [hgX i hi, hgY j hj, ← mel_pos, mel_setM hG hi hj, gerS_at, set_setM hG hi hj, hs_set2 hbl]
    rw [show setM l off ld r c (updG (gerS (mel l off ld) a xs ys r (j * r + i)) i j (fadd ((mel l off ld) i j) (fmul (fmul a (ys j)) (xs i)))) = setM l off ld r c (gerS (mel l off ld) a xs ys r (j * r + i + 1)) from setM_congr (by omega) (by omega) (fun i' j' h1 h2 => gerS_step hi i' j' h1)]
set_option maxHeartbeats 4000000 in
theorem ger_c (H H' : List (List AV)) (b : Nat) (l : List Nat) (hb : H[b]? = some (fl l)) (off ld : Int) (r c : Nat) (hI : MI l.length off r c ld) (hG : GoodP l.length off r c ld) (a : Nat) (X : AV) (nX : Nat) (oX iX : Int) (hIX : VI nX oX r iX) (hRX : RightP nX oX r iX) (xs : Nat → Nat) (hXe : ∀ g, ∃ lX, FL (H.set b (fl (setM l off ld r c g))) X lX ∧ lX.length = nX ∧ ∀ k : Nat, k < r → lX.getD (oX + (k : Int) * iX).toNat 0 = xs k) (hMX : ∀ N, CSpec Try.prog 17 [mt X oX 1 r iX, mt (.slm b l.length 0 l.length 1) off r c ld] (H ++ N) (.bool false) (H ++ N)) (Y : AV) (nY : Nat) (oY iY : Int) (hIY : VI nY oY c iY) (hRY : RightP nY oY c iY) (ys : Nat → Nat) (hYe : ∀ g, ∃ lY, FL (H.set b (fl (setM l off ld r c g))) Y lY ∧ lY.length = nY ∧ ∀ k : Nat, k < c → lY.getD (oY + (k : Int) * iY).toNat 0 = ys k) (hMY : ∀ N, CSpec Try.prog 17 [mt Y oY 1 c iY, mt (.slm b l.length 0 l.length 1) off r c ld] (H ++ N) (.bool false) (H ++ N)) (hH : H.set b (fl (setM l off ld r c (gerG (mel l off ld) a xs ys))) = H') :
    CSpec Try.prog 106 [.flt a, vt X oX r iX, vt Y oY c iY, mt (.slm b l.length 0 l.length 1) off r c ld] H (.int .i64 0) H' := by
  subst hH
  obtain ⟨hn, ho1, ho2, hr1, hr2, hc1, hc2, hl1, hl2⟩ := id hI
  have hbl : b < H.length := (List.getElem?_eq_some_iff.1 hb).1
  have hgd := id hG
  obtain ⟨hg1, hg2, hg3, hg4, hg5, hg6⟩ := hgd
  have heach := ger_each H b l hb off ld r c hI hG a X nX oX iX hIX hRX xs hXe hMX Y nY oY iY hIY hRY ys hYe hMY
  obtain ⟨lX, hFX, hlX, _⟩ := hXe (mel l off ld)
  obtain ⟨lY, hFY, hlY, _⟩ := hYe (mel l off ld)
  rw [setM_mel (by omega) (by omega), set_self hb] at hFX hFY
  rw [← hlX] at hRX
  rw [← hlY] at hRY
  refine .mk (fun args w => Try.call106 args w) (Spec.intro' (fn := Try.f106) Try.func106 rfl (by kernel_rfl) (by simp) true [] (draw := drawX Try.prog ⟨true, _, []⟩) dOk ?_)
  simp only [argE, Nat.reduceAdd]
  repeat' (first
    | (refine gateE ?_; (first | (refine b_c0 ?_; (first | refine b_move (by (conv => {lhs; whnf}); done) ?_ | (refine b_fa (by (conv => {lhs; whnf}); done) ?_; first | refine f_loc (by (conv => {lhs; whnf}); done) ?_ | refine f_ptr (by (conv => {lhs; whnf}); done) ?_) | (refine b_load (by (conv => {lhs; whnf}); done) ?_; (first | refine l_loc1 (by exact rfl) (by exact rfl) ?_ | refine l_locA (by exact rfl) (by exact rfl) ?_ | refine l_nA (by exact rfl) (by exact rfl) (by exact rfl) (by exact rfl) ?_ | refine l_n1 (by exact rfl) (by exact rfl) (by exact rfl) (by exact rfl) ?_ | fail)) | refine b_boxE (by (conv => {lhs; whnf}); done) (by exact rfl) (by exact rfl) (by exact rfl) (by (conv => {lhs; whnf}); done) (by (conv => {lhs; simp only [List.nil_append, List.cons_append]}); done) ?_ | refine b_mkF ?_ | (refine b_bin (by (conv => {lhs; whnf}); done) (by (conv => {lhs; whnf}); done) (by (conv => {lhs; whnf}); done) ?_; (first | refine v_neT (by omega) ?_ | refine v_neF (by omega) ?_ | refine v_neP ?_ | refine v_w (by omega) ?_ | refine v_wu (by omega) ?_ | refine v_nT ?_ | refine v_nF ?_ | refine v_nP ?_ | refine v_k ?_ | refine v_c (by omega) ?_ | fail)) | (refine b_pick (by (conv => {lhs; whnf}); done) ?_; (first | refine p_T (by (conv => {lhs; whnf}); done) ?_ | refine p_F (by (conv => {lhs; whnf}); done) ?_ | fail)) | refine b_assignF (by kernel_rfl) ?_ | refine b_assignI ?_ | refine b_assignN ?_ | refine b_assign (by (conv => {lhs; whnf}); done) ?_ | (refine b_un (by (conv => {lhs; whnf}); done) (by (conv => {lhs; whnf}); done) ?_; (first | refine v_neT (by omega) ?_ | refine v_neF (by omega) ?_ | refine v_neP ?_ | refine v_w (by omega) ?_ | refine v_wu (by omega) ?_ | refine v_nT ?_ | refine v_nF ?_ | refine v_nP ?_ | refine v_k ?_ | refine v_c (by omega) ?_ | fail)) | refine b_callB ?_ | refine b_box (by (conv => {lhs; whnf}); done) (by exact rfl) (by exact rfl) (by exact rfl) (by exact rfl) ?_ | fail)) | refine b_nil ?_ | refine b_gT (by exact rfl) (by exact rfl) ?_ | refine b_gF (by exact rfl) (by exact rfl) (by exact rfl) ?_ | refine b_gU (by exact rfl) (by exact rfl) (by constructor <;> simp) (by exact rfl) (by exact rfl) ?_ | (refine b_g0 (by exact rfl) (by exact rfl) (by (conv => {lhs; whnf}); done) ?_; (first | refine g_TT ?_ | refine g_FF ?_ | refine g_TF ?_ | refine g_FT ?_ | refine g_PT ?_ ?_ | refine g_PF ?_ ?_ | refine g_BT ?_ ?_ | refine g_BF ?_ ?_ | fail)) | (refine b_g1 (by exact rfl) (by exact rfl) (by exact rfl) (by (conv => {lhs; whnf}); done) ?_; (first | refine g_TT ?_ | refine g_FF ?_ | refine g_TF ?_ | refine g_FT ?_ | refine g_PT ?_ ?_ | refine g_PF ?_ ?_ | refine g_BT ?_ ?_ | refine g_BF ?_ ?_ | fail)) | refine b_c1 (by exact rfl) ?_ | fail))
    | (refine gateO ?_; (first | refine b_move (by (conv => {lhs; whnf}); done) ?_ | (refine b_fa (by (conv => {lhs; whnf}); done) ?_; first | refine f_loc (by (conv => {lhs; whnf}); done) ?_ | refine f_ptr (by (conv => {lhs; whnf}); done) ?_) | (refine b_load (by (conv => {lhs; whnf}); done) ?_; (first | refine l_loc1 (by exact rfl) (by exact rfl) ?_ | refine l_locA (by exact rfl) (by exact rfl) ?_ | refine l_nA (by exact rfl) (by exact rfl) (by exact rfl) (by exact rfl) ?_ | refine l_n1 (by exact rfl) (by exact rfl) (by exact rfl) (by exact rfl) ?_ | fail)) | refine b_boxE (by (conv => {lhs; whnf}); done) (by exact rfl) (by exact rfl) (by exact rfl) (by (conv => {lhs; whnf}); done) (by (conv => {lhs; simp only [List.nil_append, List.cons_append]}); done) ?_ | refine b_mkF ?_ | (refine b_bin (by (conv => {lhs; whnf}); done) (by (conv => {lhs; whnf}); done) (by (conv => {lhs; whnf}); done) ?_; (first | refine v_neT (by omega) ?_ | refine v_neF (by omega) ?_ | refine v_neP ?_ | refine v_w (by omega) ?_ | refine v_wu (by omega) ?_ | refine v_nT ?_ | refine v_nF ?_ | refine v_nP ?_ | refine v_k ?_ | refine v_c (by omega) ?_ | fail)) | (refine b_pick (by (conv => {lhs; whnf}); done) ?_; (first | refine p_T (by (conv => {lhs; whnf}); done) ?_ | refine p_F (by (conv => {lhs; whnf}); done) ?_ | fail)) | refine b_assignF (by kernel_rfl) ?_ | refine b_assignI ?_ | refine b_assignN ?_ | refine b_assign (by (conv => {lhs; whnf}); done) ?_ | (refine b_un (by (conv => {lhs; whnf}); done) (by (conv => {lhs; whnf}); done) ?_; (first | refine v_neT (by omega) ?_ | refine v_neF (by omega) ?_ | refine v_neP ?_ | refine v_w (by omega) ?_ | refine v_wu (by omega) ?_ | refine v_nT ?_ | refine v_nF ?_ | refine v_nP ?_ | refine v_k ?_ | refine v_c (by omega) ?_ | fail)) | refine b_callB ?_ | refine b_box (by (conv => {lhs; whnf}); done) (by exact rfl) (by exact rfl) (by exact rfl) (by exact rfl) ?_ | fail))
    | (refine gateD ?_; (first | (refine d_c0 (by exact rfl) ?_; (first | refine b_move (by (conv => {lhs; whnf}); done) ?_ | (refine b_fa (by (conv => {lhs; whnf}); done) ?_; first | refine f_loc (by (conv => {lhs; whnf}); done) ?_ | refine f_ptr (by (conv => {lhs; whnf}); done) ?_) | (refine b_load (by (conv => {lhs; whnf}); done) ?_; (first | refine l_loc1 (by exact rfl) (by exact rfl) ?_ | refine l_locA (by exact rfl) (by exact rfl) ?_ | refine l_nA (by exact rfl) (by exact rfl) (by exact rfl) (by exact rfl) ?_ | refine l_n1 (by exact rfl) (by exact rfl) (by exact rfl) (by exact rfl) ?_ | fail)) | refine b_boxE (by (conv => {lhs; whnf}); done) (by exact rfl) (by exact rfl) (by exact rfl) (by (conv => {lhs; whnf}); done) (by (conv => {lhs; simp only [List.nil_append, List.cons_append]}); done) ?_ | refine b_mkF ?_ | (refine b_bin (by (conv => {lhs; whnf}); done) (by (conv => {lhs; whnf}); done) (by (conv => {lhs; whnf}); done) ?_; (first | refine v_neT (by omega) ?_ | refine v_neF (by omega) ?_ | refine v_neP ?_ | refine v_w (by omega) ?_ | refine v_wu (by omega) ?_ | refine v_nT ?_ | refine v_nF ?_ | refine v_nP ?_ | refine v_k ?_ | refine v_c (by omega) ?_ | fail)) | (refine b_pick (by (conv => {lhs; whnf}); done) ?_; (first | refine p_T (by (conv => {lhs; whnf}); done) ?_ | refine p_F (by (conv => {lhs; whnf}); done) ?_ | fail)) | refine b_assignF (by kernel_rfl) ?_ | refine b_assignI ?_ | refine b_assignN ?_ | refine b_assign (by (conv => {lhs; whnf}); done) ?_ | (refine b_un (by (conv => {lhs; whnf}); done) (by (conv => {lhs; whnf}); done) ?_; (first | refine v_neT (by omega) ?_ | refine v_neF (by omega) ?_ | refine v_neP ?_ | refine v_w (by omega) ?_ | refine v_wu (by omega) ?_ | refine v_nT ?_ | refine v_nF ?_ | refine v_nP ?_ | refine v_k ?_ | refine v_c (by omega) ?_ | fail)) | refine b_callB ?_ | refine b_box (by (conv => {lhs; whnf}); done) (by exact rfl) (by exact rfl) (by exact rfl) (by exact rfl) ?_ | fail)) | refine d_nil ?_ | refine d_gT (by exact rfl) (by exact rfl) (by exact rfl) ?_ | refine d_gF (by exact rfl) (by exact rfl) (by exact rfl) (by exact rfl) ?_ | refine d_gU (by exact rfl) (by exact rfl) (by exact rfl) (by constructor <;> simp) (by exact rfl) (by exact rfl) ?_ | (refine d_g0 (by exact rfl) (by exact rfl) (by exact rfl) (by (conv => {lhs; whnf}); done) ?_; (first | refine dg_TT ?_ | refine dg_FF ?_ | refine dg_TF ?_ | refine dg_FT ?_ | refine dg_PT ?_ ?_ | refine dg_PF ?_ ?_ | refine dg_BT ?_ ?_ | refine dg_BF ?_ ?_ | fail)) | (refine d_g1 (by exact rfl) (by exact rfl) (by exact rfl) (by exact rfl) (by (conv => {lhs; whnf}); done) ?_; (first | refine dg_TT ?_ | refine dg_FF ?_ | refine dg_TF ?_ | refine dg_FT ?_ | refine dg_PT ?_ ?_ | refine dg_PF ?_ ?_ | refine dg_BT ?_ ?_ | refine dg_BF ?_ ?_ | fail)) | refine d_c1 (by exact rfl) (by exact rfl) ?_ | fail))
    | (refine gateC ?_; (first | refine k_lt ?_ | refine k_ld (by (conv => {lhs; whnf}); done) (by exact rfl) ?_ | refine k_ldT (by (conv => {lhs; whnf}); done) ?_ | refine k_bin (by (conv => {lhs; whnf}); done) (by exact rfl) ?_ | refine k_mn ?_ | refine k_mnB (by exact rfl) ?_ | refine k_mnF ?_ | refine k_mnL (by exact rfl) ?_ | fail))
    | (refine gateT ?_; (first | refine b_thn ?_ | refine b_thr ?_ | refine b_the ?_ | fail))
    | (refine gateX ?_; (first | refine b_seq ?_ | refine b_region ?_ | (refine b_cond (by (conv => {lhs; whnf}); done) ?_; (first | refine c_T ?_ | refine c_F ?_ | refine c_P ?_ ?_ | refine c_B ?_ ?_ | fail)) | refine b_ret ?_ | refine b_skip ?_ | refine b_block ?_ | refine b_exit ?_ | refine b_draw (id := 5) [] [] [(0, .ld true), (2, .ld true), (1, .mn true), (3, .mn true), (4, .lt), (5, .ld true), (7, .ld true), (6, .mn true), (8, .mn true), (9, .lt), (10, .lt)] (by kernel_rfl) ?_ | fail))
    | refine a_cons (by (conv => {lhs; whnf}); done) ?_
    | refine a_nil ?_
    | (refine gateK ?_; (first | refine c_call (right_c _ X lX (FL.app hFX _) oX r iX (by rw [hlX]; exact hIX)) (OldOk.app (by simp)) ?_ | refine c_call (right_c _ Y lY (FL.app hFY _) oY c iY (by rw [hlY]; exact hIY)) (OldOk.app (by simp)) ?_ | refine c_call (good_c _ (.slm b l.length 0 l.length 1) l.length off _ _ ld (by exact rfl) hI) (OldOk.app (by simp)) ?_ | refine c_call (grow_c _ X lX (FL.app hFX _) oX r iX (by rw [hlX]; exact hIX)) (OldOk.app (by simp)) ?_ | refine c_call (grow_c _ Y lY (FL.app hFY _) oY c iY (by rw [hlY]; exact hIY)) (OldOk.app (by simp)) ?_ | refine c_call (hMX _) (OldOk.app (by simp)) ?_ | refine c_call (hMY _) (OldOk.app (by simp)) ?_ | refine c_call heach (OldOk.set (by simp) (by rw [mxL_fl]; exact Nat.zero_le _)) ?_ | fail))
    | refine gk_consF (by kernel_rfl) ?_
    | refine gk_cons (by (conv => {lhs; whnf}); done) ?_
    | (refine gk_nilN (by (conv => {lhs; simp only [List.nil_append, List.cons_append]}); done) ?_; first | refine ⟨by exact rfl, ?_⟩ | skip)
    | refine gk_nil ?_
    | (intro N' hN'; simp only [List.nil_append, List.cons_append] at hN'; subst hN')
    | (refine gateB ?_; (first | refine b_bln ?_ | refine b_blr ?_ | refine b_ble ?_ | refine b_blo (by exact rfl) ?_ | fail))
    | (refine gateQ ?_; refine b_retK (by simp) (by (conv => {lhs; whnf}); done) ?_)
    | (refine gateR ?_; (first | refine rk_tmp (by (conv => {lhs; whnf}); done) ?_ | refine rk_cellA (by (conv => {lhs; whnf}); done) (by exact rfl) (by exact rfl) ?_ | refine rk_cell1 (by (conv => {lhs; whnf}); done) (by exact rfl) (by exact rfl) ?_ | refine rk_nil ?_ | fail))
    | intro _)
  all_goals first
    | (exfalso; contradiction)
    | (exfalso; omega)
    | (refine rv_old (by simp) (by simp [mx, mxL, resOne]) ?_; exact rfl)


end Go.Sx

set_option linter.unusedVariables false
set_option linter.unusedSimpArgs false
namespace Go.Sx
/-! ### a square in a list of its own, column by column -/
theorem cm_good (g : Nat → Nat → Nat) (n : Nat) : GoodP (cmA g n n).length 0 (n : Int) (n : Int) ((max n 1 : Nat) : Int) := by
  have := dense_good n n []
  rw [denseL_len] at this
  simpa using this
theorem cm_MI {g : Nat → Nat → Nat} {n : Nat} (hn : n ≤ 64) : MI (cmA g n n).length 0 (n : Int) (n : Int) ((max n 1 : Nat) : Int) := by
  have := dense_MI n n hn hn []
  rw [denseL_len] at this
  simpa using this
theorem cmA_congr {g g' : Nat → Nat → Nat} {r c : Nat} (h : ∀ i j, i < r → j < c → g i j = g' i j) : cmA g r c = cmA g' r c := by
  unfold cmA
  refine rml_congr fun k hk => ?_
  have hr : 0 < r := by rcases Nat.eq_zero_or_pos r with h0 | h0; · subst h0; simp at hk
                        · exact h0
  exact h _ _ (Nat.mod_lt _ hr) (Nat.div_lt_of_lt_mul hk)
theorem pos_cm {n i j : Nat} (hn : 0 < n) : pos 0 ((max n 1 : Nat) : Int) i j = i + j * n := by
  unfold pos
  rw [show max n 1 = n by omega, ← Int.natCast_mul]
  omega
theorem cm_idx {n i j : Nat} (hi : i < n) (hj : j < n) : i + j * n < n * n := by
  have := ix_lt hj hi; omega
theorem cmA_get {g : Nat → Nat → Nat} {n i j : Nat} (hi : i < n) (hj : j < n) : (cmA g n n).getD (i + j * n) 0 = g i j := by
  rw [cmA, rml_get (cm_idx hi hj), Nat.add_comm, ix_mod hi, ix_div hi]
theorem mel_cm {g : Nat → Nat → Nat} {n i j : Nat} (hi : i < n) (hj : j < n) : mel (cmA g n n) 0 ((max n 1 : Nat) : Int) i j = g i j := by
  rw [mel_pos, pos_cm (by omega), cmA_get hi hj]
theorem setM_cm {g g' : Nat → Nat → Nat} {n : Nat} : setM (cmA g n n) 0 ((max n 1 : Nat) : Int) n n g' = cmA g' n n := by
  unfold setM cmA
  rw [rml_len]
  refine rml_congr fun p hp => ?_
  have hn : 0 < n := by rcases Nat.eq_zero_or_pos n with h0 | h0; · subst h0; simp at hp
                        · exact h0
  have e : p = pos 0 ((max n 1 : Nat) : Int) (p % n) (p / n) := by
    rw [pos_cm hn]; have := Nat.div_add_mod p n; rw [Nat.mul_comm] at this; omega
  have hl := loc_pos (cm_good g n) (i := p % n) (j := p / n) (Nat.mod_lt _ hn) (Nat.div_lt_of_lt_mul hp)
  rw [← e] at hl
  rw [hl]
theorem colK_congr {g g' : Nat → Nat → Nat} {k n : Nat} (h : ∀ i j, i < n → j < n → g i j = g' i j) (hk : k < n) : colK g k n = colK g' k n := by
  unfold colK
  exact rml_congr fun i hi => h _ _ (by omega) hk
theorem pvK_congr {g g' : Nat → Nat → Nat} {k n : Nat} (h : ∀ i j, i < n → j < n → g i j = g' i j) (hk : k < n) : pvK g k n = pvK g' k n := by
  unfold pvK; rw [colK_congr h hk]
theorem swK_congr {g g' : Nat → Nat → Nat} {k n : Nat} (h : ∀ i j, i < n → j < n → g i j = g' i j) (hk : k < n) (i j : Nat) (hi : i < n) (hj : j < n) : swK g k n i j = swK g' k n i j := by
  unfold swK
  rw [pvK_congr h hk]
  have := pvK_lt (g := g') hk
  unfold swpG
  split
  · exact h _ _ this hj
  · split
    · exact h _ _ hk hj
    · exact h _ _ hi hj
theorem divG_congr {g g' : Nat → Nat → Nat} {k n : Nat} (h : ∀ i j, i < n → j < n → g i j = g' i j) (hk : k < n) (i j : Nat) (hi : i < n) (hj : j < n) : divG g k i j = divG g' k i j := by
  unfold divG
  rw [h _ _ hi hk, h _ _ hk hk, h _ _ hi hj]
theorem ger_part {h : Nat → Nat → Nat} {k n : Nat} {off : Int} (ho : off = 0 + (((k + 1 : Nat) : Int) + ((k + 1 : Nat) : Int) * ((max n 1 : Nat) : Int))) (i j : Nat) (hi : i < n) (hj : j < n) (hk : k < n) :
    partG (mel (cmA h n n) 0 ((max n 1 : Nat) : Int)) (gerG (mel (cmA h n n) off ((max n 1 : Nat) : Int)) negOne (fun i => h (k + 1 + i) k) (fun j => h k (k + 1 + j))) (k + 1) (k + 1) (n - (k + 1)) (n - (k + 1)) i j = subG h k i j := by
  subst ho
  unfold partG subG
  by_cases hc : k < i ∧ k < j
  · rw [if_pos (by omega), if_pos hc]
    simp only [gerG]
    rw [mel_part, mel_cm (by omega) (by omega), show k + 1 + (i - (k + 1)) = i by omega, show k + 1 + (j - (k + 1)) = j by omega]
    exact ger_step
  · rw [if_neg (by omega), if_neg hc, mel_cm hi hj]
theorem part_good {m : Nat} {off ld : Int} {r c i0 j0 r' c' : Nat} (hG : GoodP m off r c ld) (hi : i0 + r' ≤ r) (hj : j0 + c' ≤ c) (hr : 0 < r') (hc : 0 < c') : GoodP m (off + ((i0 : Int) + (j0 : Int) * ld)) r' c' ld := by
  have h1 := good_place hG (i := ((i0 + (r' - 1) : Nat) : Int)) (j := ((j0 + (c' - 1) : Nat) : Int)) (by omega) (by omega) (by omega) (by omega)
  have h2 := good_place hG (i := (i0 : Int)) (j := (j0 : Int)) (by omega) (by omega) (by omega) (by omega)
  obtain ⟨g1, g2, g3, g4, g5, g6⟩ := hG
  have e : ((j0 + (c' - 1) : Nat) : Int) * ld = (j0 : Int) * ld + ((c' : Int) - 1) * ld := by
    rw [← Int.add_mul]; congr 1; omega
  have h3 : 0 ≤ ((c' : Int) - 1) * ld := Int.mul_nonneg (by omega) (by omega)
  refine ⟨by omega, by omega, by omega, g4, by omega, .inr (.inr ⟨by omega, by omega, by omega⟩)⟩
theorem part_MI {m : Nat} {off ld : Int} {r c i0 j0 r' c' : Nat} (hI : MI m off r c ld) (hG : GoodP m off r c ld) (hi : i0 + r' ≤ r) (hj : j0 + c' ≤ c) (hr : 0 < r') (hc : 0 < c') : MI m (off + ((i0 : Int) + (j0 : Int) * ld)) r' c' ld := by
  have h2 := good_place hG (i := (i0 : Int)) (j := (j0 : Int)) (by omega) (by omega) (by omega) (by omega)
  obtain ⟨h1, ho1, ho2, hr1, hr2, hc1, hc2, hl1, hl2⟩ := hI
  refine ⟨h1, by omega, by omega, by omega, by omega, by omega, by omega, hl1, hl2⟩
/-! ### what the loop leaves behind -/
def lcK (g : Nat → Nat → Nat) (k n : Nat) : List Nat := rml (fun i => g (k + 1 + i) k) (n - (k + 1))
def urK (g : Nat → Nat → Nat) (k t : Nat) : List Nat := rml (fun j => g k (k + 1 + j)) t
def gbK (g : Nat → Nat → Nat) (n : Nat) : Nat → List (List AV)
  | 0 => []
  | k + 1 => gbK g n k ++ [fl (lcK (divG (swK (stG g n k) k n) k) k n), fl (urK (divG (swK (stG g n k) k n) k) k (n - (k + 1)))]
theorem gbK_len (g : Nat → Nat → Nat) (n k : Nat) : (gbK g n k).length = 2 * k := by
  induction k with
  | zero => rfl
  | succ k ih => simp [gbK, ih]; omega
@[simp] theorem lcK_len (g : Nat → Nat → Nat) (k n : Nat) : (lcK g k n).length = n - (k + 1) := by simp [lcK]
@[simp] theorem urK_len (g : Nat → Nat → Nat) (k t : Nat) : (urK g k t).length = t := by simp [urK]
theorem il_ne {l : List Int} (h : l ≠ []) : il l ≠ [] := by simpa [il] using h
theorem gN_pv (g : Nat → Nat → Nat) (n k : Nat) : gN (il (pvL g n (k + 1))) = [il (pvL g n (k + 1))] := gN_ne (il_ne (by rw [pvL_succ]; simp))
theorem b_growG {P : Program} {cfg : Cfg} {e : List (Nat × EV)} {L : List (Nat × List AV)} {K : St → Prop} {ty : TypeId} {pos : String} {aft : Array Edge} {gd : Option (Nat × Bool)} {dd : Nat}
    {t tx : TypeId} {s x : Operand} {n i k by_ el' z' : Nat} {z v : AV} {l l' : List AV} {A N₀ G : List (List AV)} [ei : EI P t 1 by_ [z]] [si : SlI P tx el' z'] (hs : St.ev ⟨e, L, A ++ (N₀ ++ (gN l ++ G))⟩ s = .val (gV n i k)) (hx : St.ev ⟨e, L, A ++ (N₀ ++ (gN l ++ G))⟩ x = .val (.sl none 1 [v]))
    (hA : A.length = n) (hi : N₀.length = i) (hk : l.length = k) (hG : k = 0 → G = []) (hm : k + 1 ≤ 2 ^ 32) (hn : cfg.n0 = n) (hz : (decide (by_ ≤ 2 ^ 10) && decide (0 < by_)) = true) (hl : l ++ [v] = l')
    (h : K ⟨(dd, .val (gV n i (k + 1))) :: e, L, A ++ (N₀ ++ (gN l' ++ G))⟩) :
    opX P cfg ⟨some dd, .call { callee := .builtin .append, args := #[s, x], argTypes := #[t, tx] }, ty, pos, aft, gd⟩ K ⟨e, L, A ++ (N₀ ++ (gN l ++ G))⟩ := by
  cases l with
  | nil =>
    simp only [List.length_nil] at hk; subst hk
    have hG' := hG rfl
    subst hG'
    simp only [List.append_nil] at hs hx h ⊢
    exact b_grow hs hx hA hi rfl hm hn hz hl h
  | cons a l =>
    subst hl
    have e1 : gV n i (k + 1) = .slm (n + i) (k + 1) 0 (k + 1) 1 := by simp [gV]
    have e2 : gN (a :: l ++ [v]) = [a :: l ++ [v]] := by simp [gN]
    rw [e1, e2] at h
    have hk0 : k ≠ 0 := by simp at hk; omega
    have e3 : gV n i k = .slm (n + i) k 0 k 1 := by simp [gV, hk0]
    have e4 : gN (a :: l) = [a :: l] := by simp [gN]
    rw [e3] at hs
    rw [e4] at hs hx ⊢
    subst hi
    exact b_appN (cs := a :: l) (xs := [v]) (m := 1) hs hx hA (by simp) (src_fz rfl) hk rfl hm (.inl (by omega)) hz rfl (by simp) (by simp at hk ⊢; omega) rfl h
theorem gV_frG {n i k : Nat} {l : List AV} {A N₀ G : List (List AV)} (hA : A.length = n) (hi : N₀.length = i) (hk : l.length = k) (hm : mxL l ≤ n) : Fr n [] (A ++ (N₀ ++ (gN l ++ G))) (gV n i k) (.sl none k l) := by
  cases l with
  | nil =>
    simp only [List.length_nil] at hk; subst hk
    simp only [gV, if_true]; exact Fr.nil
  | cons a l =>
    have hk0 : k ≠ 0 := by simp at hk; omega
    simp only [gV, if_neg hk0]
    have : (A ++ (N₀ ++ (gN (a :: l) ++ G)))[n + i]? = some (a :: l) := by
      refine hg_new hA ?_
      subst hi; simp [gN]
    exact Fr.fz (by omega) (by simp) this hk (gc_all _ (by rw [hk]; omega)) (Frs.old hm)
theorem col_slice {h : Nat → Nat → Nat} {k n : Nat} (hk : k < n) : ((cmA h n n).drop (k * n + (k + 1))).take (n - (k + 1)) = lcK h k n := by
  have hkn : k * n + n ≤ n * n := by
    have := Nat.mul_le_mul_right n (show k + 1 ≤ n by omega)
    rw [Nat.add_mul] at this; omega
  apply List.ext_getElem
  · simp; omega
  · intro i h1 h2
    have hi : i < n - (k + 1) := by simpa using h2
    have e := cmA_get (g := h) (i := k + 1 + i) (j := k) (n := n) (by omega) hk
    have hl : k * n + (k + 1) + i < (cmA h n n).length := by simp; omega
    rw [show k + 1 + i + k * n = k * n + (k + 1) + i by omega, List.getD_eq_getElem?_getD, List.getElem?_eq_getElem hl] at e
    simp only [List.getElem_take, List.getElem_drop, lcK, rml, List.getElem_map, List.getElem_range]
    simpa using e
theorem slc_slm {id g q lo hi m : Nat} (hm : 0 < m) (h : hi = lo + m) : slcV 1 lo hi (.slm id g 0 q 1) = some (.slm id g lo m 1) := by
  subst h
  simp only [slcV, if_true]
  rw [if_pos (by omega)]
  simp
end Go.Sx
