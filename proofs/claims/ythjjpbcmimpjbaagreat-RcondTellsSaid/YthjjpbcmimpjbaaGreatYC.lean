/- A part of the proofs of this seat: YC. No condition is set. -/
import Derived.Test.YthjjpbcmimpjbaaGreatYA
import Derived.Test.YthjjpbcmimpjbaaGreatYB
set_option linter.unusedVariables false
set_option linter.unusedSimpArgs false
set_option linter.unusedSectionVars false
set_option maxRecDepth 20000
namespace Go.Sx
open Go.Proofs


section
attribute [local irreducible] Ex exOps exD opX opE thenX blkX RetQ Spec CSpec Fr condK guardK guardD ckK valK pickK loadK faK callK argK gK fK rK RetV lpX prK
set_option maxHeartbeats 4000000 in
theorem fits_c (H : List (List AV)) (size off steps step more : Int) (h0 : 0 ≤ size) (hs : size ≤ 9223372036854775807) (h1 : 0 ≤ more) (h2 : 0 ≤ steps) (h3 : 1 ≤ step) (hm : more ≤ 2 ^ 63 - 1) (ho : off ≤ 2^63 -1) (ho' : -(2^63) ≤ off) (hst : step ≤ 2^63 - 1) :
    CSpec Tryz.prog 107 [.int .i64 size, .int .i64 off, .int .i64 steps, .int .i64 step, .int .i64 more] H (.bool (decide (0 ≤ off ∧ off < size ∧ more < size - off ∧ steps * step ≤ size - 1 - off - more))) H := by
  refine .mk (fun args w => Tryz.call107 args w) (Spec.intro' (fn := Tryz.f107) Tryz.func107 rfl (by kernel_rfl) (by simp) false [] (draw := drawX Tryz.prog ⟨false, _, []⟩) dOk ?_)
  simp only [argE, Nat.reduceAdd]
  repeat' (first
    | (refine gateE ?_; (first | refine b_c0 ?_ | refine b_nil ?_ | refine m13 ?_ | refine m12 ?_ | refine m11 ?_ | (refine m10 ?_; (first | refine g_TT ?_ | refine g_FF ?_ | refine g_TF ?_ | refine g_FT ?_ | refine g_PT ?_ ?_ | refine g_PF ?_ ?_ | refine g_BT ?_ ?_ | refine g_BF ?_ ?_ | fail)) | (refine m09 ?_; (first | refine g_TT ?_ | refine g_FF ?_ | refine g_TF ?_ | refine g_FT ?_ | refine g_PT ?_ ?_ | refine g_PF ?_ ?_ | refine g_BT ?_ ?_ | refine g_BF ?_ ?_ | fail)) | refine m38 ?_ | fail))
    | (refine gateO ?_; (first | refine m14 ?_ | (refine m00 ?_; (first | refine m47 ?_ | refine m48 ?_ | refine m49 ?_ | refine m50 ?_ | refine v_qc (by omega) (by omega) ?_ | refine v_k ?_ | refine m51 ?_ | fail)) | (refine m22 ?_; (first | refine m26 ?_ | refine m27 ?_ | fail)) | refine m42 ?_ | refine b_assignI ?_ | refine b_assignN ?_ | refine m08 ?_ | fail))
    | (refine gateT ?_; (first | refine b_thn ?_ | refine b_thr ?_ | refine b_the ?_ | fail))
    | (refine gateX ?_; (first | refine b_seq ?_ | refine b_region ?_ | (refine m06 ?_; (first | refine c_T ?_ | refine c_F ?_ | refine c_P ?_ ?_ | refine c_B ?_ ?_ | fail)) | refine b_ret ?_ | refine b_skip ?_ | refine b_block ?_ | refine b_exit ?_ | fail))
    | (refine gateQ ?_; refine m05 ?_)
    | (refine gateR ?_; (first | refine m04 ?_ | refine m02 ?_ | refine m03 ?_ | refine rk_nil ?_ | fail))
    | intro _)
  all_goals first | refine rv_old rfl (by simp [mx, mxL, aOf, aOf1, resOne]) ?_ | (trace_state; fail)
  all_goals first
    | exact rtF (by omega)
    | (refine rvP ?_; rw [Int.le_ediv_iff_mul_le (by omega)]; omega)

set_option maxHeartbeats 4000000 in
theorem good_c (H : List (List AV)) (D : AV) (n : Nat) (off rows cols ld : Int) (hD : slen D = some n) (hI : MI n off rows cols ld) :
    CSpec Tryz.prog 51 [mt D off rows cols ld] H (.bool (decide (GoodP n off rows cols ld))) H := by
  obtain ⟨hn, ho1, ho2, hr1, hr2, hc1, hc2, hl1, hl2⟩ := id hI
  refine .mk (fun args w => Tryz.call51 args w) (Spec.intro' (fn := Tryz.f51) Tryz.func51 rfl (by kernel_rfl) (by simp) false [] (draw := drawX Tryz.prog ⟨false, _, []⟩) dOk ?_)
  simp only [argE, Nat.reduceAdd]
  repeat' (first
    | (refine gateE ?_; (first | refine b_c0 ?_ | refine b_nil ?_ | refine m13 ?_ | refine m12 ?_ | refine m11 ?_ | (refine m10 ?_; (first | refine g_TT ?_ | refine g_FF ?_ | refine g_TF ?_ | refine g_FT ?_ | refine g_PT ?_ ?_ | refine g_PF ?_ ?_ | refine g_BT ?_ ?_ | refine g_BF ?_ ?_ | fail)) | (refine m09 ?_; (first | refine g_TT ?_ | refine g_FF ?_ | refine g_TF ?_ | refine g_FT ?_ | refine g_PT ?_ ?_ | refine g_PF ?_ ?_ | refine g_BT ?_ ?_ | refine g_BF ?_ ?_ | fail)) | refine m38 ?_ | fail))
    | (refine gateO ?_; (first | refine m14 ?_ | (refine m17 ?_; first | refine m19 ?_ | refine m18 ?_) | (refine m07 ?_; (first | refine m15 ?_ | refine m16 ?_ | fail)) | (refine m45 ?_; (first | refine v_bbT (by exact rfl) ?_ | refine v_k ?_ | fail)) | (refine m00 ?_; (first | refine m52 ?_ | refine m53 ?_ | refine v_eP ?_ | refine m47 ?_ | refine m48 ?_ | refine m49 ?_ | refine m50 ?_ | refine v_k ?_ | refine m51 ?_ | fail)) | (refine m22 ?_; (first | refine m26 ?_ | refine m27 ?_ | fail)) | refine m42 ?_ | refine b_assignI ?_ | refine b_assignN ?_ | refine m08 ?_ | refine b_callB ?_ | refine b_lenA (by (conv => {lhs; whnf}); done) (by first | rfl | assumption) ?_ | refine m01 ?_ | fail))
    | (refine gateT ?_; (first | refine b_thn ?_ | refine b_thr ?_ | refine b_the ?_ | fail))
    | (refine gateX ?_; (first | refine b_seq ?_ | refine b_region ?_ | (refine m06 ?_; (first | refine c_T ?_ | refine c_F ?_ | refine c_P ?_ ?_ | refine c_B ?_ ?_ | fail)) | refine b_ret ?_ | refine b_skip ?_ | refine b_block ?_ | refine b_exit ?_ | fail))
    | refine m21 ?_
    | refine a_nil ?_
    | (refine gateK ?_; (first | refine c_call (fits_c _ _ _ _ _ _ (by omega) (by omega) (by omega) (by omega) (by omega) (by omega) (by omega) (by omega) (by omega)) (OldOk.refl _ _) ?_ | fail))
    | (refine gateQ ?_; refine m05 ?_)
    | (refine gateR ?_; (first | refine m04 ?_ | refine m02 ?_ | refine m03 ?_ | refine rk_nil ?_ | fail))
    | intro _)
  all_goals first | refine rv_old rfl (by simp [mx, mxL, aOf, aOf1, resOne]) ?_ | (trace_state; fail)
  all_goals first
    | exact rtF (by unfold GoodP; omega)
    | exact rtT (by unfold GoodP; omega)
    | exact rvP (by unfold GoodP; omega)

set_option maxHeartbeats 4000000 in
theorem span_c (H : List (List AV)) (D : AV) (n : Nat) (off rows cols ld : Int) (hD : slen D = some n) (hI : MI n off rows cols ld) :
    CSpec Tryz.prog 171 [mt D off rows cols ld] H (.tup [.int .i64 (sF n off rows cols ld), .int .i64 (sT n off rows cols ld), .bool (decide (SpanP n off rows cols ld))]) H := by
  obtain ⟨hn, ho1, ho2, hr1, hr2, hc1, hc2, hl1, hl2⟩ := id hI
  refine .mk (fun args w => Tryz.call171 args w) (Spec.intro' (fn := Tryz.f171) Tryz.func171 rfl (by kernel_rfl) (by simp) false [] (draw := drawX Tryz.prog ⟨false, _, []⟩) dOk ?_)
  simp only [argE, Nat.reduceAdd]
  repeat' (first
    | (refine gateE ?_; (first | refine b_c0 ?_ | refine b_nil ?_ | refine m13 ?_ | refine m12 ?_ | refine m11 ?_ | (refine m10 ?_; (first | refine g_TT ?_ | refine g_FF ?_ | refine g_TF ?_ | refine g_FT ?_ | refine g_PT ?_ ?_ | refine g_PF ?_ ?_ | refine g_BT ?_ ?_ | refine g_BF ?_ ?_ | fail)) | (refine m09 ?_; (first | refine g_TT ?_ | refine g_FF ?_ | refine g_TF ?_ | refine g_FT ?_ | refine g_PT ?_ ?_ | refine g_PF ?_ ?_ | refine g_BT ?_ ?_ | refine g_BF ?_ ?_ | fail)) | refine m38 ?_ | fail))
    | (refine gateO ?_; (first | refine m14 ?_ | (refine m17 ?_; first | refine m19 ?_ | refine m18 ?_) | (refine m07 ?_; (first | refine m15 ?_ | refine m16 ?_ | fail)) | (refine m45 ?_; (first | refine v_w (by first | omega | (simp only [GoodP, Decidable.not_not] at *; have hh := Int.mul_nonneg (show 0 ≤ cols - 1 by omega) (show 0 ≤ ld by omega); omega)) ?_ | refine v_bbT (by exact rfl) ?_ | refine v_k ?_ | fail)) | (refine m00 ?_; (first | refine v_w (by first | omega | (simp only [GoodP, Decidable.not_not] at *; have hh := Int.mul_nonneg (show 0 ≤ cols - 1 by omega) (show 0 ≤ ld by omega); omega)) ?_ | refine m52 ?_ | refine m53 ?_ | refine v_eP ?_ | refine m49 ?_ | refine m50 ?_ | refine v_nT ?_ | refine v_nF ?_ | refine v_nP ?_ | refine v_k ?_ | refine m51 ?_ | fail)) | (refine m22 ?_; (first | refine m26 ?_ | refine m27 ?_ | fail)) | refine m42 ?_ | refine b_assignI ?_ | refine b_assignN ?_ | refine m08 ?_ | (refine m20 ?_; (first | refine v_w (by first | omega | (simp only [GoodP, Decidable.not_not] at *; have hh := Int.mul_nonneg (show 0 ≤ cols - 1 by omega) (show 0 ≤ ld by omega); omega)) ?_ | refine m52 ?_ | refine m53 ?_ | refine v_eP ?_ | refine m49 ?_ | refine m50 ?_ | refine v_nT ?_ | refine v_nF ?_ | refine v_nP ?_ | refine v_k ?_ | refine m51 ?_ | fail)) | refine b_callB ?_ | refine m01 ?_ | fail))
    | (refine gateD ?_; (first | refine m36 ?_ | refine d_nil ?_ | refine m32 ?_ | refine m31 ?_ | refine m30 ?_ | (refine m28 ?_; (first | refine dg_TT ?_ | refine dg_FF ?_ | refine dg_TF ?_ | refine dg_FT ?_ | refine dg_PT ?_ ?_ | refine dg_PF ?_ ?_ | refine dg_BT ?_ ?_ | refine dg_BF ?_ ?_ | fail)) | (refine m29 ?_; (first | refine dg_TT ?_ | refine dg_FF ?_ | refine dg_TF ?_ | refine dg_FT ?_ | refine dg_PT ?_ ?_ | refine dg_PF ?_ ?_ | refine dg_BT ?_ ?_ | refine dg_BF ?_ ?_ | fail)) | refine m37 ?_ | fail))
    | (refine gateC ?_; (first | refine k_lt ?_ | refine m34 ?_ | refine m35 ?_ | refine m33 ?_ | refine k_mn ?_ | refine m56 ?_ | refine k_mnF ?_ | fail))
    | (refine gateT ?_; (first | refine b_thn ?_ | refine b_thr ?_ | refine b_the ?_ | fail))
    | (refine gateX ?_; (first | refine b_seq ?_ | refine b_region ?_ | (refine m06 ?_; (first | refine c_T ?_ | refine c_F ?_ | refine c_P ?_ ?_ | refine c_B ?_ ?_ | fail)) | refine b_ret ?_ | refine b_skip ?_ | refine b_block ?_ | refine b_exit ?_ | refine b_draw [] [] [(0, .lt), (1, .ld true), (2, .lt), (3, .ld true), (4, .lt), (5, .ld true), (6, .lt), (7, .lt), (8, .ld true), (9, .lt), (10, .lt), (11, .lt), (12, .ld true), (13, .lt), (14, .lt), (15, .lt), (16, .lt), (17, .lt)] (by kernel_rfl) ?_ | fail))
    | refine m21 ?_
    | refine a_nil ?_
    | (refine gateK ?_; (first | refine c_call (good_c _ D n off rows cols ld hD hI) (OldOk.refl _ _) ?_ | fail))
    | (refine gateQ ?_; refine m05 ?_)
    | (refine gateR ?_; (first | refine m04 ?_ | refine m02 ?_ | refine m03 ?_ | refine rk_nil ?_ | fail))
    | intro _)
  all_goals first | refine rv_old rfl (by simp [mx, mxL, aOf, aOf1, resOne]) ?_ | (trace_state; fail)
  all_goals (unfold sF sT; simp only [resOne, List.nil_append, List.cons_append, aOf, aOf1])
  all_goals first
    | (have hp : ¬ SpanP n off rows cols ld := by (unfold SpanP; simp_all)
       rw [if_neg hp, if_neg hp, decide_eq_false hp]; done)
    | (have hp : SpanP n off rows cols ld := by (unfold SpanP; simp_all)
       rw [if_pos hp, if_pos hp, decide_eq_true hp]; done)

set_option maxHeartbeats 4000000 in
theorem meet_c (H : List (List AV)) (Da : AV) (na : Nat) (offa rowsa colsa lda : Int) (hDa : slen Da = some na) (hIa : MI na offa rowsa colsa lda) (Db : AV) (nb : Nat) (offb rowsb colsb ldb : Int) (hDb : slen Db = some nb) (hIb : MI nb offb rowsb colsb ldb) (pe : Bool) (hpe : 0 < na → 0 < nb → ptrEq H Da 0 Db 0 = some pe) :
    CSpec Tryz.prog 142 [mt Da offa rowsa colsa lda, mt Db offb rowsb colsb ldb] H (.bool (decide (SpanP na offa rowsa colsa lda ∧ SpanP nb offb rowsb colsb ldb ∧ pe = true ∧ sF na offa rowsa colsa lda ≤ sT nb offb rowsb colsb ldb ∧ sF nb offb rowsb colsb ldb ≤ sT na offa rowsa colsa lda))) H := by
  obtain ⟨hna, ho1a, ho2a, hr1a, hr2a, hc1a, hc2a, hl1a, hl2a⟩ := id hIa
  obtain ⟨hnb, ho1b, ho2b, hr1b, hr2b, hc1b, hc2b, hl1b, hl2b⟩ := id hIb
  refine .mk (fun args w => Tryz.call142 args w) (Spec.intro' (fn := Tryz.f142) Tryz.func142 rfl (by kernel_rfl) (by simp) false [] (draw := drawX Tryz.prog ⟨false, _, []⟩) dOk ?_)
  simp only [argE, Nat.reduceAdd]
  repeat' (first
    | (refine gateE ?_; (first | refine b_c0 ?_ | refine b_nil ?_ | refine m13 ?_ | refine m12 ?_ | refine m11 ?_ | (refine m10 ?_; (first | refine g_TT ?_ | refine g_FF ?_ | refine g_TF ?_ | refine g_FT ?_ | refine g_PT ?_ ?_ | refine g_PF ?_ ?_ | refine g_BT ?_ ?_ | refine g_BF ?_ ?_ | fail)) | (refine m09 ?_; (first | refine g_TT ?_ | refine g_FF ?_ | refine g_TF ?_ | refine g_FT ?_ | refine g_PT ?_ ?_ | refine g_PF ?_ ?_ | refine g_BT ?_ ?_ | refine g_BF ?_ ?_ | fail)) | refine m38 ?_ | fail))
    | (refine gateO ?_; (first | refine m14 ?_ | (refine m17 ?_; first | refine m19 ?_ | refine m18 ?_) | (refine m07 ?_; (first | refine m15 ?_ | refine m16 ?_ | fail)) | refine b_ia0 (by (conv => {lhs; whnf}); done) (by assumption) (span_pos (by assumption)) ?_ | refine b_ptr (by (conv => {lhs; whnf}); done) (by (conv => {lhs; whnf}); done) (by rw [List.append_nil]; exact hpe (span_pos (by assumption)) (span_pos (by assumption))) ?_ | (refine m45 ?_; (first | refine v_bbT (by exact rfl) ?_ | refine v_k ?_ | fail)) | (refine m00 ?_; (first | refine m52 ?_ | refine m53 ?_ | refine v_eP ?_ | refine m47 ?_ | refine m48 ?_ | refine m49 ?_ | refine m50 ?_ | refine v_k ?_ | refine m51 ?_ | fail)) | (refine m22 ?_; (first | refine m26 ?_ | refine m27 ?_ | fail)) | refine m42 ?_ | refine b_assignI ?_ | refine b_assignN ?_ | refine m08 ?_ | refine b_callB ?_ | refine m23 ?_ | refine m01 ?_ | fail))
    | (refine gateD ?_; (first | refine m36 ?_ | refine d_nil ?_ | refine m32 ?_ | refine m31 ?_ | refine m30 ?_ | (refine m28 ?_; (first | refine dg_TT ?_ | refine dg_FF ?_ | refine dg_TF ?_ | refine dg_FT ?_ | refine dg_PT ?_ ?_ | refine dg_PF ?_ ?_ | refine dg_BT ?_ ?_ | refine dg_BF ?_ ?_ | fail)) | (refine m29 ?_; (first | refine dg_TT ?_ | refine dg_FF ?_ | refine dg_TF ?_ | refine dg_FT ?_ | refine dg_PT ?_ ?_ | refine dg_PF ?_ ?_ | refine dg_BT ?_ ?_ | refine dg_BF ?_ ?_ | fail)) | refine m37 ?_ | fail))
    | (refine gateC ?_; (first | refine k_lt ?_ | refine m34 ?_ | refine m35 ?_ | refine m33 ?_ | refine k_mn ?_ | refine m56 ?_ | refine k_mnF ?_ | fail))
    | (refine gateT ?_; (first | refine b_thn ?_ | refine b_thr ?_ | refine b_the ?_ | fail))
    | (refine gateX ?_; (first | refine b_seq ?_ | refine b_region ?_ | (refine m06 ?_; (first | refine c_T ?_ | refine c_F ?_ | refine c_P ?_ ?_ | refine c_B ?_ ?_ | fail)) | refine b_ret ?_ | refine b_skip ?_ | refine b_block ?_ | refine b_exit ?_ | refine b_draw [] [] [(0, .lt), (1, .lt), (2, .lt), (3, .lt), (4, .lt), (5, .lt), (6, .ld true), (7, .lt), (8, .lt), (9, .ld true), (10, .lt), (11, .ld true), (12, .lt), (13, .lt), (14, .lt), (15, .lt), (16, .lt), (17, .lt), (18, .lt), (19, .lt), (20, .lt), (21, .lt), (22, .lt), (23, .lt)] (by kernel_rfl) ?_ | fail))
    | refine m21 ?_
    | refine a_nil ?_
    | (refine gateK ?_; (first | refine c_call (span_c _ Da na offa rowsa colsa lda hDa hIa) (OldOk.refl _ _) ?_ | refine c_call (span_c _ Db nb offb rowsb colsb ldb hDb hIb) (OldOk.refl _ _) ?_ | fail))
    | (refine gateQ ?_; refine m05 ?_)
    | (refine gateR ?_; (first | refine m04 ?_ | refine m02 ?_ | refine m03 ?_ | refine rk_nil ?_ | fail))
    | intro _)
  all_goals first | refine rv_old rfl (by simp [mx, mxL, aOf, aOf1, resOne]) ?_ | (trace_state; fail)
  all_goals first
    | (refine rtF ?_; first | (simp_all; done) | (simp_all; omega))
    | (refine rvF ?_; first | (simp_all; done) | (simp_all; omega))
    | (refine rtT ?_; first | (simp_all; done) | (simp_all; omega))
    | (refine rvT ?_; first | (simp_all; done) | (simp_all; omega))
    | (refine rvP ?_; first | (simp_all; done) | (simp_all; omega))

set_option maxHeartbeats 4000000 in
theorem place_c (H : List (List AV)) (D : AV) (n : Nat) (off rows cols ld : Int) (hD : slen D = some n) (hI : MI n off rows cols ld) (i j : Int) (hi1 : -9223372036854775808 ≤ i) (hi2 : i ≤ 9223372036854775807) (hj1 : -9223372036854775808 ≤ j) (hj2 : j ≤ 9223372036854775807) :
    CSpec Tryz.prog 140 [mt D off rows cols ld, .int .i64 i, .int .i64 j] H (.int .i64 (plV n off rows cols ld i j)) H := by
  obtain ⟨hn, ho1, ho2, hr1, hr2, hc1, hc2, hl1, hl2⟩ := id hI
  refine .mk (fun args w => Tryz.call140 args w) (Spec.intro' (fn := Tryz.f140) Tryz.func140 rfl (by kernel_rfl) (by simp) false [] (draw := drawX Tryz.prog ⟨false, _, []⟩) dOk ?_)
  simp only [argE, Nat.reduceAdd]
  repeat' (first
    | (refine gateE ?_; (first | refine b_c0 ?_ | refine b_nil ?_ | refine m13 ?_ | refine m12 ?_ | refine m11 ?_ | (refine m10 ?_; (first | refine g_TT ?_ | refine g_FF ?_ | refine g_TF ?_ | refine g_FT ?_ | refine g_PT ?_ ?_ | refine g_PF ?_ ?_ | refine g_BT ?_ ?_ | refine g_BF ?_ ?_ | fail)) | (refine m09 ?_; (first | refine g_TT ?_ | refine g_FF ?_ | refine g_TF ?_ | refine g_FT ?_ | refine g_PT ?_ ?_ | refine g_PF ?_ ?_ | refine g_BT ?_ ?_ | refine g_BF ?_ ?_ | fail)) | refine m38 ?_ | fail))
    | (refine gateO ?_; (first | refine m14 ?_ | (refine m17 ?_; first | refine m19 ?_ | refine m18 ?_) | (refine m07 ?_; (first | refine m15 ?_ | refine m16 ?_ | fail)) | (refine m00 ?_; (first | refine v_w (by have hp := good_place (Decidable.not_not.1 (by assumption)) (i := i) (j := j) (by omega) (by omega) (by omega) (by omega); omega) ?_ | refine m47 ?_ | refine m48 ?_ | refine m49 ?_ | refine m50 ?_ | refine v_nT ?_ | refine v_nF ?_ | refine v_nP ?_ | refine v_k ?_ | refine m51 ?_ | fail)) | (refine m22 ?_; (first | refine m26 ?_ | refine m27 ?_ | fail)) | refine m42 ?_ | refine b_assignI ?_ | refine b_assignN ?_ | refine m08 ?_ | (refine m20 ?_; (first | refine v_w (by have hp := good_place (Decidable.not_not.1 (by assumption)) (i := i) (j := j) (by omega) (by omega) (by omega) (by omega); omega) ?_ | refine m47 ?_ | refine m48 ?_ | refine m49 ?_ | refine m50 ?_ | refine v_nT ?_ | refine v_nF ?_ | refine v_nP ?_ | refine v_k ?_ | refine m51 ?_ | fail)) | refine b_callB ?_ | refine m01 ?_ | fail))
    | (refine gateT ?_; (first | refine b_thn ?_ | refine b_thr ?_ | refine b_the ?_ | fail))
    | (refine gateX ?_; (first | refine b_seq ?_ | refine b_region ?_ | (refine m06 ?_; (first | refine c_T ?_ | refine c_F ?_ | refine c_P ?_ ?_ | refine c_B ?_ ?_ | fail)) | refine b_ret ?_ | refine b_skip ?_ | refine b_block ?_ | refine b_exit ?_ | fail))
    | refine m21 ?_
    | refine a_nil ?_
    | (refine gateK ?_; (first | refine c_call (good_c _ D n off rows cols ld hD hI) (OldOk.refl _ _) ?_ | fail))
    | (refine gateQ ?_; refine m05 ?_)
    | (refine gateR ?_; (first | refine m04 ?_ | refine m02 ?_ | refine m03 ?_ | refine rk_nil ?_ | fail))
    | intro _)
  all_goals first | refine rv_old rfl (by simp [mx, mxL, aOf, aOf1, resOne]) ?_ | (trace_state; fail)
  all_goals (unfold plV; simp only [resOne, List.nil_append, List.cons_append, aOf, aOf1])
  all_goals first
    | (have hp : ¬ PlaceP n off rows cols ld i j := by (rintro ⟨h1, h2, h3, h4, h5⟩; first | contradiction | omega)
       rw [if_neg hp]; done)
    | (have hp : PlaceP n off rows cols ld i j := by (refine ⟨Decidable.not_not.1 (by assumption), ?_, ?_, ?_, ?_⟩ <;> omega)
       rw [if_pos hp]; done)

theorem meet_f (H : List (List AV)) (Da : AV) (na : Nat) (offa rowsa colsa lda : Int) (hDa : slen Da = some na) (hIa : MI na offa rowsa colsa lda) (Db : AV) (nb : Nat) (offb rowsb colsb ldb : Int) (hDb : slen Db = some nb) (hIb : MI nb offb rowsb colsb ldb) (hpe : 0 < na → 0 < nb → ptrEq H Da 0 Db 0 = some false) :
    CSpec Tryz.prog 142 [mt Da offa rowsa colsa lda, mt Db offb rowsb colsb ldb] H (.bool false) H := by
  have := meet_c H Da na offa rowsa colsa lda hDa hIa Db nb offb rowsb colsb ldb hDb hIb false hpe
  simpa using this

end
/-! ### a float's bits -/
theorem bits_run (b : Nat) (w : World) : (callFunc 61 #[.float .f64 b]).run Tryz.prog w = .ok (.value (.int .u64 b)) w := by
  rw [run_callFunc_extern (fn := Tryz.f61) Tryz.func61 (by kernel_rfl) (by kernel_rfl) (by kernel_rfl) (e := Extern.MathFloatBits.float64bits) (by kernel_rfl)]
  rfl
theorem frombits_run (n : Int) (w : World) : (callFunc 80 #[.int .u64 n]).run Tryz.prog w = .ok (.value (.float .f64 n.toNat)) w := by
  rw [run_callFunc_extern (fn := Tryz.f80) Tryz.func80 (by kernel_rfl) (by kernel_rfl) (by kernel_rfl) (e := Extern.MathFloatBits.float64frombits) (by kernel_rfl)]
  rfl
theorem bits_c (H : List (List AV)) (b : Nat) : CSpec Tryz.prog 61 [.fraw b] H (.int .u64 b) H := by
  refine .inr ⟨rfl, fun w g cargs h => ?_⟩
  simp only [LRep] at h
  obtain ⟨v, r, hv, h1, rfl⟩ := h
  simp only [VRep] at h1
  obtain ⟨rfl, _⟩ := h1
  have : cargs = #[.float .f64 b] := Array.ext' hv
  subst this
  exact ⟨_, bits_run b w, by simp [VRep]⟩
theorem frombits_c (H : List (List AV)) (n : Int) (hn : 0 ≤ n ∧ n ≤ 18446744073709551615) : CSpec Tryz.prog 80 [.int .u64 n] H (.fraw n.toNat) H := by
  refine .inr ⟨rfl, fun w g cargs h => ?_⟩
  simp only [LRep] at h
  obtain ⟨v, r, hv, h1, rfl⟩ := h
  simp only [VRep] at h1
  subst h1
  have : cargs = #[.int .u64 n] := Array.ext' hv
  subst this
  exact ⟨_, frombits_run n w, by simp only [VRep]; exact ⟨trivial, by omega⟩⟩
section
attribute [local irreducible] Ex exOps exD opX opE thenX blkX RetQ Spec CSpec Fr condK guardK guardD ckK valK pickK loadK faK callK argK gK fK rK RetV lpX prK
set_option maxHeartbeats 4000000 in
theorem parts_c (H : List (List AV)) (b : Nat) (hb : b < 2 ^ 64) :
    CSpec Tryz.prog 60 [.fraw b] H (.tup [.bool (pNeg b), .int .u64 (pM b), .int .i64 (pE b), .int .i64 (pK b)]) H := by
  refine .mk (fun args w => Tryz.call60 args w) (Spec.intro' (fn := Tryz.f60) Tryz.func60 rfl (by kernel_rfl) (by simp) false [] (draw := drawX Tryz.prog ⟨false, _, []⟩) dOk ?_)
  simp only [argE, Nat.reduceAdd]
  repeat' (first
    | (refine gateE ?_; (first | refine b_c0 ?_ | refine b_nil ?_ | refine m13 ?_ | refine m12 ?_ | refine m11 ?_ | (refine m10 ?_; (first | refine g_TT ?_ | refine g_FF ?_ | refine g_TF ?_ | refine g_FT ?_ | refine g_PT ?_ ?_ | refine g_PF ?_ ?_ | refine g_BT ?_ ?_ | refine g_BF ?_ ?_ | fail)) | (refine m09 ?_; (first | refine g_TT ?_ | refine g_FF ?_ | refine g_TF ?_ | refine g_FT ?_ | refine g_PT ?_ ?_ | refine g_PF ?_ ?_ | refine g_BT ?_ ?_ | refine g_BF ?_ ?_ | fail)) | refine m38 ?_ | fail))
    | (refine gateO ?_; (first | refine m14 ?_ | (refine m45 ?_; (first | refine v_bbT (by exact rfl) ?_ | refine v_k ?_ | fail)) | (refine m00 ?_; (first | refine m52 ?_ | refine m53 ?_ | refine v_eP ?_ | refine m49 ?_ | refine m50 ?_ | refine v_shr (by omega) (by decide) (by (conv => {lhs; simp [IntKind.bits]}); done) ?_ | refine v_mod (by omega) (by omega) ?_ | refine v_k ?_ | refine m51 ?_ | fail)) | (refine m22 ?_; (first | refine m26 ?_ | refine m27 ?_ | fail)) | refine m42 ?_ | refine b_assignI ?_ | refine b_assignN ?_ | refine m08 ?_ | refine b_callB ?_ | (refine m46 ?_; (first | refine m52 ?_ | refine m53 ?_ | refine v_eP ?_ | refine m49 ?_ | refine m50 ?_ | refine v_shr (by omega) (by decide) (by (conv => {lhs; simp [IntKind.bits]}); done) ?_ | refine v_mod (by omega) (by omega) ?_ | refine v_k ?_ | refine m51 ?_ | fail)) | refine b_cnvF (by (conv => {lhs; whnf}); done) (by exact rfl) ?_ | refine b_cnvIF (by (conv => {lhs; whnf}); done) ?_ | fail))
    | (refine gateT ?_; (first | refine b_thn ?_ | refine b_thr ?_ | refine b_the ?_ | fail))
    | (refine gateX ?_; (first | refine b_seq ?_ | refine b_region ?_ | (refine m06 ?_; (first | refine c_T ?_ | refine c_F ?_ | refine c_P ?_ ?_ | refine c_B ?_ ?_ | fail)) | refine b_ret ?_ | refine b_skip ?_ | refine b_block ?_ | refine b_exit ?_ | fail))
    | refine m21 ?_
    | refine a_nil ?_
    | (refine gateK ?_; (first | refine c_call (bits_c _ _) (OldOk.refl _ _) ?_ | fail))
    | (refine gateQ ?_; refine m05 ?_)
    | (refine gateR ?_; (first | refine m04 ?_ | refine m02 ?_ | refine m03 ?_ | refine rk_nil ?_ | fail))
    | intro _)
  all_goals first | refine rv_old rfl (by simp [mx, mxL, aOf, aOf1, resOne]) ?_ | (trace_state; fail)
  all_goals (simp only [resOne, List.nil_append, List.cons_append, aOf, aOf1, pM, pE, pK, pNeg, pE₀, pM₀] at *; simp_all)


end
theorem isNaN_iff (b : Nat) : isNaN b = true ↔ 9218868437227405312 < b % 9223372036854775808 := by
  have e1 : Ieee.double.signWeight = 9223372036854775808 := by decide
  have e2 : Ieee.double.binade = 4503599627370496 := by decide
  have e3 : Ieee.double.infRung = 9218868437227405312 := by decide
  unfold isNaN Ieee.Format.read
  simp only [e1, e2, e3]
  split
  · simp [Ieee.Datum.isNaN]; omega
  · split
    · simp [Ieee.Datum.isNaN]; omega
    · split
      · simp [Ieee.Datum.isNaN]; omega
      · simp [Ieee.Datum.isNaN]; omega
theorem pK_two (b : Nat) : pK b = 2 ↔ isNaN b = true := by
  rw [isNaN_iff]
  unfold pK pE₀ pM₀
  split
  · omega
  · split <;> omega
theorem isNaN_qn : isNaN qn = true := by rw [isNaN_iff]; decide
theorem same_iff (b c : Nat) : ((b : Int) = c ∨ (pK b = 2 ∧ pK c = 2)) ↔ cn b = cn c := by
  rw [pK_two, pK_two]
  rcases cn_cases b with ⟨h1, h2⟩ | ⟨h1, h2⟩ <;> rcases cn_cases c with ⟨h3, h4⟩ | ⟨h3, h4⟩
  · simp [h1, h2, h3, h4]
  · rw [h2, h4, h1, h3]
    simp only [Bool.false_eq_true, and_false, or_false]
    constructor
    · intro h; have : b = c := by omega
      subst this; rw [h1] at h3; cases h3
    · intro h; rw [← h, isNaN_qn] at h3; cases h3
  · rw [h2, h4, h1, h3]
    simp only [Bool.false_eq_true, false_and, or_false]
    constructor
    · intro h; have : b = c := by omega
      subst this; rw [h1] at h3; cases h3
    · intro h; rw [h, isNaN_qn] at h1; cases h1
  · rw [h2, h4, h1, h3]
    simp only [Bool.false_eq_true, and_false, or_false]
    omega
section
attribute [local irreducible] Ex exOps exD opX opE thenX blkX RetQ Spec CSpec Fr condK guardK guardD ckK valK pickK loadK faK callK argK gK fK rK RetV lpX prK
set_option maxHeartbeats 4000000 in
theorem same_c (H : List (List AV)) (x y : Nat) :
    CSpec Tryz.prog 15 [.flt x, .flt y] H (.bool (decide (x = y))) H := by
  refine .mk (fun args w => Tryz.call15 args w) (Spec.raw2 (fun b c hb hbx hc hcy => Spec.intro' (fn := Tryz.f15) Tryz.func15 rfl (by kernel_rfl) (by simp) false [] (draw := drawX Tryz.prog ⟨false, _, []⟩) dOk ?_))
  simp only [argE, Nat.reduceAdd]
  repeat' (first
    | (refine gateE ?_; (first | refine b_c0 ?_ | refine b_nil ?_ | refine m13 ?_ | refine m12 ?_ | refine m11 ?_ | (refine m10 ?_; (first | refine g_TT ?_ | refine g_FF ?_ | refine g_TF ?_ | refine g_FT ?_ | refine g_PT ?_ ?_ | refine g_PF ?_ ?_ | refine g_BT ?_ ?_ | refine g_BF ?_ ?_ | fail)) | (refine m09 ?_; (first | refine g_TT ?_ | refine g_FF ?_ | refine g_TF ?_ | refine g_FT ?_ | refine g_PT ?_ ?_ | refine g_PF ?_ ?_ | refine g_BT ?_ ?_ | refine g_BF ?_ ?_ | fail)) | refine m38 ?_ | fail))
    | (refine gateO ?_; (first | refine m14 ?_ | (refine m45 ?_; (first | refine v_bbT (by exact rfl) ?_ | refine v_k ?_ | fail)) | (refine m00 ?_; (first | refine m52 ?_ | refine m53 ?_ | refine v_eP ?_ | refine m49 ?_ | refine m50 ?_ | refine v_k ?_ | refine m51 ?_ | fail)) | (refine m22 ?_; (first | refine m26 ?_ | refine m27 ?_ | fail)) | refine m42 ?_ | refine b_assignI ?_ | refine b_assignN ?_ | refine m08 ?_ | refine b_callB ?_ | refine m23 ?_ | fail))
    | (refine gateT ?_; (first | refine b_thn ?_ | refine b_thr ?_ | refine b_the ?_ | fail))
    | (refine gateX ?_; (first | refine b_seq ?_ | refine b_region ?_ | (refine m06 ?_; (first | refine c_T ?_ | refine c_F ?_ | refine c_P ?_ ?_ | refine c_B ?_ ?_ | fail)) | refine b_ret ?_ | refine b_skip ?_ | refine b_block ?_ | refine b_exit ?_ | fail))
    | refine m21 ?_
    | refine a_nil ?_
    | (refine gateK ?_; (first | refine c_call (bits_c _ _) (OldOk.refl _ _) ?_ | refine c_call (parts_c _ _ (by assumption)) (OldOk.refl _ _) ?_ | fail))
    | (refine gateQ ?_; refine m05 ?_)
    | (refine gateR ?_; (first | refine m04 ?_ | refine m02 ?_ | refine m03 ?_ | refine rk_nil ?_ | fail))
    | intro _)
  all_goals first | refine rv_old rfl (by simp [mx, mxL, aOf, aOf1, resOne]) ?_ | (trace_state; fail)
  all_goals (subst hbx hcy; have hs := same_iff b c)
  all_goals (simp only [resOne, List.nil_append, List.cons_append, aOf, aOf1] at *)
  all_goals first
    | (refine rvF ?_; first | (simp_all; done) | (simp_all; omega))
    | (refine rvT ?_; first | (simp_all; done) | (simp_all; omega))
    | (refine rvP ?_; first | (simp_all; done) | (simp_all; omega))
    | trace_state


set_option maxHeartbeats 4000000 in
theorem all_c (H : List (List AV)) (Da : AV) (la : List Nat) (hFa : FL H Da la) (hBa : la.length ≤ 2 ^ 48) (Db : AV) (lb : List Nat) (hFb : FL H Db lb) (hBb : lb.length ≤ 2 ^ 48) :
    CSpec Tryz.prog 16 [Da, Db] H (.bool (decide (la = lb))) H := by
  obtain ⟨N, hN1, hN2, hN3⟩ := first_diff la lb
  refine .mk (fun args w => Tryz.call16 args w) (Spec.intro' (fn := Tryz.f16) Tryz.func16 rfl (by kernel_rfl) (by simp) false [] (draw := drawX Tryz.prog ⟨false, _, []⟩) dOk ?_)
  simp only [argE, Nat.reduceAdd]
  repeat' (first
    | (refine gateE ?_; (first | refine b_c0 ?_ | refine b_nil ?_ | fail))
    | (refine gateO ?_; (first | refine m14 ?_ | (refine m07 ?_; (first | refine m15 ?_ | refine m16 ?_ | refine l_FL (FL.app hFa _) (by omega) ?_ | refine l_FL (FL.app hFb _) (by omega) ?_ | fail)) | refine b_iaN (by (conv => {lhs; whnf}); done) (by (conv => {lhs; whnf}); done) (by exact hFa.len) (by omega) ?_ | refine b_iaN (by (conv => {lhs; whnf}); done) (by (conv => {lhs; whnf}); done) (by exact hFb.len) (by omega) ?_ | refine b_lenA (by (conv => {lhs; whnf}); done) (by exact hFa.len) ?_ | refine b_lenA (by (conv => {lhs; whnf}); done) (by exact hFb.len) ?_ | (refine m00 ?_; (first | refine m54 ?_ | refine m55 ?_ | refine v_neP ?_ | refine m47 ?_ | refine m48 ?_ | refine m49 ?_ | refine m50 ?_ | refine v_nT ?_ | refine v_nF ?_ | refine v_nP ?_ | refine v_k ?_ | refine m51 ?_ | fail)) | refine m42 ?_ | refine b_assignI ?_ | refine b_assignN ?_ | refine m08 ?_ | (refine m20 ?_; (first | refine m54 ?_ | refine m55 ?_ | refine v_neP ?_ | refine m47 ?_ | refine m48 ?_ | refine m49 ?_ | refine m50 ?_ | refine v_nT ?_ | refine v_nF ?_ | refine v_nP ?_ | refine v_k ?_ | refine m51 ?_ | fail)) | refine b_callB ?_ | refine b_lenA (by (conv => {lhs; whnf}); done) (by first | rfl | assumption) ?_ | fail))
    | (refine gateD ?_; (first | refine m36 ?_ | refine d_nil ?_ | fail))
    | (refine gateC ?_; (first | refine k_lt ?_ | refine m34 ?_ | refine m35 ?_ | refine m33 ?_ | refine k_mn ?_ | refine m56 ?_ | refine k_mnF ?_ | fail))
    | (refine gateT ?_; (first | refine b_thn ?_ | refine b_thr ?_ | refine b_the ?_ | fail))
    | (refine gateX ?_; (first | refine b_seq ?_ | refine b_region ?_ | (refine m06 ?_; (first | refine c_T ?_ | refine c_F ?_ | refine c_P ?_ ?_ | refine c_B ?_ ?_ | fail)) | refine b_ret ?_ | refine b_skip ?_ | refine b_block ?_ | refine b_exit ?_ | refine b_draw [] [] [(0, .lt), (1, .lt), (2, .lt), (3, .ld true), (4, .lt), (5, .lt), (6, .lt), (7, .ld true), (8, .mn true), (9, .lt)] (by kernel_rfl) ?_ | (refine b_loop [5, 0, 1] N (fun k => ⟨[(5, .val (.int .i64 (k : Int))), (0, .val Da), (1, .val Db)], [], H ++ []⟩) (by exact rfl) ?_ ?_ <;> (first | intro k hk K hK | intro K) <;> (try dsimp only at *) <;> (try simp only [Int.natCast_add, Int.natCast_one] at *)) | fail))
    | refine m21 ?_
    | refine a_nil ?_
    | (refine gateK ?_; (first | refine c_call (same_c _ _ _) (OldOk.refl _ _) ?_ | fail))
    | (refine gateB ?_; (first | refine b_bln ?_ | refine b_blr ?_ | refine b_ble ?_ | refine m57 ?_ | fail))
    | (refine gateL ?_; (first | refine lp_n ?_ | refine lp_r ?_ | refine lp_e ?_ | fail))
    | (refine pr_k (by exact rfl) ?_; first | exact hK | (exfalso; first | omega | (simp_all; done) | (simp_all; omega)))
    | (refine gateQ ?_; refine m05 ?_)
    | (refine gateR ?_; (first | refine m04 ?_ | refine m02 ?_ | refine m03 ?_ | refine rk_nil ?_ | fail))
    | intro _)
  all_goals first | refine rv_old rfl (by simp [mx, mxL, aOf, aOf1, resOne]) ?_ | (trace_state; fail)
  all_goals first
    | (refine rtF (fun h => ?_); subst h; first | contradiction | omega | (simp_all; done))
    | (refine rtT (eq_of_getD (by omega) (fun k hk => hN2 k (by omega))))


set_option maxHeartbeats 4000000 in
theorem copy_k (H H' : List (List AV)) (D : AV) (l : List Nat) (hF : FL H D l) (hB : l.length ≤ 2 ^ 30) (m : Nat) (hm : H.length = m) (hH : H ++ [fl l] = H') :
    CSpec Tryz.prog 112 [D] H (.slm m l.length 0 l.length 1) H' := by
  subst hH hm
  refine .mk (fun args w => Tryz.call112 args w) (Spec.intro' (fn := Tryz.f112) Tryz.func112 rfl (by kernel_rfl) (by simp) false [] (draw := drawX Tryz.prog ⟨false, _, []⟩) dOk ?_)
  simp only [argE, Nat.reduceAdd]
  repeat' (first
    | (refine gateE ?_; (first | refine b_c0 ?_ | refine b_nil ?_ | fail))
    | (refine gateO ?_; (first | refine m14 ?_ | refine b_bslN (by exact rfl) (by exact rfl) (by decide) (by exact rfl) (by (conv => {lhs; whnf}); done) ?_ | refine b_appN (by (conv => {lhs; whnf}); done) (by (conv => {lhs; whnf}); done) (by exact rfl) (by exact rfl) (by exact src_fl' hF) (by simp) (by exact rfl) (by simp; omega) (.inl (Nat.le_refl _)) (by exact rfl) (by (conv => {lhs; simp only [List.nil_append, fl_app, il_app]}); done) (by (conv => {lhs; simp only [List.set_cons_zero, List.set_cons_succ]}); done) (by (conv => {lhs; simp only [fl_len, il_len, List.length_append, List.length_nil, Nat.zero_add]}); done) (by (conv => {lhs; simp only [Nat.zero_add]}); done) ?_ | refine m42 ?_ | refine b_assignI ?_ | refine b_assignN ?_ | refine m08 ?_ | refine b_bslZ (by exact rfl) (by exact rfl) (by decide) ?_ | fail))
    | (refine gateT ?_; (first | refine b_thn ?_ | refine b_thr ?_ | refine b_the ?_ | fail))
    | (refine gateX ?_; (first | refine b_seq ?_ | refine b_region ?_ | (refine m06 ?_; (first | refine c_T ?_ | refine c_F ?_ | refine c_P ?_ ?_ | refine c_B ?_ ?_ | fail)) | refine b_ret ?_ | refine b_skip ?_ | refine b_block ?_ | refine b_exit ?_ | fail))
    | refine m44 ?_
    | refine m40 ?_
    | (refine gk_nilN (by (conv => {lhs; simp only [List.nil_append, List.cons_append]}); done) ?_; first | refine ⟨by exact rfl, ?_⟩ | skip)
    | refine gk_nil ?_
    | (intro N' hN'; simp only [List.nil_append, List.cons_append] at hN'; subst hN')
    | (refine gateQ ?_; refine m05 ?_)
    | (refine gateR ?_; (first | refine m04 ?_ | refine m02 ?_ | refine m03 ?_ | refine rk_nil ?_ | fail))
    | (refine ⟨by simp [oneC], fun N' hN' => ?_⟩; simp only [List.nil_append, List.cons_append] at hN'; subst hN')
    | intro _)
  all_goals first
    | exact rv_kp (j := 0) (cs := fl l) rfl rfl (by rw [mxL_fl]; exact Nat.zero_le _) (Fr.kp (j := 0) (cs := fl l) rfl (hg_new rfl rfl) (fl_len l))

set_option maxHeartbeats 4000000 in
theorem within_c (H : List (List AV)) (n off a b c : Int) (hn0 : 0 ≤ n) (hn : n ≤ 9223372036854775807) (h1 : 0 ≤ off) (h2 : 0 ≤ a) (h3 : 0 ≤ b) (h4 : 0 ≤ c) (ho : off ≤ 9223372036854775807) (ha : a ≤ 9223372036854775807) (hb : b ≤ 9223372036854775807) (hc : c ≤ 9223372036854775807) :
    CSpec Tryz.prog 54 [.int .i64 n, .int .i64 off, .int .i64 a, .int .i64 b, .int .i64 c] H (.bool (decide (off < n ∧ c < n - off ∧ a * b ≤ n - off - c - 1))) H := by
  refine .mk (fun args w => Tryz.call54 args w) (Spec.intro' (fn := Tryz.f54) Tryz.func54 rfl (by kernel_rfl) (by simp) false [] (draw := drawX Tryz.prog ⟨false, _, []⟩) dOk ?_)
  simp only [argE, Nat.reduceAdd]
  repeat' (first
    | (refine gateE ?_; (first | refine b_c0 ?_ | refine b_nil ?_ | refine m13 ?_ | refine m12 ?_ | refine m11 ?_ | (refine m10 ?_; (first | refine g_TT ?_ | refine g_FF ?_ | refine g_TF ?_ | refine g_FT ?_ | refine g_PT ?_ ?_ | refine g_PF ?_ ?_ | refine g_BT ?_ ?_ | refine g_BF ?_ ?_ | fail)) | (refine m09 ?_; (first | refine g_TT ?_ | refine g_FF ?_ | refine g_TF ?_ | refine g_FT ?_ | refine g_PT ?_ ?_ | refine g_PF ?_ ?_ | refine g_BT ?_ ?_ | refine g_BF ?_ ?_ | fail)) | refine m38 ?_ | fail))
    | (refine gateO ?_; (first | refine m14 ?_ | (refine m45 ?_; (first | refine v_bbT (by exact rfl) ?_ | refine v_k ?_ | fail)) | (refine m00 ?_; (first | refine m52 ?_ | refine m53 ?_ | refine v_eP ?_ | refine m47 ?_ | refine m48 ?_ | refine m49 ?_ | refine m50 ?_ | refine v_qc (by omega) (by omega) ?_ | refine v_k ?_ | refine m51 ?_ | fail)) | (refine m22 ?_; (first | refine m26 ?_ | refine m27 ?_ | fail)) | refine m42 ?_ | refine b_assignI ?_ | refine b_assignN ?_ | refine m08 ?_ | fail))
    | (refine gateT ?_; (first | refine b_thn ?_ | refine b_thr ?_ | refine b_the ?_ | fail))
    | (refine gateX ?_; (first | refine b_seq ?_ | refine b_region ?_ | (refine m06 ?_; (first | refine c_T ?_ | refine c_F ?_ | refine c_P ?_ ?_ | refine c_B ?_ ?_ | fail)) | refine b_ret ?_ | refine b_skip ?_ | refine b_block ?_ | refine b_exit ?_ | fail))
    | (refine gateQ ?_; refine m05 ?_)
    | (refine gateR ?_; (first | refine m04 ?_ | refine m02 ?_ | refine m03 ?_ | refine rk_nil ?_ | fail))
    | intro _)
  all_goals first | refine rv_old rfl (by simp [mx, mxL, aOf, aOf1, resOne]) ?_ | (trace_state; fail)
  all_goals first
    | exact rtF (by omega)
    | (refine rtT ?_; subst a; simp; omega)
    | (refine rvT ?_; simp_all; omega)
    | (refine rvP ?_; rw [Int.le_ediv_iff_mul_le (by omega), Int.mul_comm]; omega)

set_option maxHeartbeats 4000000 in
theorem goodref_c (H : List (List AV)) (D : AV) (n : Nat) (off rows cols ld : Int) (hD : slen D = some n) (hI : MI n off rows cols ld) :
    CSpec Tryz.prog 10 [mt D off rows cols ld] H (.bool (decide (GoodP n off rows cols ld))) H := by
  obtain ⟨hn, ho1, ho2, hr1, hr2, hc1, hc2, hl1, hl2⟩ := id hI
  refine .mk (fun args w => Tryz.call10 args w) (Spec.intro' (fn := Tryz.f10) Tryz.func10 rfl (by kernel_rfl) (by simp) false [] (draw := drawX Tryz.prog ⟨false, _, []⟩) dOk ?_)
  simp only [argE, Nat.reduceAdd]
  repeat' (first
    | (refine gateE ?_; (first | refine b_c0 ?_ | refine b_nil ?_ | refine m13 ?_ | refine m12 ?_ | refine m11 ?_ | (refine m10 ?_; (first | refine g_TT ?_ | refine g_FF ?_ | refine g_TF ?_ | refine g_FT ?_ | refine g_PT ?_ ?_ | refine g_PF ?_ ?_ | refine g_BT ?_ ?_ | refine g_BF ?_ ?_ | fail)) | (refine m09 ?_; (first | refine g_TT ?_ | refine g_FF ?_ | refine g_TF ?_ | refine g_FT ?_ | refine g_PT ?_ ?_ | refine g_PF ?_ ?_ | refine g_BT ?_ ?_ | refine g_BF ?_ ?_ | fail)) | refine m38 ?_ | fail))
    | (refine gateO ?_; (first | refine m14 ?_ | (refine m17 ?_; first | refine m19 ?_ | refine m18 ?_) | (refine m07 ?_; (first | refine m15 ?_ | refine m16 ?_ | fail)) | (refine m45 ?_; (first | refine v_bbT (by exact rfl) ?_ | refine v_k ?_ | fail)) | (refine m00 ?_; (first | refine m52 ?_ | refine m53 ?_ | refine v_eP ?_ | refine m47 ?_ | refine m48 ?_ | refine m49 ?_ | refine m50 ?_ | refine v_k ?_ | refine m51 ?_ | fail)) | (refine m22 ?_; (first | refine m26 ?_ | refine m27 ?_ | fail)) | refine m42 ?_ | refine b_assignI ?_ | refine b_assignN ?_ | refine m08 ?_ | refine b_callB ?_ | refine b_lenA (by (conv => {lhs; whnf}); done) (by first | rfl | assumption) ?_ | refine m01 ?_ | fail))
    | (refine gateT ?_; (first | refine b_thn ?_ | refine b_thr ?_ | refine b_the ?_ | fail))
    | (refine gateX ?_; (first | refine b_seq ?_ | refine b_region ?_ | (refine m06 ?_; (first | refine c_T ?_ | refine c_F ?_ | refine c_P ?_ ?_ | refine c_B ?_ ?_ | fail)) | refine b_ret ?_ | refine b_skip ?_ | refine b_block ?_ | refine b_exit ?_ | fail))
    | refine m21 ?_
    | refine a_nil ?_
    | (refine gateK ?_; (first | refine c_call (within_c _ _ _ _ _ _ (by omega) (by omega) (by omega) (by omega) (by omega) (by omega) (by omega) (by omega) (by omega) (by omega)) (OldOk.refl _ _) ?_ | fail))
    | (refine gateQ ?_; refine m05 ?_)
    | (refine gateR ?_; (first | refine m04 ?_ | refine m02 ?_ | refine m03 ?_ | refine rk_nil ?_ | fail))
    | intro _)
  all_goals first | refine rv_old rfl (by simp [mx, mxL, aOf, aOf1, resOne]) ?_ | (trace_state; fail)
  all_goals first
    | exact rtF (by unfold GoodP; omega)
    | exact rtT (by unfold GoodP; omega)
    | exact rvP (by unfold GoodP; omega)

end
theorem all_t (H : List (List AV)) (Da : AV) (la : List Nat) (hFa : FL H Da la) (hBa : la.length ≤ 2 ^ 48) (Db : AV) (lb : List Nat) (hFb : FL H Db lb) (h : la = lb) : CSpec Tryz.prog 16 [Da, Db] H (.bool true) H := by
  have := all_c H Da la hFa hBa Db lb hFb (by rw [← h]; exact hBa)
  rwa [decide_eq_true h] at this
section
attribute [local irreducible] Ex exOps exD opX opE thenX blkX RetQ Spec CSpec Fr condK guardK guardD ckK valK pickK loadK faK callK argK gK fK rK RetV lpX prK
set_option maxHeartbeats 4000000 in
theorem mabs_c (H : List (List AV)) (x : Nat) :
    CSpec Tryz.prog 125 [.flt x] H (.flt (absF x)) H := by
  refine .mk (fun args w => Tryz.call125 args w) (Spec.raw1 (fun b hb hbx => Spec.intro' (fn := Tryz.f125) Tryz.func125 rfl (by kernel_rfl) (by simp) false [] (draw := drawX Tryz.prog ⟨false, _, []⟩) dOk ?_))
  simp only [argE, Nat.reduceAdd]
  repeat' (first
    | (refine gateE ?_; (first | refine b_c0 ?_ | refine b_nil ?_ | fail))
    | (refine gateO ?_; (first | refine m14 ?_ | (refine m00 ?_; (first | refine v_andn (by assumption) ?_ | refine m49 ?_ | refine m50 ?_ | refine v_k ?_ | refine m51 ?_ | fail)) | refine m42 ?_ | refine b_assignI ?_ | refine b_assignN ?_ | refine m08 ?_ | refine b_callB ?_ | fail))
    | (refine gateT ?_; (first | refine b_thn ?_ | refine b_thr ?_ | refine b_the ?_ | fail))
    | (refine gateX ?_; (first | refine b_seq ?_ | refine b_region ?_ | (refine m06 ?_; (first | refine c_T ?_ | refine c_F ?_ | refine c_P ?_ ?_ | refine c_B ?_ ?_ | fail)) | refine b_ret ?_ | refine b_skip ?_ | refine b_block ?_ | refine b_exit ?_ | fail))
    | refine m21 ?_
    | refine a_nil ?_
    | (refine gateK ?_; (first | refine c_call (bits_c _ _) (OldOk.app (by simp)) ?_ | refine c_call (frombits_c _ _ (by omega)) (OldOk.app (by simp)) ?_ | fail))
    | (refine gateQ ?_; refine m05 ?_)
    | (refine gateR ?_; (first | refine m04 ?_ | refine m02 ?_ | refine m03 ?_ | refine rk_nil ?_ | fail))
    | intro _)
  all_goals first
    | (refine rv_fr rfl ?_; subst hbx; rw [absF_cn]; exact Fr.raw _)

set_option maxHeartbeats 4000000 in
theorem rabs_c (H : List (List AV)) (x : Nat) :
    CSpec Tryz.prog 81 [.flt x] H (.flt (absF x)) H := by
  refine .mk (fun args w => Tryz.call81 args w) (Spec.raw1 (fun b hb hbx => Spec.intro' (fn := Tryz.f81) Tryz.func81 rfl (by kernel_rfl) (by simp) false [] (draw := drawX Tryz.prog ⟨false, _, []⟩) dOk ?_))
  simp only [argE, Nat.reduceAdd]
  repeat' (first
    | (refine gateE ?_; (first | refine b_c0 ?_ | refine b_nil ?_ | fail))
    | (refine gateO ?_; (first | refine m14 ?_ | (refine m00 ?_; (first | refine m49 ?_ | refine m50 ?_ | refine v_mod (by omega) (by omega) ?_ | refine v_k ?_ | refine m51 ?_ | fail)) | refine m42 ?_ | refine b_assignI ?_ | refine b_assignN ?_ | refine m08 ?_ | refine b_callB ?_ | fail))
    | (refine gateT ?_; (first | refine b_thn ?_ | refine b_thr ?_ | refine b_the ?_ | fail))
    | (refine gateX ?_; (first | refine b_seq ?_ | refine b_region ?_ | (refine m06 ?_; (first | refine c_T ?_ | refine c_F ?_ | refine c_P ?_ ?_ | refine c_B ?_ ?_ | fail)) | refine b_ret ?_ | refine b_skip ?_ | refine b_block ?_ | refine b_exit ?_ | fail))
    | refine m21 ?_
    | refine a_nil ?_
    | (refine gateK ?_; (first | refine c_call (bits_c _ _) (OldOk.app (by simp)) ?_ | refine c_call (frombits_c _ _ (by omega)) (OldOk.app (by simp)) ?_ | fail))
    | (refine gateQ ?_; refine m05 ?_)
    | (refine gateR ?_; (first | refine m04 ?_ | refine m02 ?_ | refine m03 ?_ | refine rk_nil ?_ | fail))
    | intro _)
  all_goals first
    | (refine rv_fr rfl ?_; subst hbx; rw [absF_cn]; exact Fr.raw _)

set_option maxHeartbeats 4000000 in
theorem plus_c (H : List (List AV)) (x y : Nat) :
    CSpec Tryz.prog 84 [.flt x, .flt y] H (.flt (fadd x y)) H := by
  refine .mk (fun args w => Tryz.call84 args w) (Spec.intro' (fn := Tryz.f84) Tryz.func84 rfl (by kernel_rfl) (by simp) false [] (draw := drawX Tryz.prog ⟨false, _, []⟩) dOk ?_)
  simp only [argE, Nat.reduceAdd]
  repeat' (first
    | (refine gateE ?_; (first | refine b_c0 ?_ | refine b_nil ?_ | fail))
    | (refine gateO ?_; (first | refine m14 ?_ | (refine m00 ?_; (first | refine m49 ?_ | refine m50 ?_ | refine v_k ?_ | refine m51 ?_ | fail)) | refine m42 ?_ | refine b_assignI ?_ | refine b_assignN ?_ | refine m08 ?_ | fail))
    | (refine gateT ?_; (first | refine b_thn ?_ | refine b_thr ?_ | refine b_the ?_ | fail))
    | (refine gateX ?_; (first | refine b_seq ?_ | refine b_region ?_ | (refine m06 ?_; (first | refine c_T ?_ | refine c_F ?_ | refine c_P ?_ ?_ | refine c_B ?_ ?_ | fail)) | refine b_ret ?_ | refine b_skip ?_ | refine b_block ?_ | refine b_exit ?_ | fail))
    | (refine gateQ ?_; refine m05 ?_)
    | (refine gateR ?_; (first | refine m04 ?_ | refine m02 ?_ | refine m03 ?_ | refine rk_nil ?_ | fail))
    | intro _)
  all_goals first | refine rv_old rfl (by simp [mx, mxL, aOf, aOf1, resOne]) ?_ | (trace_state; fail)
  all_goals exact rfl

set_option maxHeartbeats 4000000 in
theorem great_c (H : List (List AV)) (D : AV) (l : List Nat) (hF : FL H D l) (hB : l.length ≤ 2 ^ 30) :
    CSpec Tryz.prog 132 [D] H (.flt (greatF l)) H := by
  obtain ⟨N, hN1, hN2, hN3, hN4⟩ := first_nan l
  have hs : ∀ k, k < l.length → mxF (fo mxF 0 l k) (l.getD k 0) = fo mxF 0 l (k + 1) := fun k hk => (fo_succ hk).symm
  refine .mk (fun args w => Tryz.call132 args w) (Spec.intro' (fn := Tryz.f132) Tryz.func132 rfl (by kernel_rfl) (by simp) false [] (draw := drawX Tryz.prog ⟨false, _, []⟩) dOk ?_)
  simp only [argE, Nat.reduceAdd]
  repeat' (first
    | (refine gateE ?_; (first | refine b_c0 ?_ | refine b_nil ?_ | fail))
    | (refine gateO ?_; (first | refine m41 ?_ | refine b_moveI ?_ | refine m14 ?_ | (refine m07 ?_; (first | refine m15 ?_ | refine m16 ?_ | refine l_FL (FL.app hF _) (by omega) ?_ | fail)) | refine b_iaN (by (conv => {lhs; whnf}); done) (by (conv => {lhs; whnf}); done) (by exact hF.len) (by omega) ?_ | refine b_lenA (by (conv => {lhs; whnf}); done) (by exact hF.len) ?_ | (refine m00 ?_; (first | refine m54 ?_ | refine m55 ?_ | refine v_neP ?_ | refine m47 ?_ | refine m48 ?_ | refine m49 ?_ | refine m50 ?_ | refine v_k ?_ | refine m51 ?_ | fail)) | refine m42 ?_ | refine b_assignI ?_ | refine b_assignN ?_ | refine m08 ?_ | refine b_lenA (by (conv => {lhs; whnf}); done) (by first | rfl | assumption) ?_ | fail))
    | (refine gateT ?_; (first | refine b_thn ?_ | refine b_thr ?_ | refine b_the ?_ | fail))
    | (refine gateX ?_; (first | refine b_seq ?_ | refine b_region ?_ | (refine m06 ?_; (first | refine c_T ?_ | refine c_F ?_ | refine c_P ?_ ?_ | refine c_B ?_ ?_ | fail)) | refine b_ret ?_ | refine b_skip ?_ | refine b_block ?_ | refine b_exit ?_ | (refine b_loop [8, 6, 7, 3] N (fun k => ⟨[(8, .val (.int .i64 (k : Int))), (6, .val D), (7, .val (.int .i64 (l.length : Int))), (3, .val (.flt (fo mxF 0 l k)))], [], H ++ []⟩) (by exact rfl) ?_ ?_ <;> (first | intro k hk K hK | intro K) <;> (try dsimp only at *) <;> (try simp only [Int.natCast_add, Int.natCast_one] at *)) | fail))
    | (refine gateB ?_; (first | refine b_bln ?_ | refine b_blr ?_ | refine b_ble ?_ | refine m57 ?_ | fail))
    | (refine gateL ?_; (first | refine lp_n ?_ | refine lp_r ?_ | refine lp_e ?_ | fail))
    | (refine pr_k (by exact rfl) ?_; first | exact hK | (rw [← hs k (by omega), mxF_T (by assumption)] at hK; exact hK) | (rw [← hs k (by omega), mxF_F (by assumption)] at hK; exact hK) | (exfalso; first | omega | (simp_all; done) | (simp_all; omega)))
    | (refine gateQ ?_; refine m05 ?_)
    | (refine gateR ?_; (first | refine m04 ?_ | refine m02 ?_ | refine m03 ?_ | refine rk_nil ?_ | fail))
    | intro _)
  all_goals first | refine rv_old rfl (by simp [mx, mxL, aOf, aOf1, resOne]) ?_ | (trace_state; fail)
  all_goals refine congrArg AV.flt ?_
  all_goals first
    | (exact (hN3 (by omega)).2.symm)
    | (exfalso; have := hN2 k hk; simp_all; done)
    | (rw [hN4 (by omega), ← fo_all mxF 0 l]; first | done | exact rfl | (rw [show N = l.length by omega]; done))

set_option maxHeartbeats 4000000 in
theorem rgreat_c (H : List (List AV)) (D : AV) (l : List Nat) (hF : FL H D l) (hB : l.length ≤ 2 ^ 30) :
    CSpec Tryz.prog 93 [D] H (.flt (greatF l)) H := by
  obtain ⟨N, hN1, hN2, hN3, hN4⟩ := first_nan l
  have hs : ∀ k, k < l.length → mxF (fo mxF 0 l k) (l.getD k 0) = fo mxF 0 l (k + 1) := fun k hk => (fo_succ hk).symm
  refine .mk (fun args w => Tryz.call93 args w) (Spec.intro' (fn := Tryz.f93) Tryz.func93 rfl (by kernel_rfl) (by simp) false [] (draw := drawX Tryz.prog ⟨false, _, []⟩) dOk ?_)
  simp only [argE, Nat.reduceAdd]
  repeat' (first
    | (refine gateE ?_; (first | refine b_c0 ?_ | refine b_nil ?_ | fail))
    | (refine gateO ?_; (first | refine m14 ?_ | (refine m07 ?_; (first | refine m15 ?_ | refine m16 ?_ | refine l_FL (FL.app hF _) (by omega) ?_ | fail)) | refine b_iaN (by (conv => {lhs; whnf}); done) (by (conv => {lhs; whnf}); done) (by exact hF.len) (by omega) ?_ | refine b_lenA (by (conv => {lhs; whnf}); done) (by exact hF.len) ?_ | (refine m00 ?_; (first | refine m54 ?_ | refine m55 ?_ | refine v_neP ?_ | refine m47 ?_ | refine m48 ?_ | refine m49 ?_ | refine m50 ?_ | refine v_k ?_ | refine m51 ?_ | fail)) | refine m42 ?_ | refine b_assignI ?_ | refine b_assignN ?_ | refine m08 ?_ | refine b_lenA (by (conv => {lhs; whnf}); done) (by first | rfl | assumption) ?_ | fail))
    | (refine gateD ?_; (first | refine m36 ?_ | refine d_nil ?_ | fail))
    | (refine gateC ?_; (first | refine k_lt ?_ | refine m34 ?_ | refine m35 ?_ | refine m33 ?_ | refine k_mn ?_ | refine m56 ?_ | refine k_mnF ?_ | fail))
    | (refine gateT ?_; (first | refine b_thn ?_ | refine b_thr ?_ | refine b_the ?_ | fail))
    | (refine gateX ?_; (first | refine b_seq ?_ | refine b_region ?_ | (refine m06 ?_; (first | refine c_T ?_ | refine c_F ?_ | refine c_P ?_ ?_ | refine c_B ?_ ?_ | fail)) | refine b_ret ?_ | refine b_skip ?_ | refine b_block ?_ | refine b_exit ?_ | refine b_draw [] [] [(0, .lt), (1, .lt), (2, .lt), (3, .ld true), (4, .lt), (5, .lt), (6, .lt), (7, .ld true), (8, .ld true)] (by kernel_rfl) ?_ | (refine b_loop [4, 0, 3, 2] N (fun k => ⟨[(4, .val (.int .i64 (k : Int))), (0, .val D), (3, .val (.flt 0)), (2, .val (.flt 0))], [], H ++ []⟩) (by exact rfl) ?_ ?_ <;> (first | intro k hk K hK | intro K) <;> (try dsimp only at *) <;> (try simp only [Int.natCast_add, Int.natCast_one] at *)) | (refine b_loop [5, 0, 3, 2] l.length (fun k => ⟨[(5, .val (.int .i64 (k : Int))), (0, .val D), (3, .val (.flt (fo mxF 0 l k))), (2, .val (.flt 0))], [], H ++ []⟩) (by exact rfl) ?_ ?_ <;> (first | intro k hk K hK | intro K) <;> (try dsimp only at *) <;> (try simp only [Int.natCast_add, Int.natCast_one] at *)) | fail))
    | (refine gateB ?_; (first | refine b_bln ?_ | refine b_blr ?_ | refine b_ble ?_ | refine m57 ?_ | fail))
    | (refine gateL ?_; (first | refine lp_n ?_ | refine lp_r ?_ | refine lp_e ?_ | fail))
    | (refine pr_k (by exact rfl) ?_; first | exact hK | (rw [← hs k (by omega), mxF_T (by assumption)] at hK; exact hK) | (rw [← hs k (by omega), mxF_F (by assumption)] at hK; exact hK) | (exfalso; first | omega | (simp_all; done) | (simp_all; omega)))
    | (refine gateQ ?_; refine m05 ?_)
    | (refine gateR ?_; (first | refine m04 ?_ | refine m02 ?_ | refine m03 ?_ | refine rk_nil ?_ | fail))
    | intro _)
  all_goals first | refine rv_old rfl (by simp [mx, mxL, aOf, aOf1, resOne]) ?_ | (trace_state; fail)
  all_goals refine congrArg AV.flt ?_
  all_goals first
    | (exact (hN3 (by omega)).2.symm)
    | (exfalso; have := hN2 k hk; simp_all; done)
    | (rw [hN4 (by omega), ← fo_all mxF 0 l]; first | done | exact rfl | (rw [show N = l.length by omega]; done))


set_option maxHeartbeats 4000000 in
theorem right_c (H : List (List AV)) (D : AV) (l : List Nat) (hF : FL H D l) (off n inc : Int) (hI : VI l.length off n inc) :
    CSpec Tryz.prog 141 [vt D off n inc] H (.bool (decide (RightP l.length off n inc))) H := by
  obtain ⟨hm, ho1, ho2, hn1, hn2, hi1, hi2⟩ := id hI
  refine .mk (fun args w => Tryz.call141 args w) (Spec.intro' (fn := Tryz.f141) Tryz.func141 rfl (by kernel_rfl) (by simp) false [] (draw := drawX Tryz.prog ⟨false, _, []⟩) dOk ?_)
  simp only [argE, Nat.reduceAdd]
  repeat' (first
    | (refine gateE ?_; (first | refine b_c0 ?_ | refine b_nil ?_ | refine m13 ?_ | refine m12 ?_ | refine m11 ?_ | (refine m10 ?_; (first | refine g_TT ?_ | refine g_FF ?_ | refine g_TF ?_ | refine g_FT ?_ | refine g_PT ?_ ?_ | refine g_PF ?_ ?_ | refine g_BT ?_ ?_ | refine g_BF ?_ ?_ | fail)) | (refine m09 ?_; (first | refine g_TT ?_ | refine g_FF ?_ | refine g_TF ?_ | refine g_FT ?_ | refine g_PT ?_ ?_ | refine g_PF ?_ ?_ | refine g_BT ?_ ?_ | refine g_BF ?_ ?_ | fail)) | refine m38 ?_ | fail))
    | (refine gateO ?_; (first | refine m14 ?_ | (refine m17 ?_; first | refine m19 ?_ | refine m18 ?_) | (refine m07 ?_; (first | refine m15 ?_ | refine m16 ?_ | fail)) | refine b_lenA (by (conv => {lhs; whnf}); done) (by exact hF.len) ?_ | (refine m45 ?_; (first | refine v_bbT (by exact rfl) ?_ | refine v_k ?_ | fail)) | (refine m00 ?_; (first | refine m52 ?_ | refine m53 ?_ | refine v_eP ?_ | refine m47 ?_ | refine m48 ?_ | refine m49 ?_ | refine m50 ?_ | refine v_k ?_ | refine m51 ?_ | fail)) | (refine m22 ?_; (first | refine m26 ?_ | refine m27 ?_ | fail)) | refine m42 ?_ | refine b_assignI ?_ | refine b_assignN ?_ | refine m08 ?_ | refine b_callB ?_ | refine b_lenA (by (conv => {lhs; whnf}); done) (by first | rfl | assumption) ?_ | refine m01 ?_ | fail))
    | (refine gateT ?_; (first | refine b_thn ?_ | refine b_thr ?_ | refine b_the ?_ | fail))
    | (refine gateX ?_; (first | refine b_seq ?_ | refine b_region ?_ | (refine m06 ?_; (first | refine c_T ?_ | refine c_F ?_ | refine c_P ?_ ?_ | refine c_B ?_ ?_ | fail)) | refine b_ret ?_ | refine b_skip ?_ | refine b_block ?_ | refine b_exit ?_ | fail))
    | refine m43 ?_
    | refine a_consI ?_
    | refine m21 ?_
    | refine a_nil ?_
    | (refine gateK ?_; (first | refine c_call (fits_c _ _ _ _ _ _ (by omega) (by omega) (by omega) (by omega) (by omega) (by omega) (by omega) (by omega) (by omega)) (OldOk.app (by simp)) ?_ | fail))
    | (refine gateQ ?_; refine m05 ?_)
    | (refine gateR ?_; (first | refine m04 ?_ | refine m02 ?_ | refine m03 ?_ | refine rk_nil ?_ | fail))
    | intro _)
  all_goals first | refine rv_old rfl (by simp [mx, mxL, aOf, aOf1, resOne]) ?_ | (trace_state; fail)
  all_goals first
    | exact rtF (by unfold RightP; omega)
    | exact rtT (by unfold RightP; omega)
    | exact rvP (by unfold RightP; omega)

set_option maxHeartbeats 4000000 in
theorem greatm_c (H : List (List AV)) (D : AV) (l : List Nat) (hF : FL H D l) (off rows cols ld : Int) (hI : MI l.length off rows cols ld) :
    CSpec Tryz.prog 7 [mt D off rows cols ld] H (.bool (decide (1000 < (l.length : Int) ∨ 20 < rows ∨ 20 < cols))) H := by
  obtain ⟨hn, ho1, ho2, hr1, hr2, hc1, hc2, hl1, hl2⟩ := id hI
  refine .mk (fun args w => Tryz.call7 args w) (Spec.intro' (fn := Tryz.f7) Tryz.func7 rfl (by kernel_rfl) (by simp) false [] (draw := drawX Tryz.prog ⟨false, _, []⟩) dOk ?_)
  simp only [argE, Nat.reduceAdd]
  repeat' (first
    | (refine gateE ?_; (first | refine b_c0 ?_ | refine b_nil ?_ | refine m13 ?_ | refine m12 ?_ | refine m11 ?_ | (refine m10 ?_; (first | refine g_TT ?_ | refine g_FF ?_ | refine g_TF ?_ | refine g_FT ?_ | refine g_PT ?_ ?_ | refine g_PF ?_ ?_ | refine g_BT ?_ ?_ | refine g_BF ?_ ?_ | fail)) | (refine m09 ?_; (first | refine g_TT ?_ | refine g_FF ?_ | refine g_TF ?_ | refine g_FT ?_ | refine g_PT ?_ ?_ | refine g_PF ?_ ?_ | refine g_BT ?_ ?_ | refine g_BF ?_ ?_ | fail)) | refine m38 ?_ | fail))
    | (refine gateO ?_; (first | refine m14 ?_ | (refine m17 ?_; first | refine m19 ?_ | refine m18 ?_) | (refine m07 ?_; (first | refine m15 ?_ | refine m16 ?_ | fail)) | refine b_lenA (by (conv => {lhs; whnf}); done) (by exact hF.len) ?_ | (refine m00 ?_; (first | refine m47 ?_ | refine m48 ?_ | refine m49 ?_ | refine m50 ?_ | refine v_k ?_ | refine m51 ?_ | fail)) | (refine m22 ?_; (first | refine m26 ?_ | refine m27 ?_ | fail)) | refine m42 ?_ | refine b_assignI ?_ | refine b_assignN ?_ | refine m08 ?_ | refine b_lenA (by (conv => {lhs; whnf}); done) (by first | rfl | assumption) ?_ | refine m01 ?_ | fail))
    | (refine gateT ?_; (first | refine b_thn ?_ | refine b_thr ?_ | refine b_the ?_ | fail))
    | (refine gateX ?_; (first | refine b_seq ?_ | refine b_region ?_ | (refine m06 ?_; (first | refine c_T ?_ | refine c_F ?_ | refine c_P ?_ ?_ | refine c_B ?_ ?_ | fail)) | refine b_ret ?_ | refine b_skip ?_ | refine b_block ?_ | refine b_exit ?_ | fail))
    | (refine gateQ ?_; refine m05 ?_)
    | (refine gateR ?_; (first | refine m04 ?_ | refine m02 ?_ | refine m03 ?_ | refine rk_nil ?_ | fail))
    | intro _)
  all_goals first | refine rv_old rfl (by simp [mx, mxL, aOf, aOf1, resOne]) ?_ | (trace_state; fail)
  all_goals first
    | exact rtF (by omega)
    | exact rtT (by omega)
    | exact rvT (by omega)
    | exact rvP (by omega)

set_option maxHeartbeats 4000000 in
theorem new_k (H H' : List (List AV)) (r c : Nat) (hr : r ≤ 1000) (hc : c ≤ 1000) (m : Nat) (hm : H.length = m) (hH : H ++ [fl (List.replicate (r * c) 0)] = H') :
    CSpec Tryz.prog 55 [.int .i64 (r : Int), .int .i64 (c : Int)] H (mM (.slm m (r * c) 0 (r * c) 1) r c) H' := by
  subst hH hm
  have hrc : r * c ≤ 1000000 := by (have := Nat.mul_le_mul hr hc; omega)
  refine .mk (fun args w => Tryz.call55 args w) (Spec.intro' (fn := Tryz.f55) Tryz.func55 rfl (by kernel_rfl) (by simp) false [] (draw := drawX Tryz.prog ⟨false, _, []⟩) dOk ?_)
  simp only [argE, Nat.reduceAdd]
  repeat' (first
    | (refine gateE ?_; (first | refine b_c0 ?_ | refine b_nil ?_ | fail))
    | (refine gateO ?_; (first | refine m14 ?_ | refine b_mkf (by (conv => {lhs; whnf}); done) (by (conv => {lhs; whnf}); done) (by exact rfl) (by (conv => {lhs; whnf}); done) (by (conv => {lhs; simp only [List.nil_append, List.cons_append]}); done) (by exact rfl) (by omega) ?_ | (refine m00 ?_; (first | refine v_mulN (by omega) ?_ | refine v_addN (by omega) ?_ | refine m49 ?_ | refine m50 ?_ | refine v_k ?_ | refine m51 ?_ | fail)) | refine m25 ?_ | refine m24 ?_ | refine b_build ?_ | fail))
    | (refine gateT ?_; (first | refine b_thn ?_ | refine b_thr ?_ | refine b_the ?_ | fail))
    | (refine gateX ?_; (first | refine b_seq ?_ | refine b_region ?_ | (refine m06 ?_; (first | refine c_T ?_ | refine c_F ?_ | refine c_P ?_ ?_ | refine c_B ?_ ?_ | fail)) | refine b_ret ?_ | refine b_skip ?_ | refine b_block ?_ | refine b_exit ?_ | fail))
    | refine m58 ?_
    | refine fk_nil ?_
    | (refine gateQ ?_; refine m05 ?_)
    | (refine gateR ?_; (first | refine m04 ?_ | refine m02 ?_ | refine m03 ?_ | refine rk_nil ?_ | fail))
    | intro _)
  all_goals first
    | exact rv_kp (j := 0) (cs := fl (List.replicate (r * c) 0)) rfl rfl (by rw [mxL_fl]; exact Nat.zero_le _) (Fr.agg (Frs.cons (Fr.old (by simp [mx])) (Frs.cons (Fr.old (by simp [mx])) (Frs.cons (Fr.kp (j := 0) (cs := fl (List.replicate (r * c) 0)) rfl (hg_new rfl rfl) (by simp)) Frs.nil))))

set_option maxHeartbeats 4000000 in
theorem tat_c (H : List (List AV)) (A : AV) (a : List Nat) (hA : FL H A a) (r c : Nat) (ha : a.length = r * c) (hr : r ≤ 1000) (hc : c ≤ 1000) (i j : Nat) (hi : i < r) (hj : j < c) :
    CSpec Tryz.prog 32 [mM A r c, .int .i64 (i : Int), .int .i64 (j : Int)] H (.flt (a.getD (i * c + j) 0)) H := by
  have hrc : r * c ≤ 1000000 := by (have := Nat.mul_le_mul hr hc; omega)
  have hlt := ix_lt hi hj
  have hic : i * c ≤ 1000000 := by omega
  refine .mk (fun args w => Tryz.call32 args w) (Spec.intro' (fn := Tryz.f32) Tryz.func32 rfl (by kernel_rfl) (by simp) false [] (draw := drawX Tryz.prog ⟨false, _, []⟩) dOk ?_)
  simp only [argE, Nat.reduceAdd]
  repeat' (first
    | (refine gateE ?_; (first | refine b_c0 ?_ | refine b_nil ?_ | fail))
    | (refine gateO ?_; (first | refine m14 ?_ | (refine m17 ?_; first | refine m19 ?_ | refine m18 ?_) | (refine m07 ?_; (first | refine m15 ?_ | refine m16 ?_ | refine l_FL (FL.app hA _) (by omega) ?_ | fail)) | refine b_iaN (by (conv => {lhs; whnf}); done) (by (conv => {lhs; whnf}); done) (by exact hA.len) (by omega) ?_ | (refine m00 ?_; (first | refine v_mulN (by omega) ?_ | refine v_addN (by omega) ?_ | refine m49 ?_ | refine m50 ?_ | refine v_k ?_ | refine m51 ?_ | fail)) | refine m42 ?_ | refine b_assignI ?_ | refine b_assignN ?_ | refine m08 ?_ | refine m01 ?_ | fail))
    | (refine gateT ?_; (first | refine b_thn ?_ | refine b_thr ?_ | refine b_the ?_ | fail))
    | (refine gateX ?_; (first | refine b_seq ?_ | refine b_region ?_ | (refine m06 ?_; (first | refine c_T ?_ | refine c_F ?_ | refine c_P ?_ ?_ | refine c_B ?_ ?_ | fail)) | refine b_ret ?_ | refine b_skip ?_ | refine b_block ?_ | refine b_exit ?_ | fail))
    | (refine gateQ ?_; refine m05 ?_)
    | (refine gateR ?_; (first | refine m04 ?_ | refine m02 ?_ | refine m03 ?_ | refine rk_nil ?_ | fail))
    | intro _)
  all_goals first | refine rv_old rfl (by simp [mx, mxL, aOf, aOf1, resOne]) ?_ | (trace_state; fail)
  all_goals exact rfl

set_option maxHeartbeats 4000000 in
theorem tset_c (H H' : List (List AV)) (b : Nat) (a : List Nat) (hb : H[b]? = some (fl a)) (r c : Nat) (ha : a.length = r * c) (hr : r ≤ 1000) (hc : c ≤ 1000) (i j : Nat) (hi : i < r) (hj : j < c) (x : Nat) (hH : H.set b (fl (a.set (i * c + j) x)) = H') :
    CSpec Tryz.prog 56 [mM (.slm b (r * c) 0 (r * c) 1) r c, .int .i64 (i : Int), .int .i64 (j : Int), .flt x] H (.tup []) H' := by
  subst hH
  have hrc : r * c ≤ 1000000 := by (have := Nat.mul_le_mul hr hc; omega)
  have hlt := ix_lt hi hj
  have hic : i * c ≤ 1000000 := by omega
  refine .mk (fun args w => Tryz.call56 args w) (Spec.intro' (fn := Tryz.f56) Tryz.func56 rfl (by kernel_rfl) (by simp) false [] (draw := drawX Tryz.prog ⟨false, _, []⟩) dOk ?_)
  simp only [argE, Nat.reduceAdd]
  repeat' (first
    | (refine gateE ?_; (first | refine b_c0 ?_ | refine b_nil ?_ | fail))
    | (refine gateO ?_; (first | refine m14 ?_ | (refine m17 ?_; first | refine m19 ?_ | refine m18 ?_) | (refine m07 ?_; (first | refine m15 ?_ | refine m16 ?_ | fail)) | refine b_iaN (by (conv => {lhs; whnf}); done) (by (conv => {lhs; whnf}); done) (by exact rfl) (by omega) ?_ | refine b_stF (by (conv => {lhs; whnf}); done) (by (conv => {lhs; whnf}); done) hb ha (by omega) (m' := a.set (i * c + j) x) (by rw [Nat.zero_add]) ?_ | (refine m00 ?_; (first | refine v_mulN (by omega) ?_ | refine v_addN (by omega) ?_ | refine m49 ?_ | refine m50 ?_ | refine v_k ?_ | refine m51 ?_ | fail)) | refine m25 ?_ | refine m01 ?_ | fail))
    | (refine gateT ?_; (first | refine b_thn ?_ | refine b_thr ?_ | refine b_the ?_ | fail))
    | (refine gateX ?_; (first | refine b_seq ?_ | refine b_region ?_ | (refine m06 ?_; (first | refine c_T ?_ | refine c_F ?_ | refine c_P ?_ ?_ | refine c_B ?_ ?_ | fail)) | refine b_ret ?_ | refine b_skip ?_ | refine b_block ?_ | refine b_exit ?_ | fail))
    | (refine gateQ ?_; refine m05 ?_)
    | (refine gateR ?_; (first | refine m04 ?_ | refine m02 ?_ | refine m03 ?_ | refine rk_nil ?_ | fail))
    | intro _)
  all_goals first
    | (refine rv_old (by simp) (by simp [mx, mxL, resOne]) ?_; exact rfl)

set_option maxHeartbeats 4000000 in
theorem of_c (H : List (List AV)) (D : AV) (l : List Nat) (hF : FL H D l) (off rows cols ld : Int) (hI : MI l.length off rows cols ld) (hG : GoodP l.length off rows cols ld) (hr : rows ≤ 1000) (hc : cols ≤ 1000) :
    CSpec Tryz.prog 12 [mt D off rows cols ld] H (mM (.sl none (rows.toNat * cols.toNat) (fl (rmA (mel l off ld) rows.toNat cols.toNat))) rows cols) H := by
  obtain ⟨r, rfl⟩ : ∃ r : Nat, rows = (r : Int) := ⟨rows.toNat, by have := hG.1; omega⟩
  obtain ⟨c, rfl⟩ : ∃ c : Nat, cols = (c : Int) := ⟨cols.toNat, by have := hG.2.1; omega⟩
  simp only [Int.toNat_natCast]
  obtain ⟨hn, ho1, ho2, hr1, hr2, hc1, hc2, hl1, hl2⟩ := id hI
  have hrc : r * c ≤ 1000000 := by (have := Nat.mul_le_mul (show r ≤ 1000 by omega) (show c ≤ 1000 by omega); omega)
  refine .mk (fun args w => Tryz.call12 args w) (Spec.intro' (fn := Tryz.f12) Tryz.func12 rfl (by kernel_rfl) (by simp) false [] (draw := drawX Tryz.prog ⟨false, _, []⟩) dOk ?_)
  simp only [argE, Nat.reduceAdd]
  repeat' (first
    | (refine gateE ?_; (first | refine b_c0 ?_ | refine b_nil ?_ | fail))
    | (refine gateO ?_; (first | refine m14 ?_ | (refine m17 ?_; first | refine m19 ?_ | refine m18 ?_) | (refine m07 ?_; (first | refine m15 ?_ | refine m16 ?_ | refine l_FL (FL.app hF _) (by first | omega | (have hp := good_place hG (i := (k : Int)) (j := (j : Int)) (by omega) (by omega) (by omega) (by omega); omega) | fail) ?_ | fail)) | refine b_iaF (by (conv => {lhs; whnf}); done) (by (conv => {lhs; whnf}); done) (by exact hF.len) (by first | omega | (have hp := good_place hG (i := (k : Int)) (j := (j : Int)) (by omega) (by omega) (by omega) (by omega); omega) | fail) ?_ | (refine m00 ?_; (first | refine v_w (by first | omega | (have hp := good_place hG (i := (k : Int)) (j := (j : Int)) (by omega) (by omega) (by omega) (by omega); omega) | fail) ?_ | refine m47 ?_ | refine m48 ?_ | refine m49 ?_ | refine m50 ?_ | refine v_k ?_ | refine m51 ?_ | fail)) | refine m42 ?_ | refine b_assignI ?_ | refine b_assignN ?_ | refine m08 ?_ | refine b_callB ?_ | refine m25 ?_ | refine m01 ?_ | refine m24 ?_ | fail))
    | (refine gateD ?_; (first | refine m36 ?_ | refine d_nil ?_ | fail))
    | (refine gateC ?_; (first | refine k_lt ?_ | refine m34 ?_ | refine m35 ?_ | refine m33 ?_ | refine k_mn ?_ | refine m56 ?_ | refine k_mnF ?_ | fail))
    | (refine gateT ?_; (first | refine b_thn ?_ | refine b_thr ?_ | refine b_the ?_ | fail))
    | (refine gateX ?_; (first | refine b_seq ?_ | refine b_region ?_ | (refine m06 ?_; (first | refine c_T ?_ | refine c_F ?_ | refine c_P ?_ ?_ | refine c_B ?_ ?_ | fail)) | refine b_ret ?_ | refine b_skip ?_ | refine b_block ?_ | refine b_exit ?_ | refine b_draw [] [16] [(0, .ld true), (1, .lt), (2, .lt), (3, .lt), (4, .ld true), (5, .lt), (6, .ld true), (7, .lt), (8, .lt), (9, .lt), (10, .lt), (11, .ld true), (12, .lt), (13, .lt), (14, .lt), (15, .ld true), (16, .mn false)] (by kernel_rfl) ?_ | (refine b_loop [5, 4, 1, 2, 3] c (fun j => ⟨[(5, .val (.int .i64 (j : Int))), (4, .val (.int .i64 (k : Int))), (1, .loc 1 0), (2, .loc 2 0), (3, .loc 3 0)], [(1, [D, .int .i64 off, .int .i64 (r : Int), .int .i64 (c : Int), .int .i64 ld]), (2, [.int .i64 0, .int .i64 0, .slnil]), (3, [.int .i64 (r : Int), .int .i64 (c : Int), .slm (H.length + 0) (r * c) 0 (r * c) 1])], H ++ [fl (ofL (mel l off ld) r c (k * c + j))]⟩) (by exact rfl) ?_ ?_ <;> (first | intro j hj K hK | intro K) <;> (try dsimp only at *) <;> (try simp only [Int.natCast_add, Int.natCast_one] at *)) | (refine b_loop [4, 1, 2, 3] r (fun k => ⟨[(4, .val (.int .i64 (k : Int))), (1, .loc 1 0), (2, .loc 2 0), (3, .loc 3 0)], [(1, [D, .int .i64 off, .int .i64 (r : Int), .int .i64 (c : Int), .int .i64 ld]), (2, [.int .i64 0, .int .i64 0, .slnil]), (3, [.int .i64 (r : Int), .int .i64 (c : Int), .slm (H.length + 0) (r * c) 0 (r * c) 1])], H ++ [fl (ofL (mel l off ld) r c (k * c))]⟩) (by simp only [Nat.zero_mul, ofL_zero]; exact rfl) ?_ ?_ <;> (first | intro k hk K hK | intro K) <;> (try dsimp only at *) <;> (try simp only [Int.natCast_add, Int.natCast_one, Nat.add_mul, Nat.one_mul] at *)) | fail))
    | refine m21 ?_
    | refine a_nil ?_
    | (refine gateK ?_; (first | refine c_call (new_k _ _ r c (by omega) (by omega) _ (by (conv => {lhs; simp only [List.length_append, List.length_cons, List.length_nil, List.length_set, Nat.reduceAdd, Nat.zero_add]}); done) (by (conv => {lhs; simp only [List.append_assoc, List.cons_append, List.nil_append]}); done)) (OldOk.app (by simp)) ?_ | refine c_call (tset_c _ _ _ (ofL (mel l off ld) r c (k * c + j)) (hg_new (by exact rfl) rfl) r c (by simp) (by omega) (by omega) k j (by omega) (by omega) _ (by rw [ofL_set (by omega) (by omega) (by exact rfl)]; exact hs_new (by exact rfl) (by (conv => {lhs; simp only [List.set_cons_zero, List.set_cons_succ]}); done))) (OldOk.app (by simp)) ?_ | fail))
    | (refine gateB ?_; (first | refine b_bln ?_ | refine b_blr ?_ | refine b_ble ?_ | refine m57 ?_ | fail))
    | (refine gateL ?_; (first | refine lp_n ?_ | refine lp_r ?_ | refine lp_e ?_ | fail))
    | (refine pr_k (by exact rfl) ?_; first | exact hK | fail | (exfalso; first | omega | (simp_all; done) | (simp_all; omega)))
    | (refine gateQ ?_; refine m05 ?_)
    | (refine gateR ?_; (first | refine m04 ?_ | refine m02 ?_ | refine m03 ?_ | refine rk_nil ?_ | fail))
    | intro _)
  all_goals first
    | (refine rv_fr rfl ?_; simp only [ofL_all]; exact Fr.agg (Frs.cons (Fr.old (by simp [mx])) (Frs.cons (Fr.old (by simp [mx])) (Frs.cons (Fr.fz (by omega) (by simp) (hg_new rfl rfl) (by simp) (gc_all _ (by simp)) (Frs.old (by rw [mxL_fl]; exact Nat.zero_le _))) Frs.nil))))


end
theorem same_t (H : List (List AV)) (x y : Nat) (h : x = y) : CSpec Tryz.prog 15 [.flt x, .flt y] H (.bool true) H := by
  have := same_c H x y
  rwa [decide_eq_true h] at this
section
attribute [local irreducible] Ex exOps exD opX opE thenX blkX RetQ Spec CSpec Fr condK guardK guardD ckK valK pickK loadK faK callK argK gK fK rK RetV lpX prK
set_option maxHeartbeats 4000000 in
theorem vat_c (H : List (List AV)) (D : AV) (l : List Nat) (hF : FL H D l) (off rows cols ld : Int) (hI : MI l.length off rows cols ld) (hG : GoodP l.length off rows cols ld) (i j : Int) (hi : 0 ≤ i) (hj : 0 ≤ j) (hi' : i < rows) (hj' : j < cols) :
    CSpec Tryz.prog 97 [mt D off rows cols ld, .int .i64 i, .int .i64 j] H (.flt (mel l off ld i.toNat j.toNat)) H := by
  obtain ⟨hn, ho1, ho2, hr1, hr2, hc1, hc2, hl1, hl2⟩ := id hI
  have hpl := (plV_T (show PlaceP l.length off rows cols ld i j from ⟨hG, hi, hj, hi', hj'⟩)).1
  have hpl0 := (plV_T (show PlaceP l.length off rows cols ld i j from ⟨hG, hi, hj, hi', hj'⟩)).2
  have hpl9 := pl_lt hpl0
  have hij : (i.toNat : Int) = i ∧ (j.toNat : Int) = j := ⟨by omega, by omega⟩
  have hmul : (j.toNat : Int) * ld = j * ld := by rw [hij.2]
  refine .mk (fun args w => Tryz.call97 args w) (Spec.intro' (fn := Tryz.f97) Tryz.func97 rfl (by kernel_rfl) (by simp) false [] (draw := drawX Tryz.prog ⟨false, _, []⟩) dOk ?_)
  simp only [argE, Nat.reduceAdd]
  repeat' (first
    | (refine gateE ?_; (first | refine b_c0 ?_ | refine b_nil ?_ | fail))
    | (refine gateO ?_; (first | refine m14 ?_ | (refine m17 ?_; first | refine m19 ?_ | refine m18 ?_) | (refine m07 ?_; (first | refine m15 ?_ | refine m16 ?_ | refine l_FL (FL.app hF _) (by omega) ?_ | fail)) | refine b_iaF (by (conv => {lhs; whnf}); done) (by (conv => {lhs; whnf}); done) (by exact hF.len) (by omega) ?_ | (refine m00 ?_; (first | refine m47 ?_ | refine m48 ?_ | refine m49 ?_ | refine m50 ?_ | refine v_k ?_ | refine m51 ?_ | fail)) | refine m42 ?_ | refine b_assignI ?_ | refine b_assignN ?_ | refine m08 ?_ | refine b_callB ?_ | refine m01 ?_ | fail))
    | (refine gateT ?_; (first | refine b_thn ?_ | refine b_thr ?_ | refine b_the ?_ | fail))
    | (refine gateX ?_; (first | refine b_seq ?_ | refine b_region ?_ | (refine m06 ?_; (first | refine c_T ?_ | refine c_F ?_ | refine c_P ?_ ?_ | refine c_B ?_ ?_ | fail)) | refine b_ret ?_ | refine b_skip ?_ | refine b_block ?_ | refine b_exit ?_ | fail))
    | refine m21 ?_
    | refine a_nil ?_
    | (refine gateK ?_; (first | refine c_call (place_c _ D l.length off rows cols ld hF.len hI i j (by omega) (by omega) (by omega) (by omega)) (OldOk.app (by simp)) ?_ | fail))
    | (refine gateQ ?_; refine m05 ?_)
    | (refine gateR ?_; (first | refine m04 ?_ | refine m02 ?_ | refine m03 ?_ | refine rk_nil ?_ | fail))
    | intro _)
  all_goals first | refine rv_old rfl (by simp [mx, mxL, aOf, aOf1, resOne]) ?_ | (trace_state; fail)
  all_goals first
    | (refine congrArg AV.flt ?_; rw [mel_pos, hpl]; unfold pos; congr 2; omega)
    | (exfalso; omega)

set_option maxHeartbeats 4000000 in
theorem rover_c (H : List (List AV)) (x y : Nat) :
    CSpec Tryz.prog 63 [.flt x, .flt y] H (.flt (fdiv x y)) H := by
  refine .mk (fun args w => Tryz.call63 args w) (Spec.intro' (fn := Tryz.f63) Tryz.func63 rfl (by kernel_rfl) (by simp) false [] (draw := drawX Tryz.prog ⟨false, _, []⟩) dOk ?_)
  simp only [argE, Nat.reduceAdd]
  repeat' (first
    | (refine gateE ?_; (first | refine b_c0 ?_ | refine b_nil ?_ | fail))
    | (refine gateO ?_; (first | refine m14 ?_ | (refine m00 ?_; (first | refine m49 ?_ | refine m50 ?_ | refine v_qc (by omega) (by omega) ?_ | refine v_k ?_ | refine m51 ?_ | fail)) | refine m42 ?_ | refine b_assignI ?_ | refine b_assignN ?_ | refine m08 ?_ | fail))
    | (refine gateT ?_; (first | refine b_thn ?_ | refine b_thr ?_ | refine b_the ?_ | fail))
    | (refine gateX ?_; (first | refine b_seq ?_ | refine b_region ?_ | (refine m06 ?_; (first | refine c_T ?_ | refine c_F ?_ | refine c_P ?_ ?_ | refine c_B ?_ ?_ | fail)) | refine b_ret ?_ | refine b_skip ?_ | refine b_block ?_ | refine b_exit ?_ | fail))
    | (refine gateQ ?_; refine m05 ?_)
    | (refine gateR ?_; (first | refine m04 ?_ | refine m02 ?_ | refine m03 ?_ | refine rk_nil ?_ | fail))
    | intro _)
  all_goals first | refine rv_old rfl (by simp [mx, mxL, aOf, aOf1, resOne]) ?_ | (trace_state; fail)
  all_goals exact rfl

set_option maxHeartbeats 4000000 in
theorem less_c (H : List (List AV)) (x y : Nat) :
    CSpec Tryz.prog 82 [.flt x, .flt y] H (.flt (fsub x y)) H := by
  refine .mk (fun args w => Tryz.call82 args w) (Spec.intro' (fn := Tryz.f82) Tryz.func82 rfl (by kernel_rfl) (by simp) false [] (draw := drawX Tryz.prog ⟨false, _, []⟩) dOk ?_)
  simp only [argE, Nat.reduceAdd]
  repeat' (first
    | (refine gateE ?_; (first | refine b_c0 ?_ | refine b_nil ?_ | fail))
    | (refine gateO ?_; (first | refine m14 ?_ | (refine m00 ?_; (first | refine m49 ?_ | refine m50 ?_ | refine v_k ?_ | refine m51 ?_ | fail)) | refine m42 ?_ | refine b_assignI ?_ | refine b_assignN ?_ | refine m08 ?_ | fail))
    | (refine gateT ?_; (first | refine b_thn ?_ | refine b_thr ?_ | refine b_the ?_ | fail))
    | (refine gateX ?_; (first | refine b_seq ?_ | refine b_region ?_ | (refine m06 ?_; (first | refine c_T ?_ | refine c_F ?_ | refine c_P ?_ ?_ | refine c_B ?_ ?_ | fail)) | refine b_ret ?_ | refine b_skip ?_ | refine b_block ?_ | refine b_exit ?_ | fail))
    | (refine gateQ ?_; refine m05 ?_)
    | (refine gateR ?_; (first | refine m04 ?_ | refine m02 ?_ | refine m03 ?_ | refine rk_nil ?_ | fail))
    | intro _)
  all_goals first | refine rv_old rfl (by simp [mx, mxL, aOf, aOf1, resOne]) ?_ | (trace_state; fail)
  all_goals exact rfl

set_option maxHeartbeats 4000000 in
theorem times_c (H : List (List AV)) (x y : Nat) :
    CSpec Tryz.prog 83 [.flt x, .flt y] H (.flt (fmul x y)) H := by
  refine .mk (fun args w => Tryz.call83 args w) (Spec.intro' (fn := Tryz.f83) Tryz.func83 rfl (by kernel_rfl) (by simp) false [] (draw := drawX Tryz.prog ⟨false, _, []⟩) dOk ?_)
  simp only [argE, Nat.reduceAdd]
  repeat' (first
    | (refine gateE ?_; (first | refine b_c0 ?_ | refine b_nil ?_ | fail))
    | (refine gateO ?_; (first | refine m14 ?_ | (refine m00 ?_; (first | refine m49 ?_ | refine m50 ?_ | refine v_k ?_ | refine m51 ?_ | fail)) | refine m42 ?_ | refine b_assignI ?_ | refine b_assignN ?_ | refine m08 ?_ | fail))
    | (refine gateT ?_; (first | refine b_thn ?_ | refine b_thr ?_ | refine b_the ?_ | fail))
    | (refine gateX ?_; (first | refine b_seq ?_ | refine b_region ?_ | (refine m06 ?_; (first | refine c_T ?_ | refine c_F ?_ | refine c_P ?_ ?_ | refine c_B ?_ ?_ | fail)) | refine b_ret ?_ | refine b_skip ?_ | refine b_block ?_ | refine b_exit ?_ | fail))
    | (refine gateQ ?_; refine m05 ?_)
    | (refine gateR ?_; (first | refine m04 ?_ | refine m02 ?_ | refine m03 ?_ | refine rk_nil ?_ | fail))
    | intro _)
  all_goals first | refine rv_old rfl (by simp [mx, mxL, aOf, aOf1, resOne]) ?_ | (trace_state; fail)
  all_goals exact rfl

theorem tat_m (H : List (List AV)) (A : AV) (g : Nat → Nat → Nat) (r c : Nat) (hA : FL H A (rmA g r c)) (hr : r ≤ 1000) (hc : c ≤ 1000) (i j : Nat) (hi : i < r) (hj : j < c) : CSpec Tryz.prog 32 [mM A r c, .int .i64 (i : Int), .int .i64 (j : Int)] H (.flt (g i j)) H := by
  have := tat_c H A _ hA r c (by simp) hr hc i j hi hj
  rwa [rmA_get hi hj] at this
set_option maxHeartbeats 4000000 in
theorem piv_c (H : List (List AV)) (P : AV) (p : List Int) (hP : IL H P p) (hB : p.length ≤ 2 ^ 30) :
    CSpec Tryz.prog 11 [P] H (.bool (decide (pivP p))) H := by
  obtain ⟨N, hN1, hN2, hN3⟩ := first_bad (fun k => (k : Int) ≤ p.getD k 0 ∧ p.getD k 0 < p.length) p.length
  refine .mk (fun args w => Tryz.call11 args w) (Spec.intro' (fn := Tryz.f11) Tryz.func11 rfl (by kernel_rfl) (by simp) false [] (draw := drawX Tryz.prog ⟨false, _, []⟩) dOk ?_)
  simp only [argE, Nat.reduceAdd]
  repeat' (first
    | (refine gateE ?_; (first | refine b_c0 ?_ | refine b_nil ?_ | refine m13 ?_ | refine m12 ?_ | refine m11 ?_ | (refine m10 ?_; (first | refine g_TT ?_ | refine g_FF ?_ | refine g_TF ?_ | refine g_FT ?_ | refine g_PT ?_ ?_ | refine g_PF ?_ ?_ | refine g_BT ?_ ?_ | refine g_BF ?_ ?_ | fail)) | (refine m09 ?_; (first | refine g_TT ?_ | refine g_FF ?_ | refine g_TF ?_ | refine g_FT ?_ | refine g_PT ?_ ?_ | refine g_PF ?_ ?_ | refine g_BT ?_ ?_ | refine g_BF ?_ ?_ | fail)) | refine m38 ?_ | fail))
    | (refine gateO ?_; (first | refine m14 ?_ | (refine m07 ?_; (first | refine m15 ?_ | refine m16 ?_ | refine l_IL (IL.app hP _) (by omega) ?_ | fail)) | refine b_iaN (by (conv => {lhs; whnf}); done) (by (conv => {lhs; whnf}); done) (by exact hP.len) (by omega) ?_ | refine b_lenA (by (conv => {lhs; whnf}); done) (by exact hP.len) ?_ | (refine m00 ?_; (first | refine m47 ?_ | refine m48 ?_ | refine m49 ?_ | refine m50 ?_ | refine v_k ?_ | refine m51 ?_ | fail)) | (refine m22 ?_; (first | refine m26 ?_ | refine m27 ?_ | fail)) | refine m42 ?_ | refine b_assignI ?_ | refine b_assignN ?_ | refine m08 ?_ | refine b_lenA (by (conv => {lhs; whnf}); done) (by first | rfl | assumption) ?_ | fail))
    | (refine gateT ?_; (first | refine b_thn ?_ | refine b_thr ?_ | refine b_the ?_ | fail))
    | (refine gateX ?_; (first | refine b_seq ?_ | refine b_region ?_ | (refine m06 ?_; (first | refine c_T ?_ | refine c_F ?_ | refine c_P ?_ ?_ | refine c_B ?_ ?_ | fail)) | refine b_ret ?_ | refine b_skip ?_ | refine b_block ?_ | refine b_exit ?_ | (refine b_loop [3, 0, 2] N (fun k => ⟨[(3, .val (.int .i64 (k : Int))), (0, .val P), (2, .val (.bool false))], [], H ++ []⟩) (by exact rfl) ?_ ?_ <;> (first | intro k hk K hK | intro K) <;> (try dsimp only at *) <;> (try simp only [Int.natCast_add, Int.natCast_one] at *)) | fail))
    | (refine gateB ?_; (first | refine b_bln ?_ | refine b_blr ?_ | refine b_ble ?_ | refine m57 ?_ | fail))
    | (refine gateL ?_; (first | refine lp_n ?_ | refine lp_r ?_ | refine lp_e ?_ | fail))
    | (refine pr_k (by exact rfl) ?_; first | exact hK | (exfalso; have := hN3 (by omega); omega) | (exfalso; have := hN3 (by omega); omega) | (exfalso; first | omega | (simp_all; done) | (simp_all; omega)))
    | (refine gateQ ?_; refine m05 ?_)
    | (refine gateR ?_; (first | refine m04 ?_ | refine m02 ?_ | refine m03 ?_ | refine rk_nil ?_ | fail))
    | intro _)
  all_goals first | refine rv_old rfl (by simp [mx, mxL, aOf, aOf1, resOne]) ?_ | (trace_state; fail)
  all_goals first
    | (exfalso; have := hN2 k hk; omega)
    | exact rtF (fun h => by first | (have := h N (by omega); omega) | (have := h.2.2.2 N (by omega); omega) | omega)
    | exact rtF (fun h => by first | (have h2 := h.1; contradiction) | (have h2 := h.2.1; have h3 := h.2.2.1; omega))
    | exact rtT (fun k hk => hN2 k (by omega))
    | (refine rtT ⟨Decidable.not_not.1 (by assumption), by omega, by omega, fun k hk => hN2 k (by omega)⟩)

set_option maxHeartbeats 4000000 in
theorem lright_c (H : List (List AV)) (D : AV) (l : List Nat) (hF : FL H D l) (off rows cols ld : Int) (hI : MI l.length off rows cols ld) (P : AV) (p : List Int) (hP : IL H P p) (hB : p.length ≤ 2 ^ 30) :
    CSpec Tryz.prog 52 [(.agg [D, .int .i64 off, .int .i64 rows, .int .i64 cols, .int .i64 ld, P])] H (.bool (decide (GoodP l.length off rows cols ld ∧ rows = cols ∧ rows = (p.length : Int) ∧ pivP p))) H := by
  obtain ⟨hn, ho1, ho2, hr1, hr2, hc1, hc2, hl1, hl2⟩ := id hI
  obtain ⟨N, hN1, hN2, hN3⟩ := first_bad (fun k => (k : Int) ≤ p.getD k 0 ∧ p.getD k 0 < p.length) p.length
  refine .mk (fun args w => Tryz.call52 args w) (Spec.intro' (fn := Tryz.f52) Tryz.func52 rfl (by kernel_rfl) (by simp) false [] (draw := drawX Tryz.prog ⟨false, _, []⟩) dOk ?_)
  simp only [argE, Nat.reduceAdd]
  repeat' (first
    | (refine gateE ?_; (first | refine b_c0 ?_ | refine b_nil ?_ | refine m13 ?_ | refine m12 ?_ | refine m11 ?_ | (refine m10 ?_; (first | refine g_TT ?_ | refine g_FF ?_ | refine g_TF ?_ | refine g_FT ?_ | refine g_PT ?_ ?_ | refine g_PF ?_ ?_ | refine g_BT ?_ ?_ | refine g_BF ?_ ?_ | fail)) | (refine m09 ?_; (first | refine g_TT ?_ | refine g_FF ?_ | refine g_TF ?_ | refine g_FT ?_ | refine g_PT ?_ ?_ | refine g_PF ?_ ?_ | refine g_BT ?_ ?_ | refine g_BF ?_ ?_ | fail)) | refine m38 ?_ | fail))
    | (refine gateO ?_; (first | refine m41 ?_ | refine b_moveI ?_ | refine m14 ?_ | (refine m17 ?_; first | refine m19 ?_ | refine m18 ?_) | (refine m07 ?_; (first | refine m15 ?_ | refine m16 ?_ | refine l_IL (IL.app hP _) (by omega) ?_ | fail)) | refine b_iaN (by (conv => {lhs; whnf}); done) (by (conv => {lhs; whnf}); done) (by exact hP.len) (by omega) ?_ | refine b_lenA (by (conv => {lhs; whnf}); done) (by exact hP.len) ?_ | (refine m00 ?_; (first | refine m54 ?_ | refine m55 ?_ | refine v_neP ?_ | refine m47 ?_ | refine m48 ?_ | refine m49 ?_ | refine m50 ?_ | refine v_nT ?_ | refine v_nF ?_ | refine v_nP ?_ | refine v_k ?_ | refine m51 ?_ | fail)) | (refine m22 ?_; (first | refine m26 ?_ | refine m27 ?_ | fail)) | refine m42 ?_ | refine b_assignI ?_ | refine b_assignN ?_ | refine m08 ?_ | (refine m20 ?_; (first | refine m54 ?_ | refine m55 ?_ | refine v_neP ?_ | refine m47 ?_ | refine m48 ?_ | refine m49 ?_ | refine m50 ?_ | refine v_nT ?_ | refine v_nF ?_ | refine v_nP ?_ | refine v_k ?_ | refine m51 ?_ | fail)) | refine b_callB ?_ | refine b_lenA (by (conv => {lhs; whnf}); done) (by first | rfl | assumption) ?_ | refine m01 ?_ | fail))
    | (refine gateT ?_; (first | refine b_thn ?_ | refine b_thr ?_ | refine b_the ?_ | fail))
    | (refine gateX ?_; (first | refine b_seq ?_ | refine b_region ?_ | (refine m06 ?_; (first | refine c_T ?_ | refine c_F ?_ | refine c_P ?_ ?_ | refine c_B ?_ ?_ | fail)) | refine b_ret ?_ | refine b_skip ?_ | refine b_block ?_ | refine b_exit ?_ | (refine b_loop [32, 31, 30, 3, 2, 1] N (fun k => ⟨[(32, .val (.int .i64 (k : Int))), (31, .val (.int .i64 (p.length : Int))), (30, .val P), (3, .val (.int .i64 (p.length : Int))), (2, .val (.bool false)), (1, .loc 1 0)], [(1, [D, .int .i64 off, .int .i64 rows, .int .i64 cols, .int .i64 ld, P])], H ++ []⟩) (by exact rfl) ?_ ?_ <;> (first | intro k hk K hK | intro K) <;> (try dsimp only at *) <;> (try simp only [Int.natCast_add, Int.natCast_one] at *)) | fail))
    | refine m21 ?_
    | refine a_nil ?_
    | (refine gateK ?_; (first | refine c_call (good_c _ D l.length off rows cols ld hF.len hI) (OldOk.app (by simp)) ?_ | fail))
    | (refine gateB ?_; (first | refine b_bln ?_ | refine b_blr ?_ | refine b_ble ?_ | refine m57 ?_ | fail))
    | (refine gateL ?_; (first | refine lp_n ?_ | refine lp_r ?_ | refine lp_e ?_ | fail))
    | (refine pr_k (by exact rfl) ?_; first | exact hK | (exfalso; have := hN3 (by omega); omega) | (exfalso; first | omega | (simp_all; done) | (simp_all; omega)))
    | (refine gateQ ?_; refine m05 ?_)
    | (refine gateR ?_; (first | refine m04 ?_ | refine m02 ?_ | refine m03 ?_ | refine rk_nil ?_ | fail))
    | intro _)
  all_goals first | refine rv_old rfl (by simp [mx, mxL, aOf, aOf1, resOne]) ?_ | (trace_state; fail)
  all_goals first
    | (exfalso; have := hN2 k hk; omega)
    | exact rtF (fun h => by first | (have := h N (by omega); omega) | (have := h.2.2.2 N (by omega); omega) | omega)
    | exact rtF (fun h => by first | (have h2 := h.1; contradiction) | (have h2 := h.2.1; have h3 := h.2.2.1; omega))
    | exact rtT (fun k hk => hN2 k (by omega))
    | (refine rtT ⟨Decidable.not_not.1 (by assumption), by omega, by omega, fun k hk => hN2 k (by omega)⟩)

end
theorem IL.fzn (H : List (List AV)) (l : List Int) (n : Nat) (h : l.length = n) : IL H (.sl none n (il l)) l := by subst h; exact IL.fz H none l
theorem FL.fzn (H : List (List AV)) (l : List Nat) (n : Nat) (h : l.length = n) : FL H (.sl none n (fl l)) l := by subst h; exact FL.fz H none l
section
attribute [local irreducible] Ex exOps exD opX opE thenX blkX RetQ Spec CSpec Fr condK guardK guardD ckK valK pickK loadK faK callK argK gK fK rK RetV lpX prK
theorem lright_t (H : List (List AV)) (D : AV) (l : List Nat) (hF : FL H D l) (off : Int) (n : Nat) (ld : Int) (hI : MI l.length off n n ld) (P : AV) (p : List Int) (hP : IL H P p) (hB : p.length ≤ 2 ^ 30) (hG : GoodP l.length off n n ld) (hpl : p.length = n) (hpv : pivP p) :
    CSpec Tryz.prog 52 [(.agg [D, .int .i64 off, .int .i64 (n : Int), .int .i64 (n : Int), .int .i64 ld, P])] H (.bool true) H := by
  have h := lright_c H D l hF off n n ld hI P p hP hB
  rwa [decide_eq_true ⟨hG, rfl, by omega, hpv⟩] at h
theorem vat_n (H : List (List AV)) (D : AV) (l : List Nat) (hF : FL H D l) (off ld : Int) (n : Nat) (hI : MI l.length off n n ld) (hG : GoodP l.length off n n ld) (i j : Nat) (hi : i < n) (hj : j < n) (x : Nat) (hx : mel l off ld i j = x) :
    CSpec Tryz.prog 97 [mt D off n n ld, .int .i64 (i : Int), .int .i64 (j : Int)] H (.flt x) H := by
  have h := vat_c H D l hF off n n ld hI hG i j (by omega) (by omega) (by omega) (by omega)
  simp only [Int.toNat_natCast] at h
  rwa [hx] at h
end
theorem piv_t (H : List (List AV)) (P : AV) (p : List Int) (hP : IL H P p) (hB : p.length ≤ 2 ^ 30) (h : pivP p) : CSpec Tryz.prog 11 [P] H (.bool true) H := by
  have := piv_c H P p hP hB
  rwa [decide_eq_true h] at this
section
attribute [local irreducible] Ex exOps exD opX opE thenX blkX RetQ Spec CSpec Fr condK guardK guardD ckK valK pickK loadK faK callK argK gK fK rK RetV lpX prK
theorem of_n (H : List (List AV)) (D : AV) (l : List Nat) (hF : FL H D l) (off ld : Int) (n : Nat) (hI : MI l.length off n n ld) (hG : GoodP l.length off n n ld) (hn : n ≤ 64) : CSpec Tryz.prog 12 [mt D off (n : Int) (n : Int) ld] H (mM (.sl none (n * n) (fl (rmA (mel l off ld) n n))) n n) H := by
  have h := of_c H D l hF off n n ld hI hG (by omega) (by omega)
  simpa only [Int.toNat_natCast] using h
set_option maxHeartbeats 4000000 in
theorem diag_g (H : List (List AV)) (n : Nat) (hn : n ≤ 64) (A : AV) (la : List Nat) (hA : FL H A la) (ao al : Int) (hJ : MI la.length ao n n al) (hGa : GoodP la.length ao n n al) (P : AV) (p : List Int) (hP : IL H P p) (hB : p.length ≤ 2 ^ 30) (hpl : p.length = n) (hpv : pivP p) :
    CSpec Tryz.prog 101 [.agg [A, .int .i64 ao, .int .i64 (n : Int), .int .i64 (n : Int), .int .i64 al, P]] H (.tup [.sl none n (fl (rml (fun i => (mel la ao al) i i) n)), .int .i64 0]) H := by
  refine .mk (fun args w => Tryz.call101 args w) (Spec.intro' (fn := Tryz.f101) Tryz.func101 rfl (by kernel_rfl) (by simp) false [21] (draw := drawX Tryz.prog ⟨false, _, [21]⟩) dOk ?_)
  simp only [argE, Nat.reduceAdd]
  repeat' (first
    | (refine gateE ?_; (first | refine b_c0 ?_ | refine b_nil ?_ | fail))
    | (refine gateO ?_; (first | refine m41 ?_ | refine b_moveI ?_ | refine m14 ?_ | (refine m17 ?_; first | refine m19 ?_ | refine m18 ?_) | (refine m07 ?_; (first | refine m15 ?_ | refine m16 ?_ | fail)) | refine b_grow (i := 0) (N₀ := []) (by (conv => {lhs; whnf}); done) (by (conv => {lhs; whnf}); done) (by exact rfl) (by exact rfl) (by simp) (by omega) (by exact rfl) (by exact rfl) (l' := fl (rml (fun i => (mel la ao al) i i) (k + 1))) (by exact rml_fl (fun i => (mel la ao al) i i) k) ?_ | (refine m00 ?_; (first | refine v_to ((k + 1 : Nat) : Int) (by omega) (by omega) ?_ | refine m47 ?_ | refine m48 ?_ | refine m49 ?_ | refine m50 ?_ | refine v_nT ?_ | refine v_nF ?_ | refine v_nP ?_ | refine v_k ?_ | refine m51 ?_ | fail)) | refine m42 ?_ | refine b_assignI ?_ | refine b_assignN ?_ | refine m08 ?_ | (refine m20 ?_; (first | refine v_to ((k + 1 : Nat) : Int) (by omega) (by omega) ?_ | refine m47 ?_ | refine m48 ?_ | refine m49 ?_ | refine m50 ?_ | refine v_nT ?_ | refine v_nF ?_ | refine v_nP ?_ | refine v_k ?_ | refine m51 ?_ | fail)) | refine b_callB ?_ | refine m01 ?_ | refine b_bslZ (by exact rfl) (by exact rfl) (by decide) ?_ | fail))
    | (refine gateT ?_; (first | refine b_thn ?_ | refine b_thr ?_ | refine b_the ?_ | fail))
    | (refine gateX ?_; (first | refine b_seq ?_ | refine b_region ?_ | (refine m06 ?_; (first | refine c_T ?_ | refine c_F ?_ | refine c_P ?_ ?_ | refine c_B ?_ ?_ | fail)) | refine b_ret ?_ | refine b_skip ?_ | refine b_block ?_ | refine b_exit ?_ | (refine b_loop [1, 4, 11, 12] n (fun k => ⟨[(1, .loc 1 0), (4, .val (gV H.length 0 k)), (11, .val (.int .i64 ((n : Nat) : Int))), (12, .val (.int .i64 ((k : Nat) : Int)))], [(1, [A, .int .i64 ao, .int .i64 (n : Int), .int .i64 (n : Int), .int .i64 al, P])], H ++ ([] ++ gN (fl (rml (fun i => (mel la ao al) i i) k)))⟩) (by exact rfl) ?_ ?_ <;> (first | intro k hk K hK | intro K) <;> (try dsimp only at *)) | fail))
    | refine m21 ?_
    | refine a_nil ?_
    | (refine gateK ?_; (first | refine c_call (lright_t _ A la (FL.app hA _) ao n al hJ P p (IL.app hP _) hB hGa hpl hpv) (OldOk.app (by simp)) ?_ | refine c_call (vat_n _ A la (FL.app hA _) ao al n hJ hGa k k (by omega) (by omega) _ rfl) (OldOk.app (by simp)) ?_ | fail))
    | refine m44 ?_
    | refine m40 ?_
    | (refine gk_nilN (by (conv => {lhs; simp only [List.nil_append, List.cons_append]}); done) ?_; first | refine ⟨by exact rfl, ?_⟩ | skip)
    | refine gk_nil ?_
    | (intro N' hN'; simp only [List.nil_append, List.cons_append] at hN'; subst hN')
    | (refine gateB ?_; (first | refine b_bln ?_ | refine b_blr ?_ | refine b_ble ?_ | refine m57 ?_ | fail))
    | (refine gateL ?_; (first | refine lp_n ?_ | refine lp_r ?_ | refine lp_e ?_ | fail))
    | (refine pr_k (by exact rfl) ?_; first | exact hK | fail | (exfalso; first | omega | (simp_all; done) | (simp_all; omega)))
    | (refine gateQ ?_; refine m05 ?_)
    | (refine gateR ?_; (first | refine m04 ?_ | refine m02 ?_ | refine m03 ?_ | refine rk_nil ?_ | fail))
    | intro _)
  all_goals first
    | (exfalso; omega)
    | (refine rv_fr rfl ?_; exact Fr.tup (Frs.cons (gV_fr (N₀ := []) (i := 0) rfl rfl (by simp) (by rw [mxL_fl]; exact Nat.zero_le _)) (Frs.cons (Fr.old (by simp [mx])) Frs.nil)))


end
theorem feq0 {x : Nat} (h1 : feq x 0 = false) (h2 : feq x (cn 0) = true) : False := by
  have h3 : cn 0 = 0 := by decide
  rw [h3, h1] at h2; cases h2
theorem feq1 {x : Nat} (h1 : feq x 0 = true) (h2 : ¬ feq x (cn 0) = true) : False := by
  have h3 : cn 0 = 0 := by decide
  rw [h3] at h2; exact h2 h1
theorem feq2 {x : Nat} (h1 : feq x 0 = true) (h2 : feq x (cn 0) = false) : False := feq1 h1 (by simp [h2])
section
attribute [local irreducible] Ex exOps exD opX opE thenX blkX RetQ Spec CSpec Fr condK guardK guardD ckK valK pickK loadK faK callK argK gK fK rK RetV lpX prK
set_option maxHeartbeats 4000000 in
theorem snum_c (H : List (List AV)) (b : Nat) (l : List Nat) (hb : H[b]? = some (fl l)) (xo xi : Int) (n : Nat) (hxI : VI l.length xo n xi) (hxR : RightP l.length xo n xi) (D : AV) (hD : mx D ≤ H.length) (mo ld : Int) (i : Nat) (hi : i < n) :
    CSpec Tryz.prog 161 [(.agg [D, .int .i64 mo, .int .i64 (n : Int), .int .i64 (n : Int), .int .i64 ld, (.slm b l.length 0 l.length 1), .int .i64 xo, .int .i64 (n : Int), .int .i64 xi]), .int .i64 (i : Int)] H (.eptr (.slm b l.length 0 l.length 1) (pos xo xi 0 i)) H := by
  obtain ⟨vn, vo1, vo2, vn1, vn2, vi1, vi2⟩ := id hxI
  have hbl : b < H.length := (List.getElem?_eq_some_iff.1 hb).1
  refine .mk (fun args w => Tryz.call161 args w) (Spec.intro' (fn := Tryz.f161) Tryz.func161 rfl (by kernel_rfl) (by simp) false [] (draw := drawX Tryz.prog ⟨false, _, []⟩) dOk ?_)
  simp only [argE, Nat.reduceAdd]
  repeat' (first
    | (refine gateE ?_; (first | refine b_c0 ?_ | refine b_nil ?_ | fail))
    | (refine gateO ?_; (first | refine m14 ?_ | (refine m17 ?_; first | refine m19 ?_ | refine m18 ?_) | (refine m07 ?_; (first | refine m15 ?_ | refine m16 ?_ | fail)) | refine b_iaM (m := pos xo xi 0 i) (by (conv => {lhs; whnf}); done) (by (conv => {lhs; whnf}); done) (by exact rfl) (by exact vpos_eq hxR hi) (by exact vpos_lt hxR hi) ?_ | (refine m00 ?_; (first | refine v_w (by first | omega | (have h1 := right_at hxR (i := (i : Int)) (by omega) (by omega); omega) | fail) ?_ | refine m49 ?_ | refine m50 ?_ | refine v_k ?_ | refine m51 ?_ | fail)) | refine m42 ?_ | refine b_assignI ?_ | refine b_assignN ?_ | refine m08 ?_ | refine m01 ?_ | fail))
    | (refine gateT ?_; (first | refine b_thn ?_ | refine b_thr ?_ | refine b_the ?_ | fail))
    | (refine gateX ?_; (first | refine b_seq ?_ | refine b_region ?_ | (refine m06 ?_; (first | refine c_T ?_ | refine c_F ?_ | refine c_P ?_ ?_ | refine c_B ?_ ?_ | fail)) | refine b_ret ?_ | refine b_skip ?_ | refine b_block ?_ | refine b_exit ?_ | fail))
    | (refine gateQ ?_; refine m05 ?_)
    | (refine gateR ?_; (first | refine m04 ?_ | refine m02 ?_ | refine m03 ?_ | refine rk_nil ?_ | fail))
    | intro _)
  all_goals first
    | (refine rv_old rfl (by simp [mx, mxL, resOne, aOf, aOf1]; omega) ?_; exact rfl)

theorem mat_pos {off ld : Int} {r c m i j : Nat} (hG : GoodP m off r c ld) (hi : i < r) (hj : j < c) : off + (i : Int) + (j : Int) * ld = ((pos off ld i j : Nat) : Int) := by
  have hp := good_place hG (i := (i : Int)) (j := (j : Int)) (by omega) (by omega) (by omega) (by omega)
  unfold pos
  omega
set_option maxHeartbeats 4000000 in
theorem sat_c (H : List (List AV)) (D : AV) (l : List Nat) (hF : FL H D l) (mo ld : Int) (n : Nat) (hI : MI l.length mo n n ld) (hG : GoodP l.length mo n n ld) (X : AV) (xo xi : Int) (i j : Nat) (hi : i < n) (hj : j < n) (x : Nat) (hx : mel l mo ld i j = x) :
    CSpec Tryz.prog 160 [(.agg [D, .int .i64 mo, .int .i64 (n : Int), .int .i64 (n : Int), .int .i64 ld, X, .int .i64 xo, .int .i64 (n : Int), .int .i64 xi]), .int .i64 (i : Int), .int .i64 (j : Int)] H (.flt x) H := by
  obtain ⟨hm, ho1, ho2, hr1, hr2, hc1, hc2, hl1, hl2⟩ := id hI
  refine .mk (fun args w => Tryz.call160 args w) (Spec.intro' (fn := Tryz.f160) Tryz.func160 rfl (by kernel_rfl) (by simp) false [] (draw := drawX Tryz.prog ⟨false, _, []⟩) dOk ?_)
  simp only [argE, Nat.reduceAdd]
  repeat' (first
    | (refine gateE ?_; (first | refine b_c0 ?_ | refine b_nil ?_ | fail))
    | (refine gateO ?_; (first | refine m14 ?_ | (refine m17 ?_; first | refine m19 ?_ | refine m18 ?_) | (refine m07 ?_; (first | refine m15 ?_ | refine m16 ?_ | refine l_FL (FL.app hF _) (by exact pos_lt hG hi hj) ?_ | fail)) | refine b_iaM (m := pos mo ld i j) (by (conv => {lhs; whnf}); done) (by (conv => {lhs; whnf}); done) (by exact hF.len) (by exact mat_pos hG hi hj) (by exact pos_lt hG hi hj) ?_ | (refine m00 ?_; (first | refine v_w (by first | omega | (have hp := good_place hG (i := (i : Int)) (j := (j : Int)) (by omega) (by omega) (by omega) (by omega); omega) | fail) ?_ | refine m49 ?_ | refine m50 ?_ | refine v_k ?_ | refine m51 ?_ | fail)) | refine m42 ?_ | refine b_assignI ?_ | refine b_assignN ?_ | refine m08 ?_ | refine m01 ?_ | fail))
    | (refine gateT ?_; (first | refine b_thn ?_ | refine b_thr ?_ | refine b_the ?_ | fail))
    | (refine gateX ?_; (first | refine b_seq ?_ | refine b_region ?_ | (refine m06 ?_; (first | refine c_T ?_ | refine c_F ?_ | refine c_P ?_ ?_ | refine c_B ?_ ?_ | fail)) | refine b_ret ?_ | refine b_skip ?_ | refine b_block ?_ | refine b_exit ?_ | fail))
    | (refine gateQ ?_; refine m05 ?_)
    | (refine gateR ?_; (first | refine m04 ?_ | refine m02 ?_ | refine m03 ?_ | refine rk_nil ?_ | fail))
    | intro _)
  all_goals first | refine rv_old rfl (by simp [mx, mxL, aOf, aOf1, resOne]) ?_ | (trace_state; fail)
  all_goals first
    | (rw [← hx]; exact rfl)

theorem hb_setN {H N : List (List AV)} {b : Nat} {X : List AV} (h : b < H.length) : (H.set b X ++ N)[b]? = some X := hg_old (hb_set h)
theorem snum_c2 (H : List (List AV)) (b : Nat) (l l' : List Nat) (hb : H[b]? = some (fl l')) (hl : l'.length = l.length) (xo xi : Int) (n : Nat) (hxI : VI l.length xo n xi) (hxR : RightP l.length xo n xi) (D : AV) (hD : mx D ≤ H.length) (mo ld : Int) (i : Nat) (hi : i < n) :
    CSpec Tryz.prog 161 [(.agg [D, .int .i64 mo, .int .i64 (n : Int), .int .i64 (n : Int), .int .i64 ld, (.slm b l.length 0 l.length 1), .int .i64 xo, .int .i64 (n : Int), .int .i64 xi]), .int .i64 (i : Int)] H (.eptr (.slm b l.length 0 l.length 1) (pos xo xi 0 i)) H := by
  have h := snum_c H b l' hb xo xi n (by rw [hl]; exact hxI) (by rw [hl]; exact hxR) D hD mo ld i hi
  rwa [hl] at h
theorem l_sv {P : Program} {e : List (Nat × EV)} {L : List (Nat × List AV)} {H N : List (List AV)} {K : St → Prop} {dd : Nat} {t : TypeId} {b : Nat} {l : List Nat} {xo xi : Int} {n : Nat} {f : Nat → Nat} {i : Nat} [ti : TyI P t 1 false] (hb : b < H.length) (hxR : RightP l.length xo n xi) (hi : i < n) (h : K ⟨(dd, .val (.flt (f i))) :: e, L, H.set b (fl (setV l xo xi n f)) ++ N⟩) :
    loadK P t dd K ⟨e, L, H.set b (fl (setV l xo xi n f)) ++ N⟩ (.val (.eptr (.slm b l.length 0 l.length 1) (pos xo xi 0 i))) :=
  l_bF hb (by simp) (by rw [Nat.zero_add]; simp; exact vpos_lt hxR hi) (by rw [Nat.zero_add, setV_get hxR hi]; exact h)
set_option maxHeartbeats 4000000 in
theorem sless_c (H H' : List (List AV)) (b : Nat) (l : List Nat) (hbl : b < H.length) (xo xi : Int) (n : Nat) (hxI : VI l.length xo n xi) (hxR : RightP l.length xo n xi) (D : AV) (hD : mx D ≤ H.length) (mo ld : Int) (f : Nat → Nat) (i k : Nat) (hi : i < n) (hk : k < n) (y : Nat) (g : Nat → Nat) (hg : ∀ t, t < n → updV f i (fsub (f i) (fmul y (f k))) t = g t) (hH : H.set b (fl (setV l xo xi n g)) = H') :
    CSpec Tryz.prog 159 [(.agg [D, .int .i64 mo, .int .i64 (n : Int), .int .i64 (n : Int), .int .i64 ld, (.slm b l.length 0 l.length 1), .int .i64 xo, .int .i64 (n : Int), .int .i64 xi]), .int .i64 (i : Int), .int .i64 (k : Int), .flt y] (H.set b (fl (setV l xo xi n f))) (.tup []) H' := by
  subst hH
  obtain ⟨vn, vo1, vo2, vn1, vn2, vi1, vi2⟩ := id hxI
  have hs : (setV l xo xi n f).set (pos xo xi 0 i) (fsub (f i) (fmul y (f k))) = setV l xo xi n g := by (rw [set_setV hxR hi]; exact setV_congr hxR.2.2.1 hxR.2.1 hg)
  refine .mk (fun args w => Tryz.call159 args w) (Spec.intro' (fn := Tryz.f159) Tryz.func159 rfl (by kernel_rfl) (by simp) false [] (draw := drawX Tryz.prog ⟨false, _, []⟩) dOk ?_)
  simp only [argE, Nat.reduceAdd]
  repeat' (first
    | (refine gateE ?_; (first | refine b_c0 ?_ | refine b_nil ?_ | fail))
    | (refine gateO ?_; (first | refine m14 ?_ | (refine m07 ?_; (first | refine m15 ?_ | refine m16 ?_ | refine l_sv hbl hxR hi ?_ | refine l_sv hbl hxR hk ?_ | fail)) | refine b_nilC (by (conv => {lhs; whnf}); done) ?_ | refine b_stB (X' := setV l xo xi n g) (by (conv => {lhs; whnf}); done) (by (conv => {lhs; whnf}); done) hbl (by simp) (by simp; exact vpos_lt hxR hi) (by rw [Nat.zero_add]; exact hs) ?_ | (refine m00 ?_; (first | refine m49 ?_ | refine m50 ?_ | refine v_k ?_ | refine m51 ?_ | fail)) | refine b_callB ?_ | refine m25 ?_ | refine m01 ?_ | fail))
    | (refine gateD ?_; (first | refine m36 ?_ | refine d_nil ?_ | fail))
    | (refine gateC ?_; (first | refine k_lt ?_ | refine k_fz ?_ | refine k_lb (by (conv => {lhs; whnf}); done) ?_ | refine k_ms ?_ | refine k_bx (by exact rfl) (by exact rfl) ?_ | refine m34 ?_ | refine m35 ?_ | refine m33 ?_ | refine k_mn ?_ | refine m56 ?_ | refine k_mnF ?_ | refine k_mnL (by exact rfl) ?_ | fail))
    | (refine gateT ?_; (first | refine b_thn ?_ | refine b_thr ?_ | refine b_the ?_ | fail))
    | (refine gateX ?_; (first | refine b_seq ?_ | refine b_region ?_ | (refine m06 ?_; (first | refine c_T ?_ | refine c_F ?_ | refine c_P ?_ ?_ | refine c_B ?_ ?_ | fail)) | refine b_ret ?_ | refine b_skip ?_ | refine b_block ?_ | refine b_exit ?_ | refine b_draw (id := 1) [] [14] [(0, .ld true), (1, .lt), (5, .lt), (6, .ld true), (7, .lt), (2, .mn true), (3, .lt), (4, .ld true), (8, .mn true), (9, .lt), (10, .ld true), (11, .lt), (12, .lt), (13, .lt), (14, .mn false)] (by kernel_rfl) ?_ | fail))
    | refine m21 ?_
    | refine a_nil ?_
    | (refine gateK ?_; (first | refine c_call (snum_c2 _ b l _ (hb_setN hbl) (by simp) xo xi n hxI hxR D (by simpa using hD) mo ld i hi) (OldOk.app (by simp)) ?_ | refine c_call (snum_c2 _ b l _ (hb_setN hbl) (by simp) xo xi n hxI hxR D (by simpa using hD) mo ld k hk) (OldOk.app (by simp)) ?_ | fail))
    | (refine gateQ ?_; refine m05 ?_)
    | (refine gateR ?_; (first | refine m04 ?_ | refine m02 ?_ | refine m03 ?_ | refine rk_nil ?_ | fail))
    | intro _)
  all_goals first
    | (refine rv_old (by simp) (by simp [mx, mxL, resOne]) ?_; exact rfl)

set_option maxHeartbeats 4000000 in
theorem srow_c (H : List (List AV)) (D : AV) (l : List Nat) (hF : FL H D l) (off n inc : Int) (hI : VI l.length off n inc) :
    CSpec Tryz.prog 157 [vt D off n inc] H (mt D off 1 n inc) H := by
  refine .mk (fun args w => Tryz.call157 args w) (Spec.intro' (fn := Tryz.f157) Tryz.func157 rfl (by kernel_rfl) (by simp) false [] (draw := drawX Tryz.prog ⟨false, _, []⟩) dOk ?_)
  simp only [argE, Nat.reduceAdd]
  repeat' (first
    | (refine gateE ?_; (first | refine b_c0 ?_ | refine b_nil ?_ | fail))
    | (refine gateO ?_; (first | (refine m17 ?_; first | refine m19 ?_ | refine m18 ?_) | (refine m07 ?_; (first | refine m15 ?_ | refine m16 ?_ | fail)) | refine m25 ?_ | refine m01 ?_ | refine m24 ?_ | refine b_build ?_ | fail))
    | (refine gateT ?_; (first | refine b_thn ?_ | refine b_thr ?_ | refine b_the ?_ | fail))
    | (refine gateX ?_; (first | refine b_seq ?_ | refine b_region ?_ | (refine m06 ?_; (first | refine c_T ?_ | refine c_F ?_ | refine c_P ?_ ?_ | refine c_B ?_ ?_ | fail)) | refine b_ret ?_ | refine b_skip ?_ | refine b_block ?_ | refine b_exit ?_ | fail))
    | refine m58 ?_
    | refine fk_nil ?_
    | (refine gateQ ?_; refine m05 ?_)
    | (refine gateR ?_; (first | refine m04 ?_ | refine m02 ?_ | refine m03 ?_ | refine rk_nil ?_ | fail))
    | intro _)
  all_goals first
    | (refine rv_old rfl (by have := hF.mx; simp [mx, mxL, resOne, aOf, aOf1]; omega) ?_; exact rfl)

set_option maxHeartbeats 4000000 in
theorem szero_n (H : List (List AV)) (D : AV) (l : List Nat) (hF : FL H D l) (mo ld : Int) (n : Nat) (hI : MI l.length mo n n ld) (hG : GoodP l.length mo n n ld) (hz : ∀ k, k < n → feq (mel l mo ld k k) 0 = false) :
    CSpec Tryz.prog 177 [mt D mo (n : Int) (n : Int) ld] H (.bool false) H := by
  obtain ⟨hm, ho1, ho2, hr1, hr2, hc1, hc2, hl1, hl2⟩ := id hI
  refine .mk (fun args w => Tryz.call177 args w) (Spec.intro' (fn := Tryz.f177) Tryz.func177 rfl (by kernel_rfl) (by simp) false [] (draw := drawX Tryz.prog ⟨false, _, []⟩) dOk ?_)
  simp only [argE, Nat.reduceAdd]
  repeat' (first
    | (refine gateE ?_; (first | refine b_c0 ?_ | refine b_nil ?_ | fail))
    | (refine gateO ?_; (first | refine m41 ?_ | refine b_moveI ?_ | refine m14 ?_ | (refine m17 ?_; first | refine m19 ?_ | refine m18 ?_) | (refine m07 ?_; (first | refine m15 ?_ | refine m16 ?_ | fail)) | (refine m45 ?_; (first | refine v_to ((k + 1 : Nat) : Int) (by omega) (by omega) ?_ | refine v_bbT (by exact rfl) ?_ | refine v_k ?_ | fail)) | (refine m00 ?_; (first | refine v_to ((k + 1 : Nat) : Int) (by omega) (by omega) ?_ | refine m52 ?_ | refine m53 ?_ | refine v_eP ?_ | refine m47 ?_ | refine m48 ?_ | refine m49 ?_ | refine m50 ?_ | refine v_k ?_ | refine m51 ?_ | fail)) | refine m42 ?_ | refine b_assignI ?_ | refine b_assignN ?_ | refine m08 ?_ | refine b_callB ?_ | refine m01 ?_ | fail))
    | (refine gateT ?_; (first | refine b_thn ?_ | refine b_thr ?_ | refine b_the ?_ | fail))
    | (refine gateX ?_; (first | refine b_seq ?_ | refine b_region ?_ | (refine m06 ?_; (first | refine c_T ?_ | refine c_F ?_ | refine c_P ?_ ?_ | refine c_B ?_ ?_ | fail)) | refine b_ret ?_ | refine b_skip ?_ | refine b_block ?_ | refine b_exit ?_ | (refine b_loop [1, 5, 6] n (fun k => ⟨[(1, .loc 1 0), (5, .val (.int .i64 ((n : Nat) : Int))), (6, .val (.int .i64 ((k : Nat) : Int)))], [(1, [D, .int .i64 mo, .int .i64 (n : Int), .int .i64 (n : Int), .int .i64 ld])], H ++ []⟩) (by exact rfl) ?_ ?_ <;> (first | intro k hk K hK | intro K) <;> (try dsimp only at *)) | fail))
    | refine m21 ?_
    | refine a_nil ?_
    | (refine gateK ?_; (first | refine c_call (vat_n _ D l (FL.app hF _) mo ld n hI hG k k (by omega) (by omega) _ rfl) (OldOk.app (by simp)) ?_ | fail))
    | (refine gateB ?_; (first | refine b_bln ?_ | refine b_blr ?_ | refine b_ble ?_ | refine m57 ?_ | fail))
    | (refine gateL ?_; (first | refine lp_n ?_ | refine lp_r ?_ | refine lp_e ?_ | fail))
    | (refine pr_k (by exact rfl) ?_; first | exact hK | (exact (feq2 hz1 (by assumption)).elim) | (exfalso; first | omega | (simp_all; done) | (simp_all; omega)))
    | (refine gateQ ?_; refine m05 ?_)
    | (refine gateR ?_; (first | refine m04 ?_ | refine m02 ?_ | refine m03 ?_ | refine rk_nil ?_ | fail))
    | intro _)
  all_goals first | refine rv_old rfl (by simp [mx, mxL, aOf, aOf1, resOne]) ?_ | (trace_state; fail)
  all_goals first
    | exact rfl
    | exact False.elim (feq0 (hz k (by omega)) (by assumption))
    | (exfalso; omega)

set_option maxHeartbeats 4000000 in
theorem tzero_n (H : List (List AV)) (D : AV) (l : List Nat) (hF : FL H D l) (mo ld : Int) (n : Nat) (hI : MI l.length mo n n ld) (hG : GoodP l.length mo n n ld) (kd : Int) (hz : (kd = 2 ∨ kd = 4) → ∀ k, k < n → feq (mel l mo ld k k) 0 = false) :
    CSpec Tryz.prog 158 [.int .i64 kd, mt D mo (n : Int) (n : Int) ld] H (.bool false) H := by
  obtain ⟨hm, ho1, ho2, hr1, hr2, hc1, hc2, hl1, hl2⟩ := id hI
  refine .mk (fun args w => Tryz.call158 args w) (Spec.intro' (fn := Tryz.f158) Tryz.func158 rfl (by kernel_rfl) (by simp) false [] (draw := drawX Tryz.prog ⟨false, _, []⟩) dOk ?_)
  simp only [argE, Nat.reduceAdd]
  repeat' (first
    | (refine gateE ?_; (first | refine b_c0 ?_ | refine b_nil ?_ | refine m13 ?_ | refine m12 ?_ | refine m11 ?_ | (refine m10 ?_; (first | refine g_TT ?_ | refine g_FF ?_ | refine g_TF ?_ | refine g_FT ?_ | refine g_PT ?_ ?_ | refine g_PF ?_ ?_ | refine g_BT ?_ ?_ | refine g_BF ?_ ?_ | fail)) | (refine m09 ?_; (first | refine g_TT ?_ | refine g_FF ?_ | refine g_TF ?_ | refine g_FT ?_ | refine g_PT ?_ ?_ | refine g_PF ?_ ?_ | refine g_BT ?_ ?_ | refine g_BF ?_ ?_ | fail)) | refine m38 ?_ | fail))
    | (refine gateO ?_; (first | refine m41 ?_ | refine b_moveI ?_ | refine m14 ?_ | (refine m17 ?_; first | refine m19 ?_ | refine m18 ?_) | (refine m07 ?_; (first | refine m15 ?_ | refine m16 ?_ | fail)) | (refine m45 ?_; (first | refine v_to ((k + 1 : Nat) : Int) (by omega) (by omega) ?_ | refine v_bbT (by exact rfl) ?_ | refine v_k ?_ | fail)) | (refine m00 ?_; (first | refine v_to ((k + 1 : Nat) : Int) (by omega) (by omega) ?_ | refine m52 ?_ | refine m53 ?_ | refine v_eP ?_ | refine m47 ?_ | refine m48 ?_ | refine m49 ?_ | refine m50 ?_ | refine v_k ?_ | refine m51 ?_ | fail)) | (refine m22 ?_; (first | refine m26 ?_ | refine m27 ?_ | fail)) | refine m42 ?_ | refine b_assignI ?_ | refine b_assignN ?_ | refine m08 ?_ | refine b_callB ?_ | refine m01 ?_ | fail))
    | (refine gateT ?_; (first | refine b_thn ?_ | refine b_thr ?_ | refine b_the ?_ | fail))
    | (refine gateX ?_; (first | refine b_seq ?_ | refine b_region ?_ | (refine m06 ?_; (first | refine c_T ?_ | refine c_F ?_ | refine c_P ?_ ?_ | refine c_B ?_ ?_ | fail)) | refine b_ret ?_ | refine b_skip ?_ | refine b_block ?_ | refine b_exit ?_ | (refine b_loop [0, 3, 7, 8] n (fun k => ⟨[(0, .val (.int .i64 kd)), (3, .loc 3 0), (7, .val (.int .i64 ((n : Nat) : Int))), (8, .val (.int .i64 ((k : Nat) : Int)))], [(3, [D, .int .i64 mo, .int .i64 (n : Int), .int .i64 (n : Int), .int .i64 ld])], H ++ []⟩) (by exact rfl) ?_ ?_ <;> (first | intro k hk K hK | intro K) <;> (try dsimp only at *)) | fail))
    | refine m21 ?_
    | refine a_nil ?_
    | (refine gateK ?_; (first | refine c_call (vat_n _ D l (FL.app hF _) mo ld n hI hG k k (by omega) (by omega) _ rfl) (OldOk.app (by simp)) ?_ | fail))
    | (refine gateB ?_; (first | refine b_bln ?_ | refine b_blr ?_ | refine b_ble ?_ | refine m57 ?_ | fail))
    | (refine gateL ?_; (first | refine lp_n ?_ | refine lp_r ?_ | refine lp_e ?_ | fail))
    | (refine pr_k (by exact rfl) ?_; first | exact hK | (exact (feq2 hz1 (by assumption)).elim) | (exfalso; first | omega | (simp_all; done) | (simp_all; omega)))
    | (refine gateQ ?_; refine m05 ?_)
    | (refine gateR ?_; (first | refine m04 ?_ | refine m02 ?_ | refine m03 ?_ | refine rk_nil ?_ | fail))
    | intro _)
  all_goals first | refine rv_old rfl (by simp [mx, mxL, aOf, aOf1, resOne]) ?_ | (trace_state; fail)
  all_goals first
    | exact rfl
    | exact False.elim (feq0 (hz (by omega) k (by omega)) (by assumption))
    | (exfalso; omega)

end
section
variable (H : List (List AV)) (b : Nat) (l : List Nat) (hbl : b < H.length) (xo xi : Int) (n : Nat) (hxI : VI l.length xo n xi) (hxR : RightP l.length xo n xi) (D : AV) (hD : mx D ≤ H.length) (ml : Nat) (mo ld : Int) (hI : MI ml mo n n ld) (hG : GoodP ml mo n n ld) (a : Nat → Nat → Nat) (hrd : ∀ f, ∃ l', FL (H.set b (fl (setV l xo xi n f))) D l' ∧ l'.length = ml ∧ ∀ i j, i < n → j < n → mel l' mo ld i j = a i j)
include hbl hxI hxR hD hI hG hrd in
theorem sat_s (f : Nat → Nat) (N : List (List AV)) (i j : Nat) (hi : i < n) (hj : j < n) (ii jj : Int) (hii : ii = (i : Int)) (hjj : jj = (j : Int)) :
    CSpec Tryz.prog 160 [(.agg [D, .int .i64 mo, .int .i64 (n : Int), .int .i64 (n : Int), .int .i64 ld, (.slm b l.length 0 l.length 1), .int .i64 xo, .int .i64 (n : Int), .int .i64 xi]), .int .i64 ii, .int .i64 jj] (H.set b (fl (setV l xo xi n f)) ++ N) (.flt (a i j)) (H.set b (fl (setV l xo xi n f)) ++ N) := by
  subst hii hjj
  obtain ⟨l', h1, h2, h3⟩ := hrd f
  subst h2
  exact sat_c _ D l' (h1.app N) mo ld n hI hG _ xo xi i j hi hj _ (h3 i j hi hj)
end
section
variable (H : List (List AV)) (b : Nat) (l : List Nat) (hbl : b < H.length) (xo xi : Int) (n : Nat) (hxI : VI l.length xo n xi) (hxR : RightP l.length xo n xi) (D : AV) (hD : mx D ≤ H.length) (ml : Nat) (mo ld : Int) (hI : MI ml mo n n ld) (hG : GoodP ml mo n n ld) (a : Nat → Nat → Nat) (hrd : ∀ f, ∃ l', FL (H.set b (fl (setV l xo xi n f))) D l' ∧ l'.length = ml ∧ ∀ i j, i < n → j < n → mel l' mo ld i j = a i j)
include hbl hxI hxR hD hI hG hrd in
theorem snum_s (f : Nat → Nat) (N : List (List AV)) (i : Nat) (hi : i < n) (ii : Int) (hii : ii = (i : Int)) :
    CSpec Tryz.prog 161 [(.agg [D, .int .i64 mo, .int .i64 (n : Int), .int .i64 (n : Int), .int .i64 ld, (.slm b l.length 0 l.length 1), .int .i64 xo, .int .i64 (n : Int), .int .i64 xi]), .int .i64 ii] (H.set b (fl (setV l xo xi n f)) ++ N) (.eptr (.slm b l.length 0 l.length 1) (pos xo xi 0 i)) (H.set b (fl (setV l xo xi n f)) ++ N) := by
  subst hii
  exact snum_c2 _ b l _ (hb_setN hbl) (by simp) xo xi n hxI hxR D (by simp; omega) mo ld i hi
end
section
variable (H : List (List AV)) (b : Nat) (l : List Nat) (hbl : b < H.length) (xo xi : Int) (n : Nat) (hxI : VI l.length xo n xi) (hxR : RightP l.length xo n xi) (D : AV) (hD : mx D ≤ H.length) (ml : Nat) (mo ld : Int) (hI : MI ml mo n n ld) (hG : GoodP ml mo n n ld) (a : Nat → Nat → Nat) (hrd : ∀ f, ∃ l', FL (H.set b (fl (setV l xo xi n f))) D l' ∧ l'.length = ml ∧ ∀ i j, i < n → j < n → mel l' mo ld i j = a i j)
include hbl hxI hxR hD hI hG hrd in
theorem sless_s (f g : Nat → Nat) (N : List (List AV)) (i k : Nat) (hi : i < n) (hk : k < n) (ii kk : Int) (hii : ii = (i : Int)) (hkk : kk = (k : Int)) (y : Nat) (hg : ∀ t, t < n → updV f i (fsub (f i) (fmul y (f k))) t = g t) :
    CSpec Tryz.prog 159 [(.agg [D, .int .i64 mo, .int .i64 (n : Int), .int .i64 (n : Int), .int .i64 ld, (.slm b l.length 0 l.length 1), .int .i64 xo, .int .i64 (n : Int), .int .i64 xi]), .int .i64 ii, .int .i64 kk, .flt y] (H.set b (fl (setV l xo xi n f)) ++ N) (.tup []) (H.set b (fl (setV l xo xi n g)) ++ N) := by
  subst hii hkk
  have h := sless_c (H ++ N) _ b l (by simp; omega) xo xi n hxI hxR D (by simp; omega) mo ld f i k hi hk y g hg rfl
  rwa [hs_old hbl, hs_old hbl] at h
end
section
variable (H : List (List AV)) (b : Nat) (l : List Nat) (hbl : b < H.length) (xo xi : Int) (n : Nat) (hxI : VI l.length xo n xi) (hxR : RightP l.length xo n xi) (D : AV) (hD : mx D ≤ H.length) (ml : Nat) (mo ld : Int) (hI : MI ml mo n n ld) (hG : GoodP ml mo n n ld) (a : Nat → Nat → Nat) (hrd : ∀ f, ∃ l', FL (H.set b (fl (setV l xo xi n f))) D l' ∧ l'.length = ml ∧ ∀ i j, i < n → j < n → mel l' mo ld i j = a i j)
include hbl hxI hxR hD hI hG hrd in
theorem sright_s (f : Nat → Nat) (N : List (List AV)) : CSpec Tryz.prog 141 [vt (.slm b l.length 0 l.length 1) xo (n : Int) xi] (H.set b (fl (setV l xo xi n f)) ++ N) (.bool true) (H.set b (fl (setV l xo xi n f)) ++ N) := by
  have hF : FL (H.set b (fl (setV l xo xi n f)) ++ N) (.slm b l.length 0 l.length 1) (setV l xo xi n f) := FL.set hbl (by simp) (by simp)
  have h := right_c _ _ _ hF xo n xi (by simpa using hxI)
  rwa [decide_eq_true (by simpa using hxR)] at h
end
section
variable (H : List (List AV)) (b : Nat) (l : List Nat) (hbl : b < H.length) (xo xi : Int) (n : Nat) (hxI : VI l.length xo n xi) (hxR : RightP l.length xo n xi) (D : AV) (hD : mx D ≤ H.length) (ml : Nat) (mo ld : Int) (hI : MI ml mo n n ld) (hG : GoodP ml mo n n ld) (a : Nat → Nat → Nat) (hrd : ∀ f, ∃ l', FL (H.set b (fl (setV l xo xi n f))) D l' ∧ l'.length = ml ∧ ∀ i j, i < n → j < n → mel l' mo ld i j = a i j)
include hbl hxI hxR hD hI hG hrd in
theorem srow_s (f : Nat → Nat) (N : List (List AV)) : CSpec Tryz.prog 157 [vt (.slm b l.length 0 l.length 1) xo (n : Int) xi] (H.set b (fl (setV l xo xi n f)) ++ N) (mt (.slm b l.length 0 l.length 1) xo 1 (n : Int) xi) (H.set b (fl (setV l xo xi n f)) ++ N) :=
  srow_c _ _ (setV l xo xi n f) (FL.set hbl (by simp) (by simp)) xo n xi (by simpa using hxI)
end
section
variable (H : List (List AV)) (b : Nat) (l : List Nat) (hbl : b < H.length) (xo xi : Int) (n : Nat) (hxI : VI l.length xo n xi) (hxR : RightP l.length xo n xi) (D : AV) (hD : mx D ≤ H.length) (ml : Nat) (mo ld : Int) (hI : MI ml mo n n ld) (hG : GoodP ml mo n n ld) (a : Nat → Nat → Nat) (hrd : ∀ f, ∃ l', FL (H.set b (fl (setV l xo xi n f))) D l' ∧ l'.length = ml ∧ ∀ i j, i < n → j < n → mel l' mo ld i j = a i j)
include hbl hxI hxR hD hI hG hrd in
theorem sgood_s (f : Nat → Nat) (N : List (List AV)) : CSpec Tryz.prog 51 [mt D mo (n : Int) (n : Int) ld] (H.set b (fl (setV l xo xi n f)) ++ N) (.bool true) (H.set b (fl (setV l xo xi n f)) ++ N) := by
  obtain ⟨l', h1, h2, h3⟩ := hrd f
  have h := good_c (H.set b (fl (setV l xo xi n f)) ++ N) D ml mo n n ld (h2 ▸ h1.len) hI
  rwa [decide_eq_true hG] at h
end
section
variable (H : List (List AV)) (b : Nat) (l : List Nat) (hbl : b < H.length) (xo xi : Int) (n : Nat) (hxI : VI l.length xo n xi) (hxR : RightP l.length xo n xi) (D : AV) (hD : mx D ≤ H.length) (ml : Nat) (mo ld : Int) (hI : MI ml mo n n ld) (hG : GoodP ml mo n n ld) (a : Nat → Nat → Nat) (hrd : ∀ f, ∃ l', FL (H.set b (fl (setV l xo xi n f))) D l' ∧ l'.length = ml ∧ ∀ i j, i < n → j < n → mel l' mo ld i j = a i j)
include hbl hxI hxR hD hI hG hrd in
theorem tzero_s (f : Nat → Nat) (N : List (List AV)) (kd : Int) (hz : (kd = 2 ∨ kd = 4) → ∀ k, k < n → feq (a k k) 0 = false) : CSpec Tryz.prog 158 [.int .i64 kd, mt D mo (n : Int) (n : Int) ld] (H.set b (fl (setV l xo xi n f)) ++ N) (.bool false) (H.set b (fl (setV l xo xi n f)) ++ N) := by
  obtain ⟨l', h1, h2, h3⟩ := hrd f
  subst h2
  exact tzero_n _ D l' (h1.app N) mo ld n hI hG kd (fun h k hk => by rw [h3 k k hk hk]; exact hz h k hk)
end
section
attribute [local irreducible] Ex exOps exD opX opE thenX blkX RetQ Spec CSpec Fr condK guardK guardD ckK valK pickK loadK faK callK argK gK fK rK RetV lpX prK
set_option maxHeartbeats 4000000 in
theorem ssquare_s (H : List (List AV)) (b : Nat) (l : List Nat) (hbl : b < H.length) (xo xi : Int) (n : Nat) (hxI : VI l.length xo n xi) (hxR : RightP l.length xo n xi) (D : AV) (hD : mx D ≤ H.length) (ml : Nat) (mo ld : Int) (hI : MI ml mo n n ld) (hG : GoodP ml mo n n ld) (a : Nat → Nat → Nat) (hrd : ∀ f, ∃ l', FL (H.set b (fl (setV l xo xi n f))) D l' ∧ l'.length = ml ∧ ∀ i j, i < n → j < n → mel l' mo ld i j = a i j) (f : Nat → Nat) (kd : Int) (hk1 : 1 ≤ kd) (hk4 : kd ≤ 4) :
    CSpec Tryz.prog 156 [.int .i64 kd, mt D mo (n : Int) (n : Int) ld, .int .i64 (n : Int)] (H.set b (fl (setV l xo xi n f))) (.int .i64 0) (H.set b (fl (setV l xo xi n f))) := by
  obtain ⟨hm, ho1, ho2, hr1, hr2, hc1, hc2, hl1, hl2⟩ := id hI
  refine .mk (fun args w => Tryz.call156 args w) (Spec.intro' (fn := Tryz.f156) Tryz.func156 rfl (by kernel_rfl) (by simp) false [] (draw := drawX Tryz.prog ⟨false, _, []⟩) dOk ?_)
  simp only [argE, Nat.reduceAdd]
  repeat' (first
    | (refine gateE ?_; (first | refine b_c0 ?_ | refine b_nil ?_ | refine m13 ?_ | refine m12 ?_ | refine m11 ?_ | (refine m10 ?_; (first | refine g_TT ?_ | refine g_FF ?_ | refine g_TF ?_ | refine g_FT ?_ | refine g_PT ?_ ?_ | refine g_PF ?_ ?_ | refine g_BT ?_ ?_ | refine g_BF ?_ ?_ | fail)) | (refine m09 ?_; (first | refine g_TT ?_ | refine g_FF ?_ | refine g_TF ?_ | refine g_FT ?_ | refine g_PT ?_ ?_ | refine g_PF ?_ ?_ | refine g_BT ?_ ?_ | refine g_BF ?_ ?_ | fail)) | refine m38 ?_ | fail))
    | (refine gateO ?_; (first | refine m14 ?_ | (refine m17 ?_; first | refine m19 ?_ | refine m18 ?_) | (refine m07 ?_; (first | refine m15 ?_ | refine m16 ?_ | fail)) | (refine m00 ?_; (first | refine m54 ?_ | refine m55 ?_ | refine v_neP ?_ | refine m47 ?_ | refine m48 ?_ | refine m49 ?_ | refine m50 ?_ | refine v_nT ?_ | refine v_nF ?_ | refine v_nP ?_ | refine v_k ?_ | refine m51 ?_ | fail)) | (refine m22 ?_; (first | refine m26 ?_ | refine m27 ?_ | fail)) | refine m42 ?_ | refine b_assignI ?_ | refine b_assignN ?_ | refine m08 ?_ | (refine m20 ?_; (first | refine m54 ?_ | refine m55 ?_ | refine v_neP ?_ | refine m47 ?_ | refine m48 ?_ | refine m49 ?_ | refine m50 ?_ | refine v_nT ?_ | refine v_nF ?_ | refine v_nP ?_ | refine v_k ?_ | refine m51 ?_ | fail)) | refine b_callB ?_ | refine m01 ?_ | fail))
    | (refine gateT ?_; (first | refine b_thn ?_ | refine b_thr ?_ | refine b_the ?_ | fail))
    | (refine gateX ?_; (first | refine b_seq ?_ | refine b_region ?_ | (refine m06 ?_; (first | refine c_T ?_ | refine c_F ?_ | refine c_P ?_ ?_ | refine c_B ?_ ?_ | fail)) | refine b_ret ?_ | refine b_skip ?_ | refine b_block ?_ | refine b_exit ?_ | fail))
    | refine m21 ?_
    | refine a_nil ?_
    | (refine gateK ?_; (first | refine c_call (sgood_s H b l hbl xo xi n hxI hxR D hD ml mo ld hI hG a hrd f []) (OldOk.app (by simp)) ?_ | fail))
    | (refine gateB ?_; (first | refine b_bln ?_ | refine b_blr ?_ | refine b_ble ?_ | refine m57 ?_ | fail))
    | (refine gateQ ?_; refine m05 ?_)
    | (refine gateR ?_; (first | refine m04 ?_ | refine m02 ?_ | refine m03 ?_ | refine rk_nil ?_ | fail))
    | intro _)
  all_goals first
    | (exfalso; contradiction)
    | (exfalso; omega)
    | (refine rv_old (by simp) (by simp [mx, mxL, resOne, aOf, aOf1]) ?_; exact rfl)


theorem ssquare_n (H : List (List AV)) (b : Nat) (l : List Nat) (hbl : b < H.length) (xo xi : Int) (n : Nat) (hxI : VI l.length xo n xi) (hxR : RightP l.length xo n xi) (D : AV) (hD : mx D ≤ H.length) (ml : Nat) (mo ld : Int) (hI : MI ml mo n n ld) (hG : GoodP ml mo n n ld) (a : Nat → Nat → Nat) (hrd : ∀ f, ∃ l', FL (H.set b (fl (setV l xo xi n f))) D l' ∧ l'.length = ml ∧ ∀ i j, i < n → j < n → mel l' mo ld i j = a i j) (f : Nat → Nat) (N : List (List AV)) (kd : Int) (hk1 : 1 ≤ kd) (hk4 : kd ≤ 4) : CSpec Tryz.prog 156 [.int .i64 kd, mt D mo (n : Int) (n : Int) ld, .int .i64 (n : Int)] (H.set b (fl (setV l xo xi n f)) ++ N) (.int .i64 0) (H.set b (fl (setV l xo xi n f)) ++ N) := by
  have hs : ∀ X, (H ++ N).set b X = H.set b X ++ N := fun X => hs_old hbl
  have h := ssquare_s (H ++ N) b l (by simp; omega) xo xi n hxI hxR D (by simp; omega) ml mo ld hI hG a (fun f => by obtain ⟨l', h1, h2⟩ := hrd f; rw [hs]; exact ⟨l', h1.app N, h2⟩) f kd hk1 hk4
  rwa [hs] at h
set_option maxHeartbeats 4000000 in
theorem tsol_1 (H : List (List AV)) (b : Nat) (l : List Nat) (hbl : b < H.length) (xo xi : Int) (n : Nat) (hxI : VI l.length xo n xi) (hxR : RightP l.length xo n xi) (D : AV) (hD : mx D ≤ H.length) (ml : Nat) (mo ld : Int) (hI : MI ml mo n n ld) (hG : GoodP ml mo n n ld) (a : Nat → Nat → Nat) (hrd : ∀ f, ∃ l', FL (H.set b (fl (setV l xo xi n f))) D l' ∧ l'.length = ml ∧ ∀ i j, i < n → j < n → mel l' mo ld i j = a i j) (hmeet : ∀ f N, CSpec Tryz.prog 142 [mt (.slm b l.length 0 l.length 1) xo 1 (n : Int) xi, mt D mo (n : Int) (n : Int) ld] (H.set b (fl (setV l xo xi n f)) ++ N) (.bool false) (H.set b (fl (setV l xo xi n f)) ++ N)) (f : Nat → Nat) :
    CSpec Tryz.prog 105 [.int .i64 1, mt D mo (n : Int) (n : Int) ld, vt (.slm b l.length 0 l.length 1) xo (n : Int) xi] (H.set b (fl (setV l xo xi n f))) (.int .i64 0) (H.set b (fl (setV l xo xi n (lo1 a f n)))) := by
  obtain ⟨hm, ho1, ho2, hr1, hr2, hc1, hc2, hl1, hl2⟩ := id hI
  obtain ⟨vn, vo1, vo2, vn1, vn2, vi1, vi2⟩ := id hxI
  have hA : ∀ k, (setV l xo xi n (lo1P a f k (k + 1 + 0))) = (setV l xo xi n (lo1 a f k)) := fun k => setV_congr hxR.2.2.1 hxR.2.1 fun i hi => lo1P_first i
  have hB : ∀ k, k < n → (setV l xo xi n (lo1P a f k (k + 1 + (n - (k + 1))))) = (setV l xo xi n (lo1 a f (k + 1))) := fun k hk => (by rw [show k + 1 + (n - (k + 1)) = n by omega]; exact setV_congr hxR.2.2.1 hxR.2.1 fun i hi => lo1P_last i hi)
  refine .mk (fun args w => Tryz.call105 args w) (Spec.intro' (fn := Tryz.f105) Tryz.func105 rfl (by kernel_rfl) (by simp) false [] (draw := drawX Tryz.prog ⟨false, _, []⟩) dOk ?_)
  simp only [argE, Nat.reduceAdd]
  repeat' (first
    | (refine gateE ?_; (first | refine b_c0 ?_ | refine b_nil ?_ | fail))
    | (refine gateO ?_; (first | refine m41 ?_ | refine b_moveI ?_ | refine m14 ?_ | (refine m17 ?_; first | refine m19 ?_ | refine m18 ?_) | (refine m07 ?_; (first | refine m15 ?_ | refine m16 ?_ | fail)) | refine b_nilC (by (conv => {lhs; whnf}); done) ?_ | (refine m45 ?_; (first | refine v_to ((k + 1 : Nat) : Int) (by omega) (by omega) ?_ | refine v_to ((k + 1 + t + 1 : Nat) : Int) (by omega) (by omega) ?_ | refine v_bbT (by exact rfl) ?_ | refine v_k ?_ | fail)) | (refine m00 ?_; (first | refine v_to ((k + 1 : Nat) : Int) (by omega) (by omega) ?_ | refine v_to ((k + 1 + t + 1 : Nat) : Int) (by omega) (by omega) ?_ | refine m52 ?_ | refine m53 ?_ | refine v_eP ?_ | refine m54 ?_ | refine m55 ?_ | refine v_neP ?_ | refine m47 ?_ | refine m48 ?_ | refine m49 ?_ | refine m50 ?_ | refine v_qc (by omega) (by omega) ?_ | refine v_nT ?_ | refine v_nF ?_ | refine v_nP ?_ | refine v_k ?_ | refine m51 ?_ | fail)) | refine m42 ?_ | refine b_assignI ?_ | refine b_assignN ?_ | refine m08 ?_ | (refine m20 ?_; (first | refine v_to ((k + 1 : Nat) : Int) (by omega) (by omega) ?_ | refine v_to ((k + 1 + t + 1 : Nat) : Int) (by omega) (by omega) ?_ | refine m52 ?_ | refine m53 ?_ | refine v_eP ?_ | refine m54 ?_ | refine m55 ?_ | refine v_neP ?_ | refine m47 ?_ | refine m48 ?_ | refine m49 ?_ | refine m50 ?_ | refine v_qc (by omega) (by omega) ?_ | refine v_nT ?_ | refine v_nF ?_ | refine v_nP ?_ | refine v_k ?_ | refine m51 ?_ | fail)) | refine b_callB ?_ | refine m25 ?_ | refine m01 ?_ | refine m24 ?_ | refine b_build ?_ | fail))
    | (refine gateD ?_; (first | refine m36 ?_ | refine d_nil ?_ | fail))
    | (refine gateC ?_; (first | refine k_lt ?_ | refine k_fz ?_ | refine k_lb (by (conv => {lhs; whnf}); done) ?_ | refine k_ms ?_ | refine k_bx (by exact rfl) (by exact rfl) ?_ | refine m34 ?_ | refine m35 ?_ | refine m33 ?_ | refine k_mn ?_ | refine m56 ?_ | refine k_mnF ?_ | refine k_mnL (by exact rfl) ?_ | fail))
    | (refine gateT ?_; (first | refine b_thn ?_ | refine b_thr ?_ | refine b_the ?_ | fail))
    | (refine gateX ?_; (first | refine b_seq ?_ | refine b_region ?_ | (refine m06 ?_; (first | refine c_T ?_ | refine c_F ?_ | refine c_P ?_ ?_ | refine c_B ?_ ?_ | fail)) | refine b_ret ?_ | refine b_skip ?_ | refine b_block ?_ | refine b_exit ?_ | refine b_draw (id := 6) [] [] [(0, .ld true), (2, .ld true), (1, .mn true), (3, .mn true), (4, .lt)] (by kernel_rfl) ?_ | refine b_draw (id := 10) [8] [] [(0, .ld true), (1, .ld true), (2, .lt), (3, .lt), (4, .ld true), (5, .bx), (6, .mn true), (7, .lt)] (by kernel_rfl) ?_ | refine b_draw (id := 19) [] [7] [(0, .ld true), (1, .lt), (2, .lt), (3, .ld true), (4, .lt), (5, .lt), (6, .mn true), (7, .mn false)] (by kernel_rfl) ?_ | refine b_draw (id := 25) [] [11] [(0, .ld true), (1, .lt), (5, .ld true), (6, .lt), (7, .lt), (2, .mn true), (3, .lt), (4, .ld true), (8, .mn true), (9, .lt), (10, .lt), (11, .mn false)] (by kernel_rfl) ?_ | refine b_draw (id := 29) [] [7] [(0, .ld true), (1, .lt), (2, .lt), (3, .ld true), (4, .lt), (5, .lt), (6, .mn true), (7, .mn false)] (by kernel_rfl) ?_ | refine b_draw (id := 38) [] [7] [(0, .ld true), (1, .lt), (2, .lt), (3, .ld true), (4, .lt), (5, .lt), (6, .mn true), (7, .mn false)] (by kernel_rfl) ?_ | refine b_draw (id := 46) [] [7] [(0, .ld true), (1, .lt), (2, .lt), (3, .ld true), (4, .lt), (5, .lt), (6, .mn true), (7, .mn false)] (by kernel_rfl) ?_ | refine b_draw (id := 48) [] [11] [(0, .ld true), (1, .lt), (5, .ld true), (6, .lt), (7, .lt), (2, .mn true), (3, .lt), (4, .ld true), (8, .mn true), (9, .lt), (10, .lt), (11, .mn false)] (by kernel_rfl) ?_ | (refine b_loop [8, 9, 10, 11, 46, 47] (n - (k + 1)) (fun t => ⟨[(8, .loc 8 0), (9, .val (.int .i64 ((n : Nat) : Int))), (10, .val (.int .i64 ((k : Nat) : Int))), (11, .val (.int .i64 ((k + 1 + t : Nat) : Int))), (46, .val (.int .i64 ((n : Nat) : Int))), (47, .val (.int .i64 ((k : Nat) : Int)))], [(8, [D, .int .i64 mo, .int .i64 (n : Int), .int .i64 (n : Int), .int .i64 ld, (.slm b l.length 0 l.length 1), .int .i64 xo, .int .i64 (n : Int), .int .i64 xi])], H.set b (fl (setV l xo xi n (lo1P a f k (k + 1 + t)))) ++ []⟩) (by simp only [hA]; exact rfl) ?_ ?_ <;> (first | intro t ht K hK | intro K) <;> (try dsimp only at *)) | (refine b_loop [8, 9, 46, 47] n (fun k => ⟨[(8, .loc 8 0), (9, .val (.int .i64 ((n : Nat) : Int))), (46, .val (.int .i64 ((n : Nat) : Int))), (47, .val (.int .i64 ((k : Nat) : Int)))], [(8, [D, .int .i64 mo, .int .i64 (n : Int), .int .i64 (n : Int), .int .i64 ld, (.slm b l.length 0 l.length 1), .int .i64 xo, .int .i64 (n : Int), .int .i64 xi])], H.set b (fl (setV l xo xi n (lo1 a f k))) ++ []⟩) (by exact rfl) ?_ ?_ <;> (first | intro k hk K hK | intro K) <;> (try dsimp only at *)) | fail))
    | refine m21 ?_
    | refine a_nil ?_
    | (refine gateK ?_; (first | refine c_call (sright_s H b l hbl xo xi n hxI hxR D hD ml mo ld hI hG a hrd f []) (OldOk.app (by simp)) ?_ | refine c_call (ssquare_n H b l hbl xo xi n hxI hxR D hD ml mo ld hI hG a hrd f [] 1 (by omega) (by omega)) (OldOk.app (by simp)) ?_ | refine c_call (srow_s H b l hbl xo xi n hxI hxR D hD ml mo ld hI hG a hrd f []) (OldOk.app (by simp)) ?_ | refine c_call (hmeet f []) (OldOk.app (by simp)) ?_ | refine c_call (tzero_s H b l hbl xo xi n hxI hxR D hD ml mo ld hI hG a hrd f [] 1 (fun h => absurd h (by omega))) (OldOk.app (by simp)) ?_ | refine c_call (sat_s H b l hbl xo xi n hxI hxR D hD ml mo ld hI hG a hrd _ [] (k + 1 + t) (k) (by omega) (by omega) _ _ (by omega) (by omega)) (OldOk.app (by simp)) ?_ | refine c_call (sless_s H b l hbl xo xi n hxI hxR D hD ml mo ld hI hG a hrd (lo1P a f k (k + 1 + t)) (lo1P a f k (k + 1 + t + 1)) [] (k + 1 + t) (k) (by omega) (by omega) _ _ (by omega) (by omega) _ (fun t' ht' => lo1P_step (by omega) t')) (OldOk.set2 hbl (by simp) (by rw [mxL_fl]; omega)) ?_ | fail))
    | refine m58 ?_
    | refine fk_nil ?_
    | (refine gateB ?_; (first | refine b_bln ?_ | refine b_blr ?_ | refine b_ble ?_ | refine m57 ?_ | fail))
    | (refine gateL ?_; (first | refine lp_n ?_ | refine lp_r ?_ | refine lp_e ?_ | fail))
    | (refine pr_k (by exact rfl) ?_; first | exact hK | (rw [hB k (by omega)]; exact hK) | (exfalso; first | omega | (simp_all; done) | (simp_all; omega)))
    | (refine gateQ ?_; refine m05 ?_)
    | (refine gateR ?_; (first | refine m04 ?_ | refine m02 ?_ | refine m03 ?_ | refine rk_nil ?_ | fail))
    | intro _)
  all_goals first
    | (exfalso; contradiction)
    | (exfalso; omega)
    | (refine rv_old (by simp) (by simp [mx, mxL, resOne, aOf, aOf1]) ?_; exact rfl)

set_option maxHeartbeats 4000000 in
theorem tsol_2 (H : List (List AV)) (b : Nat) (l : List Nat) (hbl : b < H.length) (xo xi : Int) (n : Nat) (hxI : VI l.length xo n xi) (hxR : RightP l.length xo n xi) (D : AV) (hD : mx D ≤ H.length) (ml : Nat) (mo ld : Int) (hI : MI ml mo n n ld) (hG : GoodP ml mo n n ld) (a : Nat → Nat → Nat) (hrd : ∀ f, ∃ l', FL (H.set b (fl (setV l xo xi n f))) D l' ∧ l'.length = ml ∧ ∀ i j, i < n → j < n → mel l' mo ld i j = a i j) (hmeet : ∀ f N, CSpec Tryz.prog 142 [mt (.slm b l.length 0 l.length 1) xo 1 (n : Int) xi, mt D mo (n : Int) (n : Int) ld] (H.set b (fl (setV l xo xi n f)) ++ N) (.bool false) (H.set b (fl (setV l xo xi n f)) ++ N)) (f : Nat → Nat) (hz : ∀ k, k < n → feq (a k k) 0 = false) :
    CSpec Tryz.prog 105 [.int .i64 2, mt D mo (n : Int) (n : Int) ld, vt (.slm b l.length 0 l.length 1) xo (n : Int) xi] (H.set b (fl (setV l xo xi n f))) (.int .i64 0) (H.set b (fl (setV l xo xi n (up2 a f n n)))) := by
  obtain ⟨hm, ho1, ho2, hr1, hr2, hc1, hc2, hl1, hl2⟩ := id hI
  obtain ⟨vn, vo1, vo2, vn1, vn2, vi1, vi2⟩ := id hxI
  have hA : ∀ k, k < n → (setV l xo xi n (up2 a f n k)).set (0 + pos xo xi 0 (n - 1 - k)) (fdiv (up2 a f n k (n - 1 - k)) (a (n - 1 - k) (n - 1 - k))) = (setV l xo xi n (up2P a f n k 0)) := fun k hk => (by rw [Nat.zero_add, set_setV hxR (by omega)]; exact setV_congr hxR.2.2.1 hxR.2.1 fun i hi => up2P_first i)
  have hB : ∀ k, (setV l xo xi n (up2P a f n k (n - 1 - k))) = (setV l xo xi n (up2 a f n (k + 1))) := fun k => setV_congr hxR.2.2.1 hxR.2.1 fun i hi => up2P_last i
  refine .mk (fun args w => Tryz.call105 args w) (Spec.intro' (fn := Tryz.f105) Tryz.func105 rfl (by kernel_rfl) (by simp) false [] (draw := drawX Tryz.prog ⟨false, _, []⟩) dOk ?_)
  simp only [argE, Nat.reduceAdd]
  repeat' (first
    | (refine gateE ?_; (first | refine b_c0 ?_ | refine b_nil ?_ | fail))
    | (refine gateO ?_; (first | refine m41 ?_ | refine b_moveI ?_ | refine m14 ?_ | (refine m17 ?_; first | refine m19 ?_ | refine m18 ?_) | (refine m07 ?_; (first | refine m15 ?_ | refine m16 ?_ | refine l_sv hbl hxR (show n - 1 - k < n by omega) ?_ | fail)) | refine b_nilC (by (conv => {lhs; whnf}); done) ?_ | refine b_stB (X' := (setV l xo xi n (up2P a f n k 0))) (by (conv => {lhs; whnf}); done) (by (conv => {lhs; whnf}); done) hbl (by simp) (by simp; exact vpos_lt hxR (by omega)) (by exact hA k (by omega)) ?_ | (refine m45 ?_; (first | refine v_to ((t + 1 : Nat) : Int) (by omega) (by omega) ?_ | refine v_to ((n : Int) - 1 - ((k + 1 : Nat) : Int)) (by omega) (by omega) ?_ | refine v_to ((n : Int) - 1 - ((0 : Nat) : Int)) (by omega) (by omega) ?_ | refine v_bbT (by exact rfl) ?_ | refine v_k ?_ | fail)) | (refine m00 ?_; (first | refine v_to ((t + 1 : Nat) : Int) (by omega) (by omega) ?_ | refine v_to ((n : Int) - 1 - ((k + 1 : Nat) : Int)) (by omega) (by omega) ?_ | refine v_to ((n : Int) - 1 - ((0 : Nat) : Int)) (by omega) (by omega) ?_ | refine m52 ?_ | refine m53 ?_ | refine v_eP ?_ | refine m54 ?_ | refine m55 ?_ | refine v_neP ?_ | refine m47 ?_ | refine m48 ?_ | refine m49 ?_ | refine m50 ?_ | refine v_qc (by omega) (by omega) ?_ | refine v_nT ?_ | refine v_nF ?_ | refine v_nP ?_ | refine v_k ?_ | refine m51 ?_ | fail)) | refine m42 ?_ | refine b_assignI ?_ | refine b_assignN ?_ | refine m08 ?_ | (refine m20 ?_; (first | refine v_to ((t + 1 : Nat) : Int) (by omega) (by omega) ?_ | refine v_to ((n : Int) - 1 - ((k + 1 : Nat) : Int)) (by omega) (by omega) ?_ | refine v_to ((n : Int) - 1 - ((0 : Nat) : Int)) (by omega) (by omega) ?_ | refine m52 ?_ | refine m53 ?_ | refine v_eP ?_ | refine m54 ?_ | refine m55 ?_ | refine v_neP ?_ | refine m47 ?_ | refine m48 ?_ | refine m49 ?_ | refine m50 ?_ | refine v_qc (by omega) (by omega) ?_ | refine v_nT ?_ | refine v_nF ?_ | refine v_nP ?_ | refine v_k ?_ | refine m51 ?_ | fail)) | refine b_callB ?_ | refine m25 ?_ | refine m01 ?_ | refine m24 ?_ | refine b_build ?_ | fail))
    | (refine gateD ?_; (first | refine m36 ?_ | refine d_nil ?_ | fail))
    | (refine gateC ?_; (first | refine k_lt ?_ | refine k_fz ?_ | refine k_lb (by (conv => {lhs; whnf}); done) ?_ | refine k_ms ?_ | refine k_bx (by exact rfl) (by exact rfl) ?_ | refine m34 ?_ | refine m35 ?_ | refine m33 ?_ | refine k_mn ?_ | refine m56 ?_ | refine k_mnF ?_ | refine k_mnL (by exact rfl) ?_ | fail))
    | (refine gateT ?_; (first | refine b_thn ?_ | refine b_thr ?_ | refine b_the ?_ | fail))
    | (refine gateX ?_; (first | refine b_seq ?_ | refine b_region ?_ | (refine m06 ?_; (first | refine c_T ?_ | refine c_F ?_ | refine c_P ?_ ?_ | refine c_B ?_ ?_ | fail)) | refine b_ret ?_ | refine b_skip ?_ | refine b_block ?_ | refine b_exit ?_ | refine b_draw (id := 6) [] [] [(0, .ld true), (2, .ld true), (1, .mn true), (3, .mn true), (4, .lt)] (by kernel_rfl) ?_ | refine b_draw (id := 10) [8] [] [(0, .ld true), (1, .ld true), (2, .lt), (3, .lt), (4, .ld true), (5, .bx), (6, .mn true), (7, .lt)] (by kernel_rfl) ?_ | refine b_draw (id := 19) [] [7] [(0, .ld true), (1, .lt), (2, .lt), (3, .ld true), (4, .lt), (5, .lt), (6, .mn true), (7, .mn false)] (by kernel_rfl) ?_ | refine b_draw (id := 25) [] [11] [(0, .ld true), (1, .lt), (5, .ld true), (6, .lt), (7, .lt), (2, .mn true), (3, .lt), (4, .ld true), (8, .mn true), (9, .lt), (10, .lt), (11, .mn false)] (by kernel_rfl) ?_ | refine b_draw (id := 29) [] [7] [(0, .ld true), (1, .lt), (2, .lt), (3, .ld true), (4, .lt), (5, .lt), (6, .mn true), (7, .mn false)] (by kernel_rfl) ?_ | refine b_draw (id := 38) [] [7] [(0, .ld true), (1, .lt), (2, .lt), (3, .ld true), (4, .lt), (5, .lt), (6, .mn true), (7, .mn false)] (by kernel_rfl) ?_ | refine b_draw (id := 46) [] [7] [(0, .ld true), (1, .lt), (2, .lt), (3, .ld true), (4, .lt), (5, .lt), (6, .mn true), (7, .mn false)] (by kernel_rfl) ?_ | refine b_draw (id := 48) [] [11] [(0, .ld true), (1, .lt), (5, .ld true), (6, .lt), (7, .lt), (2, .mn true), (3, .lt), (4, .ld true), (8, .mn true), (9, .lt), (10, .lt), (11, .mn false)] (by kernel_rfl) ?_ | (refine b_loop [8, 12, 85, 86] (n - 1 - k) (fun t => ⟨[(8, .loc 8 0), (12, .val (.int .i64 ((n : Int) - 1 - (k : Int)))), (85, .val (.int .i64 ((n : Int) - 1 - (k : Int)))), (86, .val (.int .i64 ((t : Nat) : Int)))], [(8, [D, .int .i64 mo, .int .i64 (n : Int), .int .i64 (n : Int), .int .i64 ld, (.slm b l.length 0 l.length 1), .int .i64 xo, .int .i64 (n : Int), .int .i64 xi])], H.set b (fl (setV l xo xi n (up2P a f n k t))) ++ []⟩) (by exact rfl) ?_ ?_ <;> (first | intro t ht K hK | intro K) <;> (try dsimp only at *)) | (refine b_loop [8, 12] n (fun k => ⟨[(8, .loc 8 0), (12, .val (.int .i64 ((n : Int) - 1 - (k : Int))))], [(8, [D, .int .i64 mo, .int .i64 (n : Int), .int .i64 (n : Int), .int .i64 ld, (.slm b l.length 0 l.length 1), .int .i64 xo, .int .i64 (n : Int), .int .i64 xi])], H.set b (fl (setV l xo xi n (up2 a f n k))) ++ []⟩) (by exact rfl) ?_ ?_ <;> (first | intro k hk K hK | intro K) <;> (try dsimp only at *)) | fail))
    | refine m21 ?_
    | refine a_nil ?_
    | (refine gateK ?_; (first | refine c_call (sright_s H b l hbl xo xi n hxI hxR D hD ml mo ld hI hG a hrd f []) (OldOk.app (by simp)) ?_ | refine c_call (ssquare_n H b l hbl xo xi n hxI hxR D hD ml mo ld hI hG a hrd f [] 2 (by omega) (by omega)) (OldOk.app (by simp)) ?_ | refine c_call (srow_s H b l hbl xo xi n hxI hxR D hD ml mo ld hI hG a hrd f []) (OldOk.app (by simp)) ?_ | refine c_call (hmeet f []) (OldOk.app (by simp)) ?_ | refine c_call (tzero_s H b l hbl xo xi n hxI hxR D hD ml mo ld hI hG a hrd f [] 2 (fun _ => hz)) (OldOk.app (by simp)) ?_ | refine c_call (snum_s H b l hbl xo xi n hxI hxR D hD ml mo ld hI hG a hrd _ [] ((n - 1 - k)) (by omega) _ (by omega)) (OldOk.app (by simp)) ?_ | refine c_call (sat_s H b l hbl xo xi n hxI hxR D hD ml mo ld hI hG a hrd _ [] ((n - 1 - k)) ((n - 1 - k)) (by omega) (by omega) _ _ (by omega) (by omega)) (OldOk.app (by simp)) ?_ | refine c_call (sat_s H b l hbl xo xi n hxI hxR D hD ml mo ld hI hG a hrd _ [] (t) ((n - 1 - k)) (by omega) (by omega) _ _ (by omega) (by omega)) (OldOk.app (by simp)) ?_ | refine c_call (sless_s H b l hbl xo xi n hxI hxR D hD ml mo ld hI hG a hrd (up2P a f n k t) (up2P a f n k (t + 1)) [] (t) ((n - 1 - k)) (by omega) (by omega) _ _ (by omega) (by omega) _ (fun t' ht' => up2P_step (by omega) t')) (OldOk.set2 hbl (by simp) (by rw [mxL_fl]; omega)) ?_ | fail))
    | refine m58 ?_
    | refine fk_nil ?_
    | (refine gateB ?_; (first | refine b_bln ?_ | refine b_blr ?_ | refine b_ble ?_ | refine m57 ?_ | fail))
    | (refine gateL ?_; (first | refine lp_n ?_ | refine lp_r ?_ | refine lp_e ?_ | fail))
    | (refine pr_k (by exact rfl) ?_; first | exact hK | (rw [hB]; exact hK) | (exfalso; first | omega | (simp_all; done) | (simp_all; omega)))
    | (refine gateQ ?_; refine m05 ?_)
    | (refine gateR ?_; (first | refine m04 ?_ | refine m02 ?_ | refine m03 ?_ | refine rk_nil ?_ | fail))
    | intro _)
  all_goals first
    | (exfalso; contradiction)
    | (exfalso; omega)
    | (refine rv_old (by simp) (by simp [mx, mxL, resOne, aOf, aOf1]) ?_; exact rfl)

set_option maxHeartbeats 4000000 in
theorem tsol_3 (H : List (List AV)) (b : Nat) (l : List Nat) (hbl : b < H.length) (xo xi : Int) (n : Nat) (hxI : VI l.length xo n xi) (hxR : RightP l.length xo n xi) (D : AV) (hD : mx D ≤ H.length) (ml : Nat) (mo ld : Int) (hI : MI ml mo n n ld) (hG : GoodP ml mo n n ld) (a : Nat → Nat → Nat) (hrd : ∀ f, ∃ l', FL (H.set b (fl (setV l xo xi n f))) D l' ∧ l'.length = ml ∧ ∀ i j, i < n → j < n → mel l' mo ld i j = a i j) (hmeet : ∀ f N, CSpec Tryz.prog 142 [mt (.slm b l.length 0 l.length 1) xo 1 (n : Int) xi, mt D mo (n : Int) (n : Int) ld] (H.set b (fl (setV l xo xi n f)) ++ N) (.bool false) (H.set b (fl (setV l xo xi n f)) ++ N)) (f : Nat → Nat) :
    CSpec Tryz.prog 105 [.int .i64 3, mt D mo (n : Int) (n : Int) ld, vt (.slm b l.length 0 l.length 1) xo (n : Int) xi] (H.set b (fl (setV l xo xi n f))) (.int .i64 0) (H.set b (fl (setV l xo xi n (lt3 a f n n)))) := by
  obtain ⟨hm, ho1, ho2, hr1, hr2, hc1, hc2, hl1, hl2⟩ := id hI
  obtain ⟨vn, vo1, vo2, vn1, vn2, vi1, vi2⟩ := id hxI
  have hA : ∀ k, (setV l xo xi n (updV (lt3 a f n k) (n - 1 - k) (in3 a (lt3 a f n k) (n - 1 - k) 0))) = (setV l xo xi n (lt3 a f n k)) := fun k => setV_congr hxR.2.2.1 hxR.2.1 fun i hi => in3_first i
  have hB : ∀ k, (setV l xo xi n (updV (lt3 a f n k) (n - 1 - k) (in3 a (lt3 a f n k) (n - 1 - k) k))) = (setV l xo xi n (lt3 a f n (k + 1))) := fun k => rfl
  refine .mk (fun args w => Tryz.call105 args w) (Spec.intro' (fn := Tryz.f105) Tryz.func105 rfl (by kernel_rfl) (by simp) false [] (draw := drawX Tryz.prog ⟨false, _, []⟩) dOk ?_)
  simp only [argE, Nat.reduceAdd]
  repeat' (first
    | (refine gateE ?_; (first | refine b_c0 ?_ | refine b_nil ?_ | fail))
    | (refine gateO ?_; (first | refine m41 ?_ | refine b_moveI ?_ | refine m14 ?_ | (refine m17 ?_; first | refine m19 ?_ | refine m18 ?_) | (refine m07 ?_; (first | refine m15 ?_ | refine m16 ?_ | fail)) | refine b_nilC (by (conv => {lhs; whnf}); done) ?_ | (refine m45 ?_; (first | refine v_to ((n - 1 - k + 1 + t + 1 : Nat) : Int) (by omega) (by omega) ?_ | refine v_to ((n - 1 - k + 1 : Nat) : Int) (by omega) (by omega) ?_ | refine v_to ((n : Int) - 1 - ((k + 1 : Nat) : Int)) (by omega) (by omega) ?_ | refine v_to ((n : Int) - 1 - ((0 : Nat) : Int)) (by omega) (by omega) ?_ | refine v_bbT (by exact rfl) ?_ | refine v_k ?_ | fail)) | (refine m00 ?_; (first | refine v_to ((n - 1 - k + 1 + t + 1 : Nat) : Int) (by omega) (by omega) ?_ | refine v_to ((n - 1 - k + 1 : Nat) : Int) (by omega) (by omega) ?_ | refine v_to ((n : Int) - 1 - ((k + 1 : Nat) : Int)) (by omega) (by omega) ?_ | refine v_to ((n : Int) - 1 - ((0 : Nat) : Int)) (by omega) (by omega) ?_ | refine m52 ?_ | refine m53 ?_ | refine v_eP ?_ | refine m54 ?_ | refine m55 ?_ | refine v_neP ?_ | refine m47 ?_ | refine m48 ?_ | refine m49 ?_ | refine m50 ?_ | refine v_qc (by omega) (by omega) ?_ | refine v_nT ?_ | refine v_nF ?_ | refine v_nP ?_ | refine v_k ?_ | refine m51 ?_ | fail)) | refine m42 ?_ | refine b_assignI ?_ | refine b_assignN ?_ | refine m08 ?_ | (refine m20 ?_; (first | refine v_to ((n - 1 - k + 1 + t + 1 : Nat) : Int) (by omega) (by omega) ?_ | refine v_to ((n - 1 - k + 1 : Nat) : Int) (by omega) (by omega) ?_ | refine v_to ((n : Int) - 1 - ((k + 1 : Nat) : Int)) (by omega) (by omega) ?_ | refine v_to ((n : Int) - 1 - ((0 : Nat) : Int)) (by omega) (by omega) ?_ | refine m52 ?_ | refine m53 ?_ | refine v_eP ?_ | refine m54 ?_ | refine m55 ?_ | refine v_neP ?_ | refine m47 ?_ | refine m48 ?_ | refine m49 ?_ | refine m50 ?_ | refine v_qc (by omega) (by omega) ?_ | refine v_nT ?_ | refine v_nF ?_ | refine v_nP ?_ | refine v_k ?_ | refine m51 ?_ | fail)) | refine b_callB ?_ | refine m25 ?_ | refine m01 ?_ | refine m24 ?_ | refine b_build ?_ | fail))
    | (refine gateD ?_; (first | refine m36 ?_ | refine d_nil ?_ | fail))
    | (refine gateC ?_; (first | refine k_lt ?_ | refine k_fz ?_ | refine k_lb (by (conv => {lhs; whnf}); done) ?_ | refine k_ms ?_ | refine k_bx (by exact rfl) (by exact rfl) ?_ | refine m34 ?_ | refine m35 ?_ | refine m33 ?_ | refine k_mn ?_ | refine m56 ?_ | refine k_mnF ?_ | refine k_mnL (by exact rfl) ?_ | fail))
    | (refine gateT ?_; (first | refine b_thn ?_ | refine b_thr ?_ | refine b_the ?_ | fail))
    | (refine gateX ?_; (first | refine b_seq ?_ | refine b_region ?_ | (refine m06 ?_; (first | refine c_T ?_ | refine c_F ?_ | refine c_P ?_ ?_ | refine c_B ?_ ?_ | fail)) | refine b_ret ?_ | refine b_skip ?_ | refine b_block ?_ | refine b_exit ?_ | refine b_draw (id := 6) [] [] [(0, .ld true), (2, .ld true), (1, .mn true), (3, .mn true), (4, .lt)] (by kernel_rfl) ?_ | refine b_draw (id := 10) [8] [] [(0, .ld true), (1, .ld true), (2, .lt), (3, .lt), (4, .ld true), (5, .bx), (6, .mn true), (7, .lt)] (by kernel_rfl) ?_ | refine b_draw (id := 19) [] [7] [(0, .ld true), (1, .lt), (2, .lt), (3, .ld true), (4, .lt), (5, .lt), (6, .mn true), (7, .mn false)] (by kernel_rfl) ?_ | refine b_draw (id := 25) [] [11] [(0, .ld true), (1, .lt), (5, .ld true), (6, .lt), (7, .lt), (2, .mn true), (3, .lt), (4, .ld true), (8, .mn true), (9, .lt), (10, .lt), (11, .mn false)] (by kernel_rfl) ?_ | refine b_draw (id := 29) [] [7] [(0, .ld true), (1, .lt), (2, .lt), (3, .ld true), (4, .lt), (5, .lt), (6, .mn true), (7, .mn false)] (by kernel_rfl) ?_ | refine b_draw (id := 38) [] [7] [(0, .ld true), (1, .lt), (2, .lt), (3, .ld true), (4, .lt), (5, .lt), (6, .mn true), (7, .mn false)] (by kernel_rfl) ?_ | refine b_draw (id := 46) [] [7] [(0, .ld true), (1, .lt), (2, .lt), (3, .ld true), (4, .lt), (5, .lt), (6, .mn true), (7, .mn false)] (by kernel_rfl) ?_ | refine b_draw (id := 48) [] [11] [(0, .ld true), (1, .lt), (5, .ld true), (6, .lt), (7, .lt), (2, .mn true), (3, .lt), (4, .ld true), (8, .mn true), (9, .lt), (10, .lt), (11, .mn false)] (by kernel_rfl) ?_ | (refine b_loop [8, 9, 14, 15] k (fun t => ⟨[(8, .loc 8 0), (9, .val (.int .i64 ((n : Nat) : Int))), (14, .val (.int .i64 ((n : Int) - 1 - (k : Int)))), (15, .val (.int .i64 ((n - 1 - k + 1 + t : Nat) : Int)))], [(8, [D, .int .i64 mo, .int .i64 (n : Int), .int .i64 (n : Int), .int .i64 ld, (.slm b l.length 0 l.length 1), .int .i64 xo, .int .i64 (n : Int), .int .i64 xi])], H.set b (fl (setV l xo xi n (updV (lt3 a f n k) (n - 1 - k) (in3 a (lt3 a f n k) (n - 1 - k) t)))) ++ []⟩) (by simp only [hA]; exact rfl) ?_ ?_ <;> (first | intro t ht K hK | intro K) <;> (try dsimp only at *)) | (refine b_loop [8, 9, 14] n (fun k => ⟨[(8, .loc 8 0), (9, .val (.int .i64 ((n : Nat) : Int))), (14, .val (.int .i64 ((n : Int) - 1 - (k : Int))))], [(8, [D, .int .i64 mo, .int .i64 (n : Int), .int .i64 (n : Int), .int .i64 ld, (.slm b l.length 0 l.length 1), .int .i64 xo, .int .i64 (n : Int), .int .i64 xi])], H.set b (fl (setV l xo xi n (lt3 a f n k))) ++ []⟩) (by exact rfl) ?_ ?_ <;> (first | intro k hk K hK | intro K) <;> (try dsimp only at *)) | fail))
    | refine m21 ?_
    | refine a_nil ?_
    | (refine gateK ?_; (first | refine c_call (sright_s H b l hbl xo xi n hxI hxR D hD ml mo ld hI hG a hrd f []) (OldOk.app (by simp)) ?_ | refine c_call (ssquare_n H b l hbl xo xi n hxI hxR D hD ml mo ld hI hG a hrd f [] 3 (by omega) (by omega)) (OldOk.app (by simp)) ?_ | refine c_call (srow_s H b l hbl xo xi n hxI hxR D hD ml mo ld hI hG a hrd f []) (OldOk.app (by simp)) ?_ | refine c_call (hmeet f []) (OldOk.app (by simp)) ?_ | refine c_call (tzero_s H b l hbl xo xi n hxI hxR D hD ml mo ld hI hG a hrd f [] 3 (fun h => absurd h (by omega))) (OldOk.app (by simp)) ?_ | refine c_call (sat_s H b l hbl xo xi n hxI hxR D hD ml mo ld hI hG a hrd _ [] ((n - 1 - k) + 1 + t) ((n - 1 - k)) (by omega) (by omega) _ _ (by omega) (by omega)) (OldOk.app (by simp)) ?_ | refine c_call (sless_s H b l hbl xo xi n hxI hxR D hD ml mo ld hI hG a hrd (updV (lt3 a f n k) (n - 1 - k) (in3 a (lt3 a f n k) (n - 1 - k) t)) (updV (lt3 a f n k) (n - 1 - k) (in3 a (lt3 a f n k) (n - 1 - k) (t + 1))) [] ((n - 1 - k)) ((n - 1 - k) + 1 + t) (by omega) (by omega) _ _ (by omega) (by omega) _ (fun t' ht' => in3_step t')) (OldOk.set2 hbl (by simp) (by rw [mxL_fl]; omega)) ?_ | fail))
    | refine m58 ?_
    | refine fk_nil ?_
    | (refine gateB ?_; (first | refine b_bln ?_ | refine b_blr ?_ | refine b_ble ?_ | refine m57 ?_ | fail))
    | (refine gateL ?_; (first | refine lp_n ?_ | refine lp_r ?_ | refine lp_e ?_ | fail))
    | (refine pr_k (by exact rfl) ?_; first | exact hK | (rw [hB]; exact hK) | (exfalso; first | omega | (simp_all; done) | (simp_all; omega)))
    | (refine gateQ ?_; refine m05 ?_)
    | (refine gateR ?_; (first | refine m04 ?_ | refine m02 ?_ | refine m03 ?_ | refine rk_nil ?_ | fail))
    | intro _)
  all_goals first
    | (exfalso; contradiction)
    | (exfalso; omega)
    | (refine rv_old (by simp) (by simp [mx, mxL, resOne, aOf, aOf1]) ?_; exact rfl)

set_option maxHeartbeats 4000000 in
theorem tsol_4 (H : List (List AV)) (b : Nat) (l : List Nat) (hbl : b < H.length) (xo xi : Int) (n : Nat) (hxI : VI l.length xo n xi) (hxR : RightP l.length xo n xi) (D : AV) (hD : mx D ≤ H.length) (ml : Nat) (mo ld : Int) (hI : MI ml mo n n ld) (hG : GoodP ml mo n n ld) (a : Nat → Nat → Nat) (hrd : ∀ f, ∃ l', FL (H.set b (fl (setV l xo xi n f))) D l' ∧ l'.length = ml ∧ ∀ i j, i < n → j < n → mel l' mo ld i j = a i j) (hmeet : ∀ f N, CSpec Tryz.prog 142 [mt (.slm b l.length 0 l.length 1) xo 1 (n : Int) xi, mt D mo (n : Int) (n : Int) ld] (H.set b (fl (setV l xo xi n f)) ++ N) (.bool false) (H.set b (fl (setV l xo xi n f)) ++ N)) (f : Nat → Nat) (hz : ∀ k, k < n → feq (a k k) 0 = false) :
    CSpec Tryz.prog 105 [.int .i64 4, mt D mo (n : Int) (n : Int) ld, vt (.slm b l.length 0 l.length 1) xo (n : Int) xi] (H.set b (fl (setV l xo xi n f))) (.int .i64 0) (H.set b (fl (setV l xo xi n (ut4 a f n)))) := by
  obtain ⟨hm, ho1, ho2, hr1, hr2, hc1, hc2, hl1, hl2⟩ := id hI
  obtain ⟨vn, vo1, vo2, vn1, vn2, vi1, vi2⟩ := id hxI
  have hA : ∀ k, (setV l xo xi n (updV (ut4 a f k) k (in4 a (ut4 a f k) k 0))) = (setV l xo xi n (ut4 a f k)) := fun k => setV_congr hxR.2.2.1 hxR.2.1 fun i hi => in4_first i
  have hB : ∀ k, k < n → (setV l xo xi n (updV (ut4 a f k) k (in4 a (ut4 a f k) k k))).set (0 + pos xo xi 0 k) (fdiv ((updV (ut4 a f k) k (in4 a (ut4 a f k) k k)) k) (a k k)) = (setV l xo xi n (ut4 a f (k + 1))) := fun k hk => (by rw [Nat.zero_add, set_setV hxR (by omega)]; exact setV_congr hxR.2.2.1 hxR.2.1 fun i hi => in4_row i)
  refine .mk (fun args w => Tryz.call105 args w) (Spec.intro' (fn := Tryz.f105) Tryz.func105 rfl (by kernel_rfl) (by simp) false [] (draw := drawX Tryz.prog ⟨false, _, []⟩) dOk ?_)
  simp only [argE, Nat.reduceAdd]
  repeat' (first
    | (refine gateE ?_; (first | refine b_c0 ?_ | refine b_nil ?_ | fail))
    | (refine gateO ?_; (first | refine m41 ?_ | refine b_moveI ?_ | refine m14 ?_ | (refine m17 ?_; first | refine m19 ?_ | refine m18 ?_) | (refine m07 ?_; (first | refine m15 ?_ | refine m16 ?_ | refine l_sv hbl hxR (show k < n by omega) ?_ | fail)) | refine b_nilC (by (conv => {lhs; whnf}); done) ?_ | refine b_stB (X' := (setV l xo xi n (ut4 a f (k + 1)))) (by (conv => {lhs; whnf}); done) (by (conv => {lhs; whnf}); done) hbl (by simp) (by simp; exact vpos_lt hxR (by omega)) (by exact hB k (by omega)) ?_ | (refine m45 ?_; (first | refine v_to ((t + 1 : Nat) : Int) (by omega) (by omega) ?_ | refine v_to ((k + 1 : Nat) : Int) (by omega) (by omega) ?_ | refine v_bbT (by exact rfl) ?_ | refine v_k ?_ | fail)) | (refine m00 ?_; (first | refine v_to ((t + 1 : Nat) : Int) (by omega) (by omega) ?_ | refine v_to ((k + 1 : Nat) : Int) (by omega) (by omega) ?_ | refine m52 ?_ | refine m53 ?_ | refine v_eP ?_ | refine m54 ?_ | refine m55 ?_ | refine v_neP ?_ | refine m47 ?_ | refine m48 ?_ | refine m49 ?_ | refine m50 ?_ | refine v_qc (by omega) (by omega) ?_ | refine v_nT ?_ | refine v_nF ?_ | refine v_nP ?_ | refine v_k ?_ | refine m51 ?_ | fail)) | refine m42 ?_ | refine b_assignI ?_ | refine b_assignN ?_ | refine m08 ?_ | (refine m20 ?_; (first | refine v_to ((t + 1 : Nat) : Int) (by omega) (by omega) ?_ | refine v_to ((k + 1 : Nat) : Int) (by omega) (by omega) ?_ | refine m52 ?_ | refine m53 ?_ | refine v_eP ?_ | refine m54 ?_ | refine m55 ?_ | refine v_neP ?_ | refine m47 ?_ | refine m48 ?_ | refine m49 ?_ | refine m50 ?_ | refine v_qc (by omega) (by omega) ?_ | refine v_nT ?_ | refine v_nF ?_ | refine v_nP ?_ | refine v_k ?_ | refine m51 ?_ | fail)) | refine b_callB ?_ | refine m25 ?_ | refine m01 ?_ | refine m24 ?_ | refine b_build ?_ | fail))
    | (refine gateD ?_; (first | refine m36 ?_ | refine d_nil ?_ | fail))
    | (refine gateC ?_; (first | refine k_lt ?_ | refine k_fz ?_ | refine k_lb (by (conv => {lhs; whnf}); done) ?_ | refine k_ms ?_ | refine k_bx (by exact rfl) (by exact rfl) ?_ | refine m34 ?_ | refine m35 ?_ | refine m33 ?_ | refine k_mn ?_ | refine m56 ?_ | refine k_mnF ?_ | refine k_mnL (by exact rfl) ?_ | fail))
    | (refine gateT ?_; (first | refine b_thn ?_ | refine b_thr ?_ | refine b_the ?_ | fail))
    | (refine gateX ?_; (first | refine b_seq ?_ | refine b_region ?_ | (refine m06 ?_; (first | refine c_T ?_ | refine c_F ?_ | refine c_P ?_ ?_ | refine c_B ?_ ?_ | fail)) | refine b_ret ?_ | refine b_skip ?_ | refine b_block ?_ | refine b_exit ?_ | refine b_draw (id := 6) [] [] [(0, .ld true), (2, .ld true), (1, .mn true), (3, .mn true), (4, .lt)] (by kernel_rfl) ?_ | refine b_draw (id := 10) [8] [] [(0, .ld true), (1, .ld true), (2, .lt), (3, .lt), (4, .ld true), (5, .bx), (6, .mn true), (7, .lt)] (by kernel_rfl) ?_ | refine b_draw (id := 19) [] [7] [(0, .ld true), (1, .lt), (2, .lt), (3, .ld true), (4, .lt), (5, .lt), (6, .mn true), (7, .mn false)] (by kernel_rfl) ?_ | refine b_draw (id := 25) [] [11] [(0, .ld true), (1, .lt), (5, .ld true), (6, .lt), (7, .lt), (2, .mn true), (3, .lt), (4, .ld true), (8, .mn true), (9, .lt), (10, .lt), (11, .mn false)] (by kernel_rfl) ?_ | refine b_draw (id := 29) [] [7] [(0, .ld true), (1, .lt), (2, .lt), (3, .ld true), (4, .lt), (5, .lt), (6, .mn true), (7, .mn false)] (by kernel_rfl) ?_ | refine b_draw (id := 38) [] [7] [(0, .ld true), (1, .lt), (2, .lt), (3, .ld true), (4, .lt), (5, .lt), (6, .mn true), (7, .mn false)] (by kernel_rfl) ?_ | refine b_draw (id := 46) [] [7] [(0, .ld true), (1, .lt), (2, .lt), (3, .ld true), (4, .lt), (5, .lt), (6, .mn true), (7, .mn false)] (by kernel_rfl) ?_ | refine b_draw (id := 48) [] [11] [(0, .ld true), (1, .lt), (5, .ld true), (6, .lt), (7, .lt), (2, .mn true), (3, .lt), (4, .ld true), (8, .mn true), (9, .lt), (10, .lt), (11, .mn false)] (by kernel_rfl) ?_ | (refine b_loop [8, 16, 123, 124, 127, 128] k (fun t => ⟨[(8, .loc 8 0), (16, .val (.int .i64 ((k : Nat) : Int))), (123, .val (.int .i64 ((n : Nat) : Int))), (124, .val (.int .i64 ((k : Nat) : Int))), (127, .val (.int .i64 ((k : Nat) : Int))), (128, .val (.int .i64 ((t : Nat) : Int)))], [(8, [D, .int .i64 mo, .int .i64 (n : Int), .int .i64 (n : Int), .int .i64 ld, (.slm b l.length 0 l.length 1), .int .i64 xo, .int .i64 (n : Int), .int .i64 xi])], H.set b (fl (setV l xo xi n (updV (ut4 a f k) k (in4 a (ut4 a f k) k t)))) ++ []⟩) (by simp only [hA]; exact rfl) ?_ ?_ <;> (first | intro t ht K hK | intro K) <;> (try dsimp only at *)) | (refine b_loop [8, 123, 124] n (fun k => ⟨[(8, .loc 8 0), (123, .val (.int .i64 ((n : Nat) : Int))), (124, .val (.int .i64 ((k : Nat) : Int)))], [(8, [D, .int .i64 mo, .int .i64 (n : Int), .int .i64 (n : Int), .int .i64 ld, (.slm b l.length 0 l.length 1), .int .i64 xo, .int .i64 (n : Int), .int .i64 xi])], H.set b (fl (setV l xo xi n (ut4 a f k))) ++ []⟩) (by exact rfl) ?_ ?_ <;> (first | intro k hk K hK | intro K) <;> (try dsimp only at *)) | fail))
    | refine m21 ?_
    | refine a_nil ?_
    | (refine gateK ?_; (first | refine c_call (sright_s H b l hbl xo xi n hxI hxR D hD ml mo ld hI hG a hrd f []) (OldOk.app (by simp)) ?_ | refine c_call (ssquare_n H b l hbl xo xi n hxI hxR D hD ml mo ld hI hG a hrd f [] 4 (by omega) (by omega)) (OldOk.app (by simp)) ?_ | refine c_call (srow_s H b l hbl xo xi n hxI hxR D hD ml mo ld hI hG a hrd f []) (OldOk.app (by simp)) ?_ | refine c_call (hmeet f []) (OldOk.app (by simp)) ?_ | refine c_call (tzero_s H b l hbl xo xi n hxI hxR D hD ml mo ld hI hG a hrd f [] 4 (fun _ => hz)) (OldOk.app (by simp)) ?_ | refine c_call (snum_s H b l hbl xo xi n hxI hxR D hD ml mo ld hI hG a hrd _ [] (k) (by omega) _ (by omega)) (OldOk.app (by simp)) ?_ | refine c_call (sat_s H b l hbl xo xi n hxI hxR D hD ml mo ld hI hG a hrd _ [] (k) (k) (by omega) (by omega) _ _ (by omega) (by omega)) (OldOk.app (by simp)) ?_ | refine c_call (sat_s H b l hbl xo xi n hxI hxR D hD ml mo ld hI hG a hrd _ [] (t) (k) (by omega) (by omega) _ _ (by omega) (by omega)) (OldOk.app (by simp)) ?_ | refine c_call (sless_s H b l hbl xo xi n hxI hxR D hD ml mo ld hI hG a hrd (updV (ut4 a f k) k (in4 a (ut4 a f k) k t)) (updV (ut4 a f k) k (in4 a (ut4 a f k) k (t + 1))) [] (k) (t) (by omega) (by omega) _ _ (by omega) (by omega) _ (fun t' ht' => in4_step (by omega) t')) (OldOk.set2 hbl (by simp) (by rw [mxL_fl]; omega)) ?_ | fail))
    | refine m58 ?_
    | refine fk_nil ?_
    | (refine gateB ?_; (first | refine b_bln ?_ | refine b_blr ?_ | refine b_ble ?_ | refine m57 ?_ | fail))
    | (refine gateL ?_; (first | refine lp_n ?_ | refine lp_r ?_ | refine lp_e ?_ | fail))
    | (refine pr_k (by exact rfl) ?_; first | exact hK | fail | (exfalso; first | omega | (simp_all; done) | (simp_all; omega)))
    | (refine gateQ ?_; refine m05 ?_)
    | (refine gateR ?_; (first | refine m04 ?_ | refine m02 ?_ | refine m03 ?_ | refine rk_nil ?_ | fail))
    | intro _)
  all_goals first
    | (exfalso; contradiction)
    | (exfalso; omega)
    | (refine rv_old (by simp) (by simp [mx, mxL, resOne, aOf, aOf1]) ?_; exact rfl)


set_option maxHeartbeats 4000000 in
theorem take_f (H : List (List AV)) (b : Nat) (l : List Nat) (hbl : b < H.length) (xo xi : Int) (n : Nat) (hxI : VI l.length xo n xi) (hxR : RightP l.length xo n xi) (P : AV) (p : List Int) (hpl : p.length = n) (hn9 : n ≤ 2 ^ 30) (hpv : pivP p) (hIL : ∀ X N, IL (H.set b X ++ N) P p) (f : Nat → Nat) :
    CSpec Tryz.prog 104 [vt (.slm b l.length 0 l.length 1) xo (n : Int) xi, P, .bool false] (H.set b (fl (setV l xo xi n f))) (.tup []) (H.set b (fl (setV l xo xi n (tkF p f n)))) := by
  obtain ⟨vn, vo1, vo2, vn1, vn2, vi1, vi2⟩ := id hxI
  have hPl : slen P = some n := (by rw [← hpl]; exact (hIL [] []).len)
  have hq : ∀ t, t < n → 0 ≤ p.getD t 0 ∧ p.getD t 0 < n := fun t ht => by have := hpv t (by omega); omega
  have hqn : ∀ t, t < n → (p.getD t 0).toNat < n := fun t ht => by have := hq t ht; omega
  have hqe : ∀ t, t < n → xo + p.getD t 0 * xi = ((pos xo xi 0 (p.getD t 0).toNat : Nat) : Int) := fun t ht => by have h1 := vpos_eq hxR (hqn t ht); rw [show ((p.getD t 0).toNat : Int) = p.getD t 0 by have := hq t ht; omega] at h1; exact h1
  have hA : ∀ k, k < n → (setV l xo xi n (tkF p f k)).set (0 + pos xo xi 0 (k)) (tkF p f k (p.getD (k) 0).toNat) = (setV l xo xi n (updV (tkF p f k) (k) (tkF p f k (p.getD (k) 0).toNat))) := fun k hk => (by rw [Nat.zero_add, set_setV hxR (by omega)])
  have hB : ∀ k, k < n → (setV l xo xi n (updV (tkF p f k) (k) (tkF p f k (p.getD (k) 0).toNat))).set (0 + pos xo xi 0 (p.getD (k) 0).toNat) (tkF p f k (k)) = (setV l xo xi n (tkF p f (k + 1))) := fun k hk => (by rw [Nat.zero_add, set_setV hxR (hqn _ (by omega))]; exact setV_congr hxR.2.2.1 hxR.2.1 fun i hi => (swV_eq i))
  refine .mk (fun args w => Tryz.call104 args w) (Spec.intro' (fn := Tryz.f104) Tryz.func104 rfl (by kernel_rfl) (by simp) false [] (draw := drawX Tryz.prog ⟨false, _, []⟩) dOk ?_)
  simp only [argE, Nat.reduceAdd]
  repeat' (first
    | (refine gateE ?_; (first | refine b_c0 ?_ | refine b_nil ?_ | fail))
    | (refine gateO ?_; (first | refine m41 ?_ | refine b_moveI ?_ | refine m14 ?_ | (refine m17 ?_; first | refine m19 ?_ | refine m18 ?_) | (refine m07 ?_; (first | refine m15 ?_ | refine m16 ?_ | refine l_IL (hIL _ _) (by omega) ?_ | refine l_sv hbl hxR (show k < n by omega) ?_ | refine l_sv hbl hxR (hqn (k) (by omega)) ?_ | fail)) | refine b_nilC (by (conv => {lhs; whnf}); done) ?_ | refine b_lenA (by (conv => {lhs; whnf}); done) (by exact hPl) ?_ | refine b_iaN (by (conv => {lhs; whnf}); done) (by (conv => {lhs; whnf}); done) (by exact hPl) (by omega) ?_ | refine b_iaM (m := pos xo xi 0 (k)) (by (conv => {lhs; whnf}); done) (by (conv => {lhs; whnf}); done) (by exact rfl) (by exact vpos_eq hxR (by omega)) (by exact vpos_lt hxR (by omega)) ?_ | refine b_iaM (m := pos xo xi 0 (p.getD (k) 0).toNat) (by (conv => {lhs; whnf}); done) (by (conv => {lhs; whnf}); done) (by exact rfl) (by exact hqe _ (by omega)) (by exact vpos_lt hxR (hqn _ (by omega))) ?_ | refine b_stB (X' := (setV l xo xi n (updV (tkF p f k) (k) (tkF p f k (p.getD (k) 0).toNat)))) (by (conv => {lhs; whnf}); done) (by (conv => {lhs; whnf}); done) hbl (by simp) (by simp; exact vpos_lt hxR (by omega)) (by exact hA k (by omega)) ?_ | refine b_stB (X' := (setV l xo xi n (tkF p f (k + 1)))) (by (conv => {lhs; whnf}); done) (by (conv => {lhs; whnf}); done) hbl (by simp) (by simp; exact vpos_lt hxR (hqn _ (by omega))) (by exact hB k (by omega)) ?_ | (refine m00 ?_; (first | refine v_to ((k + 1 : Nat) : Int) (by omega) (by omega) ?_ | refine v_to (((k : Nat) : Int)) (by omega) (by omega) ?_ | refine v_w (by first | omega | (have h1 := right_at hxR (i := (((k) : Nat) : Int)) (by omega) (by omega); have h2 := right_at hxR (i := (p.getD (k) 0)) (by have := hq (k) (by omega); omega) (by have := hq (k) (by omega); omega); omega) | fail) ?_ | refine m47 ?_ | refine m48 ?_ | refine m49 ?_ | refine m50 ?_ | refine v_k ?_ | refine m51 ?_ | fail)) | refine m08 ?_ | refine b_lenA (by (conv => {lhs; whnf}); done) (by first | rfl | assumption) ?_ | refine m25 ?_ | refine m01 ?_ | fail))
    | (refine gateD ?_; (first | refine m36 ?_ | refine d_nil ?_ | fail))
    | (refine gateC ?_; (first | refine k_lt ?_ | refine k_fz ?_ | refine k_lb (by (conv => {lhs; whnf}); done) ?_ | refine k_ms ?_ | refine k_bx (by exact rfl) (by exact rfl) ?_ | refine m34 ?_ | refine m35 ?_ | refine m33 ?_ | refine k_mn ?_ | refine m56 ?_ | refine k_mnF ?_ | refine k_mnL (by exact rfl) ?_ | fail))
    | (refine gateT ?_; (first | refine b_thn ?_ | refine b_thr ?_ | refine b_the ?_ | fail))
    | (refine gateX ?_; (first | refine b_seq ?_ | refine b_region ?_ | (refine m06 ?_; (first | refine c_T ?_ | refine c_F ?_ | refine c_P ?_ ?_ | refine c_B ?_ ?_ | fail)) | refine b_ret ?_ | refine b_skip ?_ | refine b_block ?_ | refine b_exit ?_ | refine b_draw (id := 7) [] [] [(0, .lt), (1, .ld true), (2, .lt), (3, .ld true), (4, .lt), (5, .lt), (6, .ld true), (7, .lt), (8, .lt), (9, .lt), (10, .lt), (11, .ld true), (12, .lt), (13, .ld true), (14, .lt), (15, .lt), (16, .lt), (17, .ld true), (18, .lt), (19, .ld true), (20, .lt), (21, .lt), (22, .lt), (23, .lt), (24, .lt)] (by kernel_rfl) ?_ | refine b_draw (id := 8) [] [9, 11] [(0, .lt), (1, .lt), (2, .lt), (3, .lt), (4, .ld true), (5, .lt), (6, .lt), (7, .ld true), (8, .lt), (9, .mn false), (10, .lt), (11, .mn false)] (by kernel_rfl) ?_ | (refine b_loop [1, 2, 3, 11, 12] n (fun k => ⟨[(1, .val P), (2, .val (.bool false)), (3, .loc 3 0), (11, .val (.int .i64 ((n : Nat) : Int))), (12, .val (.int .i64 ((k : Nat) : Int)))], [(3, [(.slm b l.length 0 l.length 1), .int .i64 xo, .int .i64 (n : Int), .int .i64 xi])], H.set b (fl (setV l xo xi n (tkF p f k))) ++ []⟩) (by exact rfl) ?_ ?_ <;> (first | intro k hk K hK | intro K) <;> (try dsimp only at *)) | fail))
    | (refine gateB ?_; (first | refine b_bln ?_ | refine b_blr ?_ | refine b_ble ?_ | refine m57 ?_ | fail))
    | (refine gateL ?_; (first | refine lp_n ?_ | refine lp_r ?_ | refine lp_e ?_ | fail))
    | (refine pr_k (by exact rfl) ?_; first | exact hK | fail | (exfalso; first | omega | (simp_all; done) | (simp_all; omega)))
    | (refine gateQ ?_; refine m05 ?_)
    | (refine gateR ?_; (first | refine m04 ?_ | refine m02 ?_ | refine m03 ?_ | refine rk_nil ?_ | fail))
    | intro _)
  all_goals first
    | (exfalso; contradiction)
    | (exfalso; omega)
    | (refine rv_old (by simp) (by simp [mx, mxL, resOne, aOf, aOf1]) ?_; exact rfl)

set_option maxHeartbeats 4000000 in
theorem take_b (H : List (List AV)) (b : Nat) (l : List Nat) (hbl : b < H.length) (xo xi : Int) (n : Nat) (hxI : VI l.length xo n xi) (hxR : RightP l.length xo n xi) (P : AV) (p : List Int) (hpl : p.length = n) (hn9 : n ≤ 2 ^ 30) (hpv : pivP p) (hIL : ∀ X N, IL (H.set b X ++ N) P p) (f : Nat → Nat) :
    CSpec Tryz.prog 104 [vt (.slm b l.length 0 l.length 1) xo (n : Int) xi, P, .bool true] (H.set b (fl (setV l xo xi n f))) (.tup []) (H.set b (fl (setV l xo xi n (tkB p f n)))) := by
  obtain ⟨vn, vo1, vo2, vn1, vn2, vi1, vi2⟩ := id hxI
  have hPl : slen P = some n := (by rw [← hpl]; exact (hIL [] []).len)
  have hq : ∀ t, t < n → 0 ≤ p.getD t 0 ∧ p.getD t 0 < n := fun t ht => by have := hpv t (by omega); omega
  have hqn : ∀ t, t < n → (p.getD t 0).toNat < n := fun t ht => by have := hq t ht; omega
  have hqe : ∀ t, t < n → xo + p.getD t 0 * xi = ((pos xo xi 0 (p.getD t 0).toNat : Nat) : Int) := fun t ht => by have h1 := vpos_eq hxR (hqn t ht); rw [show ((p.getD t 0).toNat : Int) = p.getD t 0 by have := hq t ht; omega] at h1; exact h1
  have hA : ∀ k, k < n → (setV l xo xi n (tkB p f k)).set (0 + pos xo xi 0 (n - 1 - k)) (tkB p f k (p.getD (n - 1 - k) 0).toNat) = (setV l xo xi n (updV (tkB p f k) (n - 1 - k) (tkB p f k (p.getD (n - 1 - k) 0).toNat))) := fun k hk => (by rw [Nat.zero_add, set_setV hxR (by omega)])
  have hB : ∀ k, k < n → (setV l xo xi n (updV (tkB p f k) (n - 1 - k) (tkB p f k (p.getD (n - 1 - k) 0).toNat))).set (0 + pos xo xi 0 (p.getD (n - 1 - k) 0).toNat) (tkB p f k (n - 1 - k)) = (setV l xo xi n (tkB p f (k + 1))) := fun k hk => (by rw [Nat.zero_add, set_setV hxR (hqn _ (by omega))]; exact setV_congr hxR.2.2.1 hxR.2.1 fun i hi => (swV_eq i).trans (by rw [← hpl]; rfl))
  refine .mk (fun args w => Tryz.call104 args w) (Spec.intro' (fn := Tryz.f104) Tryz.func104 rfl (by kernel_rfl) (by simp) false [] (draw := drawX Tryz.prog ⟨false, _, []⟩) dOk ?_)
  simp only [argE, Nat.reduceAdd]
  repeat' (first
    | (refine gateE ?_; (first | refine b_c0 ?_ | refine b_nil ?_ | fail))
    | (refine gateO ?_; (first | refine m41 ?_ | refine b_moveI ?_ | refine m14 ?_ | (refine m17 ?_; first | refine m19 ?_ | refine m18 ?_) | (refine m07 ?_; (first | refine m15 ?_ | refine m16 ?_ | refine l_IL (hIL _ _) (by omega) ?_ | refine l_sv hbl hxR (show n - 1 - k < n by omega) ?_ | refine l_sv hbl hxR (hqn (n - 1 - k) (by omega)) ?_ | fail)) | refine b_nilC (by (conv => {lhs; whnf}); done) ?_ | refine b_lenA (by (conv => {lhs; whnf}); done) (by exact hPl) ?_ | refine b_iaN (by (conv => {lhs; whnf}); done) (by (conv => {lhs; whnf}); done) (by exact hPl) (by omega) ?_ | refine b_iaM (m := pos xo xi 0 (n - 1 - k)) (by (conv => {lhs; whnf}); done) (by (conv => {lhs; whnf}); done) (by exact rfl) (by exact vpos_eq hxR (by omega)) (by exact vpos_lt hxR (by omega)) ?_ | refine b_iaM (m := pos xo xi 0 (p.getD (n - 1 - k) 0).toNat) (by (conv => {lhs; whnf}); done) (by (conv => {lhs; whnf}); done) (by exact rfl) (by exact hqe _ (by omega)) (by exact vpos_lt hxR (hqn _ (by omega))) ?_ | refine b_stB (X' := (setV l xo xi n (updV (tkB p f k) (n - 1 - k) (tkB p f k (p.getD (n - 1 - k) 0).toNat)))) (by (conv => {lhs; whnf}); done) (by (conv => {lhs; whnf}); done) hbl (by simp) (by simp; exact vpos_lt hxR (by omega)) (by exact hA k (by omega)) ?_ | refine b_stB (X' := (setV l xo xi n (tkB p f (k + 1)))) (by (conv => {lhs; whnf}); done) (by (conv => {lhs; whnf}); done) hbl (by simp) (by simp; exact vpos_lt hxR (hqn _ (by omega))) (by exact hB k (by omega)) ?_ | (refine m00 ?_; (first | refine v_to ((k + 1 : Nat) : Int) (by omega) (by omega) ?_ | refine v_to (((n - 1 - k : Nat) : Int)) (by omega) (by omega) ?_ | refine v_w (by first | omega | (have h1 := right_at hxR (i := (((n - 1 - k) : Nat) : Int)) (by omega) (by omega); have h2 := right_at hxR (i := (p.getD (n - 1 - k) 0)) (by have := hq (n - 1 - k) (by omega); omega) (by have := hq (n - 1 - k) (by omega); omega); omega) | fail) ?_ | refine m47 ?_ | refine m48 ?_ | refine m49 ?_ | refine m50 ?_ | refine v_k ?_ | refine m51 ?_ | fail)) | refine m08 ?_ | refine b_lenA (by (conv => {lhs; whnf}); done) (by first | rfl | assumption) ?_ | refine m25 ?_ | refine m01 ?_ | fail))
    | (refine gateD ?_; (first | refine m36 ?_ | refine d_nil ?_ | fail))
    | (refine gateC ?_; (first | refine k_lt ?_ | refine k_fz ?_ | refine k_lb (by (conv => {lhs; whnf}); done) ?_ | refine k_ms ?_ | refine k_bx (by exact rfl) (by exact rfl) ?_ | refine m34 ?_ | refine m35 ?_ | refine m33 ?_ | refine k_mn ?_ | refine m56 ?_ | refine k_mnF ?_ | refine k_mnL (by exact rfl) ?_ | fail))
    | (refine gateT ?_; (first | refine b_thn ?_ | refine b_thr ?_ | refine b_the ?_ | fail))
    | (refine gateX ?_; (first | refine b_seq ?_ | refine b_region ?_ | (refine m06 ?_; (first | refine c_T ?_ | refine c_F ?_ | refine c_P ?_ ?_ | refine c_B ?_ ?_ | fail)) | refine b_ret ?_ | refine b_skip ?_ | refine b_block ?_ | refine b_exit ?_ | refine b_draw (id := 7) [] [] [(0, .lt), (1, .ld true), (2, .lt), (3, .ld true), (4, .lt), (5, .lt), (6, .ld true), (7, .lt), (8, .lt), (9, .lt), (10, .lt), (11, .ld true), (12, .lt), (13, .ld true), (14, .lt), (15, .lt), (16, .lt), (17, .ld true), (18, .lt), (19, .ld true), (20, .lt), (21, .lt), (22, .lt), (23, .lt), (24, .lt)] (by kernel_rfl) ?_ | refine b_draw (id := 8) [] [9, 11] [(0, .lt), (1, .lt), (2, .lt), (3, .lt), (4, .ld true), (5, .lt), (6, .lt), (7, .ld true), (8, .lt), (9, .mn false), (10, .lt), (11, .mn false)] (by kernel_rfl) ?_ | (refine b_loop [1, 2, 3, 11, 12] n (fun k => ⟨[(1, .val P), (2, .val (.bool true)), (3, .loc 3 0), (11, .val (.int .i64 ((n : Nat) : Int))), (12, .val (.int .i64 ((k : Nat) : Int)))], [(3, [(.slm b l.length 0 l.length 1), .int .i64 xo, .int .i64 (n : Int), .int .i64 xi])], H.set b (fl (setV l xo xi n (tkB p f k))) ++ []⟩) (by exact rfl) ?_ ?_ <;> (first | intro k hk K hK | intro K) <;> (try dsimp only at *)) | fail))
    | (refine gateB ?_; (first | refine b_bln ?_ | refine b_blr ?_ | refine b_ble ?_ | refine m57 ?_ | fail))
    | (refine gateL ?_; (first | refine lp_n ?_ | refine lp_r ?_ | refine lp_e ?_ | fail))
    | (refine pr_k (by exact rfl) ?_; first | exact hK | fail | (exfalso; first | omega | (simp_all; done) | (simp_all; omega)))
    | (refine gateQ ?_; refine m05 ?_)
    | (refine gateR ?_; (first | refine m04 ?_ | refine m02 ?_ | refine m03 ?_ | refine rk_nil ?_ | fail))
    | intro _)
  all_goals first
    | (exfalso; contradiction)
    | (exfalso; omega)
    | (refine rv_old (by simp) (by simp [mx, mxL, resOne, aOf, aOf1]) ?_; exact rfl)


set_option maxHeartbeats 4000000 in
theorem rsub_c (H : List (List AV)) (x y z : Nat) :
    CSpec Tryz.prog 163 [.flt x, .flt y, .flt z] H (.flt (fsub x (fmul y z))) H := by
  refine .mk (fun args w => Tryz.call163 args w) (Spec.intro' (fn := Tryz.f163) Tryz.func163 rfl (by kernel_rfl) (by simp) false [] (draw := drawX Tryz.prog ⟨false, _, []⟩) dOk ?_)
  simp only [argE, Nat.reduceAdd]
  repeat' (first
    | (refine gateE ?_; (first | refine b_c0 ?_ | refine b_nil ?_ | fail))
    | (refine gateO ?_; (first | refine m14 ?_ | refine m42 ?_ | refine b_assignI ?_ | refine b_assignN ?_ | refine m08 ?_ | refine b_callB ?_ | fail))
    | (refine gateT ?_; (first | refine b_thn ?_ | refine b_thr ?_ | refine b_the ?_ | fail))
    | (refine gateX ?_; (first | refine b_seq ?_ | refine b_region ?_ | (refine m06 ?_; (first | refine c_T ?_ | refine c_F ?_ | refine c_P ?_ ?_ | refine c_B ?_ ?_ | fail)) | refine b_ret ?_ | refine b_skip ?_ | refine b_block ?_ | refine b_exit ?_ | fail))
    | refine m21 ?_
    | refine a_nil ?_
    | (refine gateK ?_; (first | refine c_call (times_c _ _ _) (OldOk.app (by simp)) ?_ | refine c_call (less_c _ _ _) (OldOk.app (by simp)) ?_ | fail))
    | (refine gateQ ?_; refine m05 ?_)
    | (refine gateR ?_; (first | refine m04 ?_ | refine m02 ?_ | refine m03 ?_ | refine rk_nil ?_ | fail))
    | intro _)
  all_goals first | refine rv_old rfl (by simp [mx, mxL, aOf, aOf1, resOne]) ?_ | (trace_state; fail)
  all_goals exact rfl

end
theorem rml_src {A N : List (List AV)} {D : AV} {f : Nat → Nat} {n : Nat} (h : FL A D (rml f n)) : srcX (A ++ N) 1 D = some (n, fl (rml f n)) := by
  have := src_fl' (N := N) h
  rwa [rml_len] at this
section
attribute [local irreducible] Ex exOps exD opX opE thenX blkX RetQ Spec CSpec Fr condK guardK guardD ckK valK pickK loadK faK callK argK gK fK rK RetV lpX prK
set_option maxHeartbeats 4000000 in
theorem rtake_f (H : List (List AV)) (X : AV) (f : Nat → Nat) (n : Nat) (hX : FL H X (rml f n)) (hn : n ≤ 1000) (P : AV) (p : List Int) (hP : IL H P p) (hpl : p.length = n) (hpv : pivP p) :
    CSpec Tryz.prog 118 [X, P, .bool false] H (.sl none n (fl (rml (tkF p f n) n))) H := by
  have hPl : slen P = some n := (by rw [← hpl]; exact hP.len)
  have hq : ∀ t, t < n → 0 ≤ p.getD t 0 ∧ p.getD t 0 < n := fun t ht => by have := hpv t (by omega); omega
  have hqn : ∀ t, t < n → (p.getD t 0).toNat < n := fun t ht => by have := hq t ht; omega
  have hqe : ∀ t, t < n → p.getD t 0 = (((p.getD t 0).toNat : Nat) : Int) := fun t ht => by have := hq t ht; omega
  have hA : ∀ k, k < n → (rml (tkF p f k) n).set (k) ((rml (tkF p f k) n).getD (p.getD (k) 0).toNat 0) = (rml (updV (tkF p f k) (k) (tkF p f k (p.getD (k) 0).toNat)) n) := fun k hk => (by rw [rml_get (hqn _ (by omega)), rml_set (by omega)])
  have hB : ∀ k, k < n → (rml (updV (tkF p f k) (k) (tkF p f k (p.getD (k) 0).toNat)) n).set (p.getD (k) 0).toNat ((rml (tkF p f k) n).getD (k) 0) = (rml (tkF p f (k + 1)) n) := fun k hk => (by rw [rml_get (by omega)]; exact rml_set' (hqn _ (by omega)) fun i hi => (swV_eq i))
  refine .mk (fun args w => Tryz.call118 args w) (Spec.intro' (fn := Tryz.f118) Tryz.func118 rfl (by kernel_rfl) (by simp) false [] (draw := drawX Tryz.prog ⟨false, _, []⟩) dOk ?_)
  simp only [argE, Nat.reduceAdd]
  repeat' (first
    | (refine gateE ?_; (first | refine b_c0 ?_ | refine b_nil ?_ | fail))
    | (refine gateO ?_; (first | refine m14 ?_ | (refine m07 ?_; (first | refine m15 ?_ | refine m16 ?_ | refine l_IL (hP.app _) (by omega) ?_ | refine l_FL (FL.blk (by exact rfl) (by exact rfl) (by simp) (by simp)) (by simp; first | omega | exact hqn _ (by omega)) ?_ | fail)) | refine b_bslN (by exact rfl) (by exact rfl) (by decide) (by exact rfl) (by (conv => {lhs; whnf}); done) ?_ | refine b_appN (by (conv => {lhs; whnf}); done) (by (conv => {lhs; whnf}); done) (by exact rfl) (by exact rfl) (by exact (rml_src hX)) (by simp) (by exact rfl) (by simp; omega) (.inl (Nat.le_refl _)) (by exact rfl) (by (conv => {lhs; simp only [List.nil_append, fl_app, il_app, rml_len]}); done) (by (conv => {lhs; simp only [List.set_cons_zero, List.set_cons_succ]}); done) (by (conv => {lhs; simp only [fl_len, il_len, List.length_append, List.length_nil, Nat.zero_add, rml_len]}); done) (by (conv => {lhs; simp only [Nat.zero_add, rml_len]}); done) ?_ | refine b_lenA (by (conv => {lhs; whnf}); done) (by exact hPl) ?_ | refine b_iaN (by (conv => {lhs; whnf}); done) (by (conv => {lhs; whnf}); done) (by exact hPl) (by omega) ?_ | refine b_iaM (m := k) (by (conv => {lhs; whnf}); done) (by (conv => {lhs; whnf}); done) (by exact rfl) (by omega) (by omega) ?_ | refine b_iaM (m := (p.getD (k) 0).toNat) (by (conv => {lhs; whnf}); done) (by (conv => {lhs; whnf}); done) (by exact rfl) (by exact hqe _ (by omega)) (by exact hqn _ (by omega)) ?_ | refine b_stN (i := 0) (m' := (rml (updV (tkF p f k) (k) (tkF p f k (p.getD (k) 0).toNat)) n)) (by (conv => {lhs; whnf}); done) (by (conv => {lhs; whnf}); done) (by exact rfl) (by exact rfl) (by simp) (by simp; omega) (by rw [Nat.zero_add]; exact hA k (by omega)) (by exact rfl) ?_ | refine b_stN (i := 0) (m' := (rml (tkF p f (k + 1)) n)) (by (conv => {lhs; whnf}); done) (by (conv => {lhs; whnf}); done) (by exact rfl) (by exact rfl) (by simp) (by simp; exact hqn _ (by omega)) (by rw [Nat.zero_add]; exact hB k (by omega)) (by exact rfl) ?_ | (refine m00 ?_; (first | refine v_to ((k + 1 : Nat) : Int) (by omega) (by omega) ?_ | refine v_to (((k : Nat) : Int)) (by omega) (by omega) ?_ | refine m47 ?_ | refine m48 ?_ | refine m49 ?_ | refine m50 ?_ | refine v_k ?_ | refine m51 ?_ | fail)) | refine m42 ?_ | refine b_assignI ?_ | refine b_assignN ?_ | refine m08 ?_ | refine b_lenA (by (conv => {lhs; whnf}); done) (by first | rfl | assumption) ?_ | refine m25 ?_ | refine b_bslZ (by exact rfl) (by exact rfl) (by decide) ?_ | fail))
    | (refine gateD ?_; (first | refine m36 ?_ | refine d_nil ?_ | fail))
    | (refine gateC ?_; (first | refine k_lt ?_ | refine k_fz ?_ | refine k_lb (by (conv => {lhs; whnf}); done) ?_ | refine k_ms ?_ | refine k_bx (by exact rfl) (by exact rfl) ?_ | refine m34 ?_ | refine m35 ?_ | refine m33 ?_ | refine k_mn ?_ | refine m56 ?_ | refine k_mnF ?_ | refine k_mnL (by exact rfl) ?_ | fail))
    | (refine gateT ?_; (first | refine b_thn ?_ | refine b_thr ?_ | refine b_the ?_ | fail))
    | (refine gateX ?_; (first | refine b_seq ?_ | refine b_region ?_ | (refine m06 ?_; (first | refine c_T ?_ | refine c_F ?_ | refine c_P ?_ ?_ | refine c_B ?_ ?_ | fail)) | refine b_ret ?_ | refine b_skip ?_ | refine b_block ?_ | refine b_exit ?_ | refine b_draw (id := 8) [] [] [(0, .lt), (1, .lt), (2, .lt), (3, .ld true), (4, .lt), (5, .lt), (6, .lt), (7, .lt), (8, .ld true), (9, .lt), (10, .ld true), (11, .lt), (12, .lt)] (by kernel_rfl) ?_ | (refine b_loop [1, 2, 7, 8] n (fun k => ⟨[(1, .val P), (2, .val (.bool false)), (7, .val (.slm (H.length + 0) n 0 n 1)), (8, .val (.int .i64 ((k : Nat) : Int)))], [], H ++ [fl (rml (tkF p f k) n)]⟩) (by exact rfl) ?_ ?_ <;> (first | intro k hk K hK | intro K) <;> (try dsimp only at *)) | fail))
    | refine m44 ?_
    | refine m40 ?_
    | (refine gk_nilN (by (conv => {lhs; simp only [List.nil_append, List.cons_append]}); done) ?_; first | refine ⟨by exact rfl, ?_⟩ | skip)
    | refine gk_nil ?_
    | (intro N' hN'; simp only [List.nil_append, List.cons_append] at hN'; subst hN')
    | (refine gateB ?_; (first | refine b_bln ?_ | refine b_blr ?_ | refine b_ble ?_ | refine m57 ?_ | fail))
    | (refine gateL ?_; (first | refine lp_n ?_ | refine lp_r ?_ | refine lp_e ?_ | fail))
    | (refine pr_k (by exact rfl) ?_; first | exact hK | fail | (exfalso; first | omega | (simp_all; done) | (simp_all; omega)))
    | (refine gateQ ?_; refine m05 ?_)
    | (refine gateR ?_; (first | refine m04 ?_ | refine m02 ?_ | refine m03 ?_ | refine rk_nil ?_ | fail))
    | (refine ⟨by simp [oneC], fun N' hN' => ?_⟩; simp only [List.nil_append, List.cons_append] at hN'; subst hN')
    | intro _)
  all_goals first
    | (exfalso; contradiction)
    | (exfalso; omega)
    | (refine rv_fr rfl ?_; exact (Fr.fz (by omega) (by simp) (hg_new rfl rfl) (by simp) (gc_all _ (by simp)) (Frs.old (by rw [mxL_fl]; exact Nat.zero_le _))))

set_option maxHeartbeats 4000000 in
theorem rtake_b (H : List (List AV)) (X : AV) (f : Nat → Nat) (n : Nat) (hX : FL H X (rml f n)) (hn : n ≤ 1000) (P : AV) (p : List Int) (hP : IL H P p) (hpl : p.length = n) (hpv : pivP p) :
    CSpec Tryz.prog 118 [X, P, .bool true] H (.sl none n (fl (rml (tkB p f n) n))) H := by
  have hPl : slen P = some n := (by rw [← hpl]; exact hP.len)
  have hq : ∀ t, t < n → 0 ≤ p.getD t 0 ∧ p.getD t 0 < n := fun t ht => by have := hpv t (by omega); omega
  have hqn : ∀ t, t < n → (p.getD t 0).toNat < n := fun t ht => by have := hq t ht; omega
  have hqe : ∀ t, t < n → p.getD t 0 = (((p.getD t 0).toNat : Nat) : Int) := fun t ht => by have := hq t ht; omega
  have hA : ∀ k, k < n → (rml (tkB p f k) n).set (n - 1 - k) ((rml (tkB p f k) n).getD (p.getD (n - 1 - k) 0).toNat 0) = (rml (updV (tkB p f k) (n - 1 - k) (tkB p f k (p.getD (n - 1 - k) 0).toNat)) n) := fun k hk => (by rw [rml_get (hqn _ (by omega)), rml_set (by omega)])
  have hB : ∀ k, k < n → (rml (updV (tkB p f k) (n - 1 - k) (tkB p f k (p.getD (n - 1 - k) 0).toNat)) n).set (p.getD (n - 1 - k) 0).toNat ((rml (tkB p f k) n).getD (n - 1 - k) 0) = (rml (tkB p f (k + 1)) n) := fun k hk => (by rw [rml_get (by omega)]; exact rml_set' (hqn _ (by omega)) fun i hi => (swV_eq i).trans (by rw [← hpl]; rfl))
  refine .mk (fun args w => Tryz.call118 args w) (Spec.intro' (fn := Tryz.f118) Tryz.func118 rfl (by kernel_rfl) (by simp) false [] (draw := drawX Tryz.prog ⟨false, _, []⟩) dOk ?_)
  simp only [argE, Nat.reduceAdd]
  repeat' (first
    | (refine gateE ?_; (first | refine b_c0 ?_ | refine b_nil ?_ | fail))
    | (refine gateO ?_; (first | refine m14 ?_ | (refine m07 ?_; (first | refine m15 ?_ | refine m16 ?_ | refine l_IL (hP.app _) (by omega) ?_ | refine l_FL (FL.blk (by exact rfl) (by exact rfl) (by simp) (by simp)) (by simp; first | omega | exact hqn _ (by omega)) ?_ | fail)) | refine b_bslN (by exact rfl) (by exact rfl) (by decide) (by exact rfl) (by (conv => {lhs; whnf}); done) ?_ | refine b_appN (by (conv => {lhs; whnf}); done) (by (conv => {lhs; whnf}); done) (by exact rfl) (by exact rfl) (by exact (rml_src hX)) (by simp) (by exact rfl) (by simp; omega) (.inl (Nat.le_refl _)) (by exact rfl) (by (conv => {lhs; simp only [List.nil_append, fl_app, il_app, rml_len]}); done) (by (conv => {lhs; simp only [List.set_cons_zero, List.set_cons_succ]}); done) (by (conv => {lhs; simp only [fl_len, il_len, List.length_append, List.length_nil, Nat.zero_add, rml_len]}); done) (by (conv => {lhs; simp only [Nat.zero_add, rml_len]}); done) ?_ | refine b_lenA (by (conv => {lhs; whnf}); done) (by exact hPl) ?_ | refine b_iaN (by (conv => {lhs; whnf}); done) (by (conv => {lhs; whnf}); done) (by exact hPl) (by omega) ?_ | refine b_iaM (m := n - 1 - k) (by (conv => {lhs; whnf}); done) (by (conv => {lhs; whnf}); done) (by exact rfl) (by omega) (by omega) ?_ | refine b_iaM (m := (p.getD (n - 1 - k) 0).toNat) (by (conv => {lhs; whnf}); done) (by (conv => {lhs; whnf}); done) (by exact rfl) (by exact hqe _ (by omega)) (by exact hqn _ (by omega)) ?_ | refine b_stN (i := 0) (m' := (rml (updV (tkB p f k) (n - 1 - k) (tkB p f k (p.getD (n - 1 - k) 0).toNat)) n)) (by (conv => {lhs; whnf}); done) (by (conv => {lhs; whnf}); done) (by exact rfl) (by exact rfl) (by simp) (by simp; omega) (by rw [Nat.zero_add]; exact hA k (by omega)) (by exact rfl) ?_ | refine b_stN (i := 0) (m' := (rml (tkB p f (k + 1)) n)) (by (conv => {lhs; whnf}); done) (by (conv => {lhs; whnf}); done) (by exact rfl) (by exact rfl) (by simp) (by simp; exact hqn _ (by omega)) (by rw [Nat.zero_add]; exact hB k (by omega)) (by exact rfl) ?_ | (refine m00 ?_; (first | refine v_to ((k + 1 : Nat) : Int) (by omega) (by omega) ?_ | refine v_to (((n - 1 - k : Nat) : Int)) (by omega) (by omega) ?_ | refine m47 ?_ | refine m48 ?_ | refine m49 ?_ | refine m50 ?_ | refine v_k ?_ | refine m51 ?_ | fail)) | refine m42 ?_ | refine b_assignI ?_ | refine b_assignN ?_ | refine m08 ?_ | refine b_lenA (by (conv => {lhs; whnf}); done) (by first | rfl | assumption) ?_ | refine m25 ?_ | refine b_bslZ (by exact rfl) (by exact rfl) (by decide) ?_ | fail))
    | (refine gateD ?_; (first | refine m36 ?_ | refine d_nil ?_ | fail))
    | (refine gateC ?_; (first | refine k_lt ?_ | refine k_fz ?_ | refine k_lb (by (conv => {lhs; whnf}); done) ?_ | refine k_ms ?_ | refine k_bx (by exact rfl) (by exact rfl) ?_ | refine m34 ?_ | refine m35 ?_ | refine m33 ?_ | refine k_mn ?_ | refine m56 ?_ | refine k_mnF ?_ | refine k_mnL (by exact rfl) ?_ | fail))
    | (refine gateT ?_; (first | refine b_thn ?_ | refine b_thr ?_ | refine b_the ?_ | fail))
    | (refine gateX ?_; (first | refine b_seq ?_ | refine b_region ?_ | (refine m06 ?_; (first | refine c_T ?_ | refine c_F ?_ | refine c_P ?_ ?_ | refine c_B ?_ ?_ | fail)) | refine b_ret ?_ | refine b_skip ?_ | refine b_block ?_ | refine b_exit ?_ | refine b_draw (id := 8) [] [] [(0, .lt), (1, .lt), (2, .lt), (3, .ld true), (4, .lt), (5, .lt), (6, .lt), (7, .lt), (8, .ld true), (9, .lt), (10, .ld true), (11, .lt), (12, .lt)] (by kernel_rfl) ?_ | (refine b_loop [1, 2, 7, 8] n (fun k => ⟨[(1, .val P), (2, .val (.bool true)), (7, .val (.slm (H.length + 0) n 0 n 1)), (8, .val (.int .i64 ((k : Nat) : Int)))], [], H ++ [fl (rml (tkB p f k) n)]⟩) (by exact rfl) ?_ ?_ <;> (first | intro k hk K hK | intro K) <;> (try dsimp only at *)) | fail))
    | refine m44 ?_
    | refine m40 ?_
    | (refine gk_nilN (by (conv => {lhs; simp only [List.nil_append, List.cons_append]}); done) ?_; first | refine ⟨by exact rfl, ?_⟩ | skip)
    | refine gk_nil ?_
    | (intro N' hN'; simp only [List.nil_append, List.cons_append] at hN'; subst hN')
    | (refine gateB ?_; (first | refine b_bln ?_ | refine b_blr ?_ | refine b_ble ?_ | refine m57 ?_ | fail))
    | (refine gateL ?_; (first | refine lp_n ?_ | refine lp_r ?_ | refine lp_e ?_ | fail))
    | (refine pr_k (by exact rfl) ?_; first | exact hK | fail | (exfalso; first | omega | (simp_all; done) | (simp_all; omega)))
    | (refine gateQ ?_; refine m05 ?_)
    | (refine gateR ?_; (first | refine m04 ?_ | refine m02 ?_ | refine m03 ?_ | refine rk_nil ?_ | fail))
    | (refine ⟨by simp [oneC], fun N' hN' => ?_⟩; simp only [List.nil_append, List.cons_append] at hN'; subst hN')
    | intro _)
  all_goals first
    | (exfalso; contradiction)
    | (exfalso; omega)
    | (refine rv_fr rfl ?_; exact (Fr.fz (by omega) (by simp) (hg_new rfl rfl) (by simp) (gc_all _ (by simp)) (Frs.old (by rw [mxL_fl]; exact Nat.zero_le _))))


theorem tat_i (H : List (List AV)) (A : AV) (a : Nat → Nat → Nat) (n : Nat) (hA : FL H A (rmA a n n)) (hn : n ≤ 1000) (i j : Nat) (hi : i < n) (hj : j < n) (ii jj : Int) (hii : ii = (i : Int)) (hjj : jj = (j : Int)) :
    CSpec Tryz.prog 32 [mM A n n, .int .i64 ii, .int .i64 jj] H (.flt (a i j)) H := by
  subst hii hjj
  exact tat_m H A a n n hA hn hn i j hi hj
theorem rml_sub {f g : Nat → Nat} {n i j x : Nat} (hi : i < n) (hj : j < n) (h : ∀ t, t < n → updV f i (fsub (f i) (fmul x (f j))) t = g t) : (rml f n).set i (fsub ((rml f n).getD i 0) (fmul x ((rml f n).getD j 0))) = rml g n := by
  rw [rml_get hi, rml_get hj]; exact rml_set' hi h
theorem rml_div {f g : Nat → Nat} {n i x : Nat} (hi : i < n) (h : ∀ t, t < n → updV f i (fdiv (f i) x) t = g t) : (rml f n).set i (fdiv ((rml f n).getD i 0) x) = rml g n := by
  rw [rml_get hi]; exact rml_set' hi h
set_option maxHeartbeats 4000000 in
theorem rsol_1 (H : List (List AV)) (X : AV) (f : Nat → Nat) (n : Nat) (hX : FL H X (rml f n)) (hn : n ≤ 1000) (A : AV) (a : Nat → Nat → Nat) (hA : FL H A (rmA a n n)) :
    CSpec Tryz.prog 117 [.int .i64 1, mM A n n, X] H (.tup [.sl none n (fl (rml (lo1 a f n) n)), .bool true]) H := by
  have hnn : n * n ≤ 1000000 := (by have := Nat.mul_le_mul hn hn; omega)
  have hS0 : (rml f n) = (rml (lo1R a f 0 0) n) := rml_congr fun i hi => (lo1R_first i).symm
  have hS9 : (rml (lo1R a f n 0) n) = (rml (lo1 a f n) n) := rml_congr fun i hi => lo1R_last i hi
  have hrow : ∀ k, (rml (lo1R a f k k) n) = (rml (lo1R a f (k + 1) 0) n) := fun k => rml_congr fun i hi => lo1R_row i
  rw [← hS9]
  refine .mk (fun args w => Tryz.call117 args w) (Spec.intro' (fn := Tryz.f117) Tryz.func117 rfl (by kernel_rfl) (by simp) false [] (draw := drawX Tryz.prog ⟨false, _, []⟩) dOk ?_)
  simp only [argE, Nat.reduceAdd]
  repeat' (first
    | (refine gateE ?_; (first | refine b_c0 ?_ | refine b_nil ?_ | refine m13 ?_ | refine m12 ?_ | refine m11 ?_ | (refine m10 ?_; (first | refine g_TT ?_ | refine g_FF ?_ | refine g_TF ?_ | refine g_FT ?_ | refine g_PT ?_ ?_ | refine g_PF ?_ ?_ | refine g_BT ?_ ?_ | refine g_BF ?_ ?_ | fail)) | (refine m09 ?_; (first | refine g_TT ?_ | refine g_FF ?_ | refine g_TF ?_ | refine g_FT ?_ | refine g_PT ?_ ?_ | refine g_PF ?_ ?_ | refine g_BT ?_ ?_ | refine g_BF ?_ ?_ | fail)) | refine m38 ?_ | fail))
    | (refine gateO ?_; (first | refine m14 ?_ | (refine m17 ?_; first | refine m19 ?_ | refine m18 ?_) | (refine m07 ?_; (first | refine m15 ?_ | refine m16 ?_ | refine l_FL (FL.blk (by exact rfl) (by exact rfl) (by simp) (by simp)) (by simp; omega) ?_ | fail)) | refine b_bslN (by exact rfl) (by exact rfl) (by decide) (by exact rfl) (by (conv => {lhs; whnf}); done) ?_ | refine b_appN (by (conv => {lhs; whnf}); done) (by (conv => {lhs; whnf}); done) (by exact rfl) (by exact rfl) (by exact (rml_src hX)) (by simp) (by exact rfl) (by simp; omega) (.inl (Nat.le_refl _)) (by exact rfl) (by (conv => {lhs; simp only [List.nil_append, fl_app, il_app, rml_len]}); done) (by (conv => {lhs; simp only [List.set_cons_zero, List.set_cons_succ]}); done) (by (conv => {lhs; simp only [fl_len, il_len, List.length_append, List.length_nil, Nat.zero_add, rml_len]}); done) (by (conv => {lhs; simp only [Nat.zero_add, rml_len]}); done) ?_ | refine b_iaM (m := k) (by (conv => {lhs; whnf}); done) (by (conv => {lhs; whnf}); done) (by exact rfl) (by omega) (by omega) ?_ | refine b_iaM (m := t) (by (conv => {lhs; whnf}); done) (by (conv => {lhs; whnf}); done) (by exact rfl) (by omega) (by omega) ?_ | refine b_stN (i := 0) (m' := (rml (lo1R a f k (t + 1)) n)) (by (conv => {lhs; whnf}); done) (by (conv => {lhs; whnf}); done) (by exact rfl) (by exact rfl) (by simp) (by simp; omega) (by rw [Nat.zero_add]; exact rml_sub (by omega) (by omega) (fun i hi => lo1R_step (by omega) i)) (by exact rfl) ?_ | (refine m45 ?_; (first | refine v_to ((t + 1 : Nat) : Int) (by omega) (by omega) ?_ | refine v_to ((k + 1 : Nat) : Int) (by omega) (by omega) ?_ | refine v_bbT (by exact rfl) ?_ | refine v_k ?_ | fail)) | (refine m00 ?_; (first | refine v_to ((t + 1 : Nat) : Int) (by omega) (by omega) ?_ | refine v_to ((k + 1 : Nat) : Int) (by omega) (by omega) ?_ | refine m52 ?_ | refine m53 ?_ | refine v_eP ?_ | refine m47 ?_ | refine m48 ?_ | refine m49 ?_ | refine m50 ?_ | refine v_k ?_ | refine m51 ?_ | fail)) | (refine m22 ?_; (first | refine m26 ?_ | refine m27 ?_ | fail)) | refine m42 ?_ | refine b_assignI ?_ | refine b_assignN ?_ | refine m08 ?_ | refine b_callB ?_ | refine m25 ?_ | refine m01 ?_ | refine b_bslZ (by exact rfl) (by exact rfl) (by decide) ?_ | fail))
    | (refine gateD ?_; (first | refine m36 ?_ | refine d_nil ?_ | refine m32 ?_ | refine m31 ?_ | refine m30 ?_ | (refine m28 ?_; (first | refine dg_TT ?_ | refine dg_FF ?_ | refine dg_TF ?_ | refine dg_FT ?_ | refine dg_PT ?_ ?_ | refine dg_PF ?_ ?_ | refine dg_BT ?_ ?_ | refine dg_BF ?_ ?_ | fail)) | (refine m29 ?_; (first | refine dg_TT ?_ | refine dg_FF ?_ | refine dg_TF ?_ | refine dg_FT ?_ | refine dg_PT ?_ ?_ | refine dg_PF ?_ ?_ | refine dg_BT ?_ ?_ | refine dg_BF ?_ ?_ | fail)) | refine m37 ?_ | fail))
    | (refine gateC ?_; (first | refine k_lt ?_ | refine k_fz ?_ | refine k_lb (by (conv => {lhs; whnf}); done) ?_ | refine k_ms ?_ | refine k_bx (by exact rfl) (by exact rfl) ?_ | refine m34 ?_ | refine m35 ?_ | refine m33 ?_ | refine k_mn ?_ | refine m56 ?_ | refine k_mnF ?_ | refine k_mnL (by exact rfl) ?_ | fail))
    | (refine gateT ?_; (first | refine b_thn ?_ | refine b_thr ?_ | refine b_the ?_ | fail))
    | (refine gateX ?_; (first | refine b_seq ?_ | refine b_region ?_ | (refine m06 ?_; (first | refine c_T ?_ | refine c_F ?_ | refine c_P ?_ ?_ | refine c_B ?_ ?_ | fail)) | refine b_ret ?_ | refine b_skip ?_ | refine b_block ?_ | refine b_exit ?_ | refine b_draw (id := 15) [] [16] [(0, .lt), (1, .lt), (2, .lt), (3, .lt), (4, .lt), (5, .ld true), (6, .ld true), (7, .lt), (8, .lt), (10, .lt), (11, .lt), (12, .lt), (13, .ld true), (9, .mn true), (14, .mn true), (15, .lt), (16, .mn false)] (by kernel_rfl) ?_ | refine b_draw (id := 23) [] [16] [(0, .lt), (1, .lt), (2, .lt), (3, .lt), (4, .lt), (5, .ld true), (6, .ld true), (7, .lt), (8, .lt), (10, .lt), (11, .lt), (12, .lt), (13, .ld true), (9, .mn true), (14, .mn true), (15, .lt), (16, .mn false)] (by kernel_rfl) ?_ | refine b_draw (id := 24) [] [12] [(0, .lt), (1, .lt), (2, .lt), (3, .lt), (4, .lt), (5, .ld true), (6, .ld true), (7, .lt), (8, .lt), (9, .mn true), (10, .mn true), (11, .lt), (12, .mn false)] (by kernel_rfl) ?_ | refine b_draw (id := 32) [] [16] [(0, .lt), (1, .lt), (2, .lt), (3, .lt), (4, .lt), (5, .ld true), (6, .ld true), (7, .lt), (8, .lt), (10, .lt), (11, .lt), (12, .lt), (13, .ld true), (9, .mn true), (14, .mn true), (15, .lt), (16, .mn false)] (by kernel_rfl) ?_ | refine b_draw (id := 40) [] [16] [(0, .lt), (1, .lt), (2, .lt), (3, .lt), (4, .lt), (5, .ld true), (6, .ld true), (7, .lt), (8, .lt), (10, .lt), (11, .lt), (12, .lt), (13, .ld true), (9, .mn true), (14, .mn true), (15, .lt), (16, .mn false)] (by kernel_rfl) ?_ | refine b_draw (id := 41) [] [12] [(0, .lt), (1, .lt), (2, .lt), (3, .lt), (4, .lt), (5, .ld true), (6, .ld true), (7, .lt), (8, .lt), (9, .mn true), (10, .mn true), (11, .lt), (12, .mn false)] (by kernel_rfl) ?_ | (refine b_loop [0, 4, 8, 9, 11, 12] k (fun t => ⟨[(0, .val (.int .i64 1)), (4, .loc 4 0), (8, .val (.int .i64 ((n : Nat) : Int))), (9, .val (.slm (H.length + 0) n 0 n 1)), (11, .val (.int .i64 ((k : Nat) : Int))), (12, .val (.int .i64 ((t : Nat) : Int)))], [(4, [.int .i64 (n : Int), .int .i64 (n : Int), A])], H ++ [fl (rml (lo1R a f k t) n)]⟩) (by exact rfl) ?_ ?_ <;> (first | intro t ht K hK | intro K) <;> (try dsimp only at *)) | (refine b_loop [0, 4, 8, 9, 11] n (fun k => ⟨[(0, .val (.int .i64 1)), (4, .loc 4 0), (8, .val (.int .i64 ((n : Nat) : Int))), (9, .val (.slm (H.length + 0) n 0 n 1)), (11, .val (.int .i64 ((k : Nat) : Int)))], [(4, [.int .i64 (n : Int), .int .i64 (n : Int), A])], H ++ [fl (rml (lo1R a f k 0) n)]⟩) (by simp only [hS0]; exact rfl) ?_ ?_ <;> (first | intro k hk K hK | intro K) <;> (try dsimp only at *)) | (refine b_loop [0, 4, 8, 9, 10] n (fun k => ⟨[(0, .val (.int .i64 1)), (4, .loc 4 0), (8, .val (.int .i64 ((n : Nat) : Int))), (9, .val (.slm (H.length + 0) n 0 n 1)), (10, .val (.int .i64 ((k : Nat) : Int)))], [(4, [.int .i64 (n : Int), .int .i64 (n : Int), A])], H ++ [fl (rml f n)]⟩) (by exact rfl) ?_ ?_ <;> (first | intro k hk K hK | intro K) <;> (try dsimp only at *)) | fail))
    | refine m21 ?_
    | refine a_nil ?_
    | (refine gateK ?_; (first | refine c_call (tat_i _ A a n (FL.app hA _) hn (k) (t) (by omega) (by omega) _ _ (by omega) (by omega)) (OldOk.app (by simp)) ?_ | refine c_call (rsub_c _ _ _ _) (OldOk.app (by simp)) ?_ | refine c_call (rover_c _ _ _) (OldOk.app (by simp)) ?_ | fail))
    | refine m44 ?_
    | refine m40 ?_
    | (refine gk_nilN (by (conv => {lhs; simp only [List.nil_append, List.cons_append]}); done) ?_; first | refine ⟨by exact rfl, ?_⟩ | skip)
    | refine gk_nil ?_
    | (intro N' hN'; simp only [List.nil_append, List.cons_append] at hN'; subst hN')
    | (refine gateB ?_; (first | refine b_bln ?_ | refine b_blr ?_ | refine b_ble ?_ | refine m57 ?_ | fail))
    | (refine gateL ?_; (first | refine lp_n ?_ | refine lp_r ?_ | refine lp_e ?_ | fail))
    | (refine pr_k (by exact rfl) ?_; first | exact hK | (rw [hrow]; exact hK) | (exfalso; first | omega | (simp_all; done) | (simp_all; omega)))
    | (refine gateQ ?_; refine m05 ?_)
    | (refine gateR ?_; (first | refine m04 ?_ | refine m02 ?_ | refine m03 ?_ | refine rk_nil ?_ | fail))
    | (refine ⟨by simp [oneC], fun N' hN' => ?_⟩; simp only [List.nil_append, List.cons_append] at hN'; subst hN')
    | intro _)
  all_goals first
    | (exfalso; contradiction)
    | (exfalso; omega)
    | exact False.elim (feq0 (hz k (by omega)) (by assumption))
    | (refine rv_fr rfl ?_; exact Fr.tup (Frs.cons (Fr.fz (by omega) (by simp) (hg_new rfl rfl) (by simp) (gc_all _ (by simp)) (Frs.old (by rw [mxL_fl]; exact Nat.zero_le _))) (Frs.cons (Fr.old (by simp [mx, aOf, aOf1])) Frs.nil)))

set_option maxHeartbeats 4000000 in
theorem rsol_2 (H : List (List AV)) (X : AV) (f : Nat → Nat) (n : Nat) (hX : FL H X (rml f n)) (hn : n ≤ 1000) (A : AV) (a : Nat → Nat → Nat) (hA : FL H A (rmA a n n)) (hz : ∀ k, k < n → feq (a k k) 0 = false) :
    CSpec Tryz.prog 117 [.int .i64 2, mM A n n, X] H (.tup [.sl none n (fl (rml (up2 a f n n) n)), .bool true]) H := by
  have hnn : n * n ≤ 1000000 := (by have := Nat.mul_le_mul hn hn; omega)
  have hS0 : (rml f n) = (rml (up2R a f n 0 0) n) := rml_congr fun i hi => (up2R_first i hi).symm
  have hS9 : (rml (up2R a f n n 0) n) = (rml (up2 a f n n) n) := rml_congr fun i hi => up2R_last i hi
  rw [← hS9]
  refine .mk (fun args w => Tryz.call117 args w) (Spec.intro' (fn := Tryz.f117) Tryz.func117 rfl (by kernel_rfl) (by simp) false [] (draw := drawX Tryz.prog ⟨false, _, []⟩) dOk ?_)
  simp only [argE, Nat.reduceAdd]
  repeat' (first
    | (refine gateE ?_; (first | refine b_c0 ?_ | refine b_nil ?_ | refine m13 ?_ | refine m12 ?_ | refine m11 ?_ | (refine m10 ?_; (first | refine g_TT ?_ | refine g_FF ?_ | refine g_TF ?_ | refine g_FT ?_ | refine g_PT ?_ ?_ | refine g_PF ?_ ?_ | refine g_BT ?_ ?_ | refine g_BF ?_ ?_ | fail)) | (refine m09 ?_; (first | refine g_TT ?_ | refine g_FF ?_ | refine g_TF ?_ | refine g_FT ?_ | refine g_PT ?_ ?_ | refine g_PF ?_ ?_ | refine g_BT ?_ ?_ | refine g_BF ?_ ?_ | fail)) | refine m38 ?_ | fail))
    | (refine gateO ?_; (first | refine m14 ?_ | (refine m17 ?_; first | refine m19 ?_ | refine m18 ?_) | (refine m07 ?_; (first | refine m15 ?_ | refine m16 ?_ | refine l_FL (FL.blk (by exact rfl) (by exact rfl) (by simp) (by simp)) (by simp; omega) ?_ | fail)) | refine b_bslN (by exact rfl) (by exact rfl) (by decide) (by exact rfl) (by (conv => {lhs; whnf}); done) ?_ | refine b_appN (by (conv => {lhs; whnf}); done) (by (conv => {lhs; whnf}); done) (by exact rfl) (by exact rfl) (by exact (rml_src hX)) (by simp) (by exact rfl) (by simp; omega) (.inl (Nat.le_refl _)) (by exact rfl) (by (conv => {lhs; simp only [List.nil_append, fl_app, il_app, rml_len]}); done) (by (conv => {lhs; simp only [List.set_cons_zero, List.set_cons_succ]}); done) (by (conv => {lhs; simp only [fl_len, il_len, List.length_append, List.length_nil, Nat.zero_add, rml_len]}); done) (by (conv => {lhs; simp only [Nat.zero_add, rml_len]}); done) ?_ | refine b_iaM (m := (n - 1 - k)) (by (conv => {lhs; whnf}); done) (by (conv => {lhs; whnf}); done) (by exact rfl) (by omega) (by omega) ?_ | refine b_iaM (m := n - 1 - t) (by (conv => {lhs; whnf}); done) (by (conv => {lhs; whnf}); done) (by exact rfl) (by omega) (by omega) ?_ | refine b_stN (i := 0) (m' := (rml (up2R a f n k (t + 1)) n)) (by (conv => {lhs; whnf}); done) (by (conv => {lhs; whnf}); done) (by exact rfl) (by exact rfl) (by simp) (by simp; omega) (by rw [Nat.zero_add]; exact rml_sub (by omega) (by omega) (fun i hi => up2R_step (by omega) (by omega) i)) (by exact rfl) ?_ | refine b_stN (i := 0) (m' := (rml (up2R a f n (k + 1) 0) n)) (by (conv => {lhs; whnf}); done) (by (conv => {lhs; whnf}); done) (by exact rfl) (by exact rfl) (by simp) (by simp; omega) (by rw [Nat.zero_add]; exact rml_div (by omega) (fun i hi => up2R_row (by omega) i)) (by exact rfl) ?_ | (refine m45 ?_; (first | refine v_to ((n : Int) - 1 - ((k + 1 : Nat) : Int)) (by omega) (by omega) ?_ | refine v_to ((n : Int) - 1 - ((0 : Nat) : Int)) (by omega) (by omega) ?_ | refine v_to ((n : Int) - 1 - ((t + 1 : Nat) : Int)) (by omega) (by omega) ?_ | refine v_to ((k + 1 : Nat) : Int) (by omega) (by omega) ?_ | refine v_bbT (by exact rfl) ?_ | refine v_k ?_ | fail)) | (refine m00 ?_; (first | refine v_to ((n : Int) - 1 - ((k + 1 : Nat) : Int)) (by omega) (by omega) ?_ | refine v_to ((n : Int) - 1 - ((0 : Nat) : Int)) (by omega) (by omega) ?_ | refine v_to ((n : Int) - 1 - ((t + 1 : Nat) : Int)) (by omega) (by omega) ?_ | refine v_to ((k + 1 : Nat) : Int) (by omega) (by omega) ?_ | refine m52 ?_ | refine m53 ?_ | refine v_eP ?_ | refine m47 ?_ | refine m48 ?_ | refine m49 ?_ | refine m50 ?_ | refine v_k ?_ | refine m51 ?_ | fail)) | (refine m22 ?_; (first | refine m26 ?_ | refine m27 ?_ | fail)) | refine m42 ?_ | refine b_assignI ?_ | refine b_assignN ?_ | refine m08 ?_ | refine b_callB ?_ | refine m25 ?_ | refine m01 ?_ | refine b_bslZ (by exact rfl) (by exact rfl) (by decide) ?_ | fail))
    | (refine gateD ?_; (first | refine m36 ?_ | refine d_nil ?_ | refine m32 ?_ | refine m31 ?_ | refine m30 ?_ | (refine m28 ?_; (first | refine dg_TT ?_ | refine dg_FF ?_ | refine dg_TF ?_ | refine dg_FT ?_ | refine dg_PT ?_ ?_ | refine dg_PF ?_ ?_ | refine dg_BT ?_ ?_ | refine dg_BF ?_ ?_ | fail)) | (refine m29 ?_; (first | refine dg_TT ?_ | refine dg_FF ?_ | refine dg_TF ?_ | refine dg_FT ?_ | refine dg_PT ?_ ?_ | refine dg_PF ?_ ?_ | refine dg_BT ?_ ?_ | refine dg_BF ?_ ?_ | fail)) | refine m37 ?_ | fail))
    | (refine gateC ?_; (first | refine k_lt ?_ | refine k_fz ?_ | refine k_lb (by (conv => {lhs; whnf}); done) ?_ | refine k_ms ?_ | refine k_bx (by exact rfl) (by exact rfl) ?_ | refine m34 ?_ | refine m35 ?_ | refine m33 ?_ | refine k_mn ?_ | refine m56 ?_ | refine k_mnF ?_ | refine k_mnL (by exact rfl) ?_ | fail))
    | (refine gateT ?_; (first | refine b_thn ?_ | refine b_thr ?_ | refine b_the ?_ | fail))
    | (refine gateX ?_; (first | refine b_seq ?_ | refine b_region ?_ | (refine m06 ?_; (first | refine c_T ?_ | refine c_F ?_ | refine c_P ?_ ?_ | refine c_B ?_ ?_ | fail)) | refine b_ret ?_ | refine b_skip ?_ | refine b_block ?_ | refine b_exit ?_ | refine b_draw (id := 15) [] [16] [(0, .lt), (1, .lt), (2, .lt), (3, .lt), (4, .lt), (5, .ld true), (6, .ld true), (7, .lt), (8, .lt), (10, .lt), (11, .lt), (12, .lt), (13, .ld true), (9, .mn true), (14, .mn true), (15, .lt), (16, .mn false)] (by kernel_rfl) ?_ | refine b_draw (id := 23) [] [16] [(0, .lt), (1, .lt), (2, .lt), (3, .lt), (4, .lt), (5, .ld true), (6, .ld true), (7, .lt), (8, .lt), (10, .lt), (11, .lt), (12, .lt), (13, .ld true), (9, .mn true), (14, .mn true), (15, .lt), (16, .mn false)] (by kernel_rfl) ?_ | refine b_draw (id := 24) [] [12] [(0, .lt), (1, .lt), (2, .lt), (3, .lt), (4, .lt), (5, .ld true), (6, .ld true), (7, .lt), (8, .lt), (9, .mn true), (10, .mn true), (11, .lt), (12, .mn false)] (by kernel_rfl) ?_ | refine b_draw (id := 32) [] [16] [(0, .lt), (1, .lt), (2, .lt), (3, .lt), (4, .lt), (5, .ld true), (6, .ld true), (7, .lt), (8, .lt), (10, .lt), (11, .lt), (12, .lt), (13, .ld true), (9, .mn true), (14, .mn true), (15, .lt), (16, .mn false)] (by kernel_rfl) ?_ | refine b_draw (id := 40) [] [16] [(0, .lt), (1, .lt), (2, .lt), (3, .lt), (4, .lt), (5, .ld true), (6, .ld true), (7, .lt), (8, .lt), (10, .lt), (11, .lt), (12, .lt), (13, .ld true), (9, .mn true), (14, .mn true), (15, .lt), (16, .mn false)] (by kernel_rfl) ?_ | refine b_draw (id := 41) [] [12] [(0, .lt), (1, .lt), (2, .lt), (3, .lt), (4, .lt), (5, .ld true), (6, .ld true), (7, .lt), (8, .lt), (9, .mn true), (10, .mn true), (11, .lt), (12, .mn false)] (by kernel_rfl) ?_ | (refine b_loop [0, 4, 8, 9, 13, 14] k (fun t => ⟨[(0, .val (.int .i64 2)), (4, .loc 4 0), (8, .val (.int .i64 ((n : Nat) : Int))), (9, .val (.slm (H.length + 0) n 0 n 1)), (13, .val (.int .i64 ((n : Int) - 1 - (k : Int)))), (14, .val (.int .i64 ((n : Int) - 1 - (t : Int))))], [(4, [.int .i64 (n : Int), .int .i64 (n : Int), A])], H ++ [fl (rml (up2R a f n k t) n)]⟩) (by exact rfl) ?_ ?_ <;> (first | intro t ht K hK | intro K) <;> (try dsimp only at *)) | (refine b_loop [0, 4, 8, 9, 13] n (fun k => ⟨[(0, .val (.int .i64 2)), (4, .loc 4 0), (8, .val (.int .i64 ((n : Nat) : Int))), (9, .val (.slm (H.length + 0) n 0 n 1)), (13, .val (.int .i64 ((n : Int) - 1 - (k : Int))))], [(4, [.int .i64 (n : Int), .int .i64 (n : Int), A])], H ++ [fl (rml (up2R a f n k 0) n)]⟩) (by simp only [hS0]; exact rfl) ?_ ?_ <;> (first | intro k hk K hK | intro K) <;> (try dsimp only at *)) | (refine b_loop [0, 4, 8, 9, 10] n (fun k => ⟨[(0, .val (.int .i64 2)), (4, .loc 4 0), (8, .val (.int .i64 ((n : Nat) : Int))), (9, .val (.slm (H.length + 0) n 0 n 1)), (10, .val (.int .i64 ((k : Nat) : Int)))], [(4, [.int .i64 (n : Int), .int .i64 (n : Int), A])], H ++ [fl (rml f n)]⟩) (by exact rfl) ?_ ?_ <;> (first | intro k hk K hK | intro K) <;> (try dsimp only at *)) | fail))
    | refine m21 ?_
    | refine a_nil ?_
    | (refine gateK ?_; (first | refine c_call (tat_i _ A a n (FL.app hA _) hn ((n - 1 - k)) (n - 1 - t) (by omega) (by omega) _ _ (by omega) (by omega)) (OldOk.app (by simp)) ?_ | refine c_call (tat_i _ A a n (FL.app hA _) hn ((n - 1 - k)) ((n - 1 - k)) (by omega) (by omega) _ _ (by omega) (by omega)) (OldOk.app (by simp)) ?_ | refine c_call (tat_i _ A a n (FL.app hA _) hn (k) (k) (by omega) (by omega) _ _ (by omega) (by omega)) (OldOk.app (by simp)) ?_ | refine c_call (rsub_c _ _ _ _) (OldOk.app (by simp)) ?_ | refine c_call (rover_c _ _ _) (OldOk.app (by simp)) ?_ | fail))
    | refine m44 ?_
    | refine m40 ?_
    | (refine gk_nilN (by (conv => {lhs; simp only [List.nil_append, List.cons_append]}); done) ?_; first | refine ⟨by exact rfl, ?_⟩ | skip)
    | refine gk_nil ?_
    | (intro N' hN'; simp only [List.nil_append, List.cons_append] at hN'; subst hN')
    | (refine gateB ?_; (first | refine b_bln ?_ | refine b_blr ?_ | refine b_ble ?_ | refine m57 ?_ | fail))
    | (refine gateL ?_; (first | refine lp_n ?_ | refine lp_r ?_ | refine lp_e ?_ | fail))
    | (refine pr_k (by exact rfl) ?_; first | exact hK | fail | (exfalso; first | omega | (simp_all; done) | (simp_all; omega)))
    | (refine gateQ ?_; refine m05 ?_)
    | (refine gateR ?_; (first | refine m04 ?_ | refine m02 ?_ | refine m03 ?_ | refine rk_nil ?_ | fail))
    | (refine ⟨by simp [oneC], fun N' hN' => ?_⟩; simp only [List.nil_append, List.cons_append] at hN'; subst hN')
    | intro _)
  all_goals first
    | (exfalso; contradiction)
    | (exfalso; omega)
    | exact False.elim (feq0 (hz k (by omega)) (by assumption))
    | (refine rv_fr rfl ?_; exact Fr.tup (Frs.cons (Fr.fz (by omega) (by simp) (hg_new rfl rfl) (by simp) (gc_all _ (by simp)) (Frs.old (by rw [mxL_fl]; exact Nat.zero_le _))) (Frs.cons (Fr.old (by simp [mx, aOf, aOf1])) Frs.nil)))

set_option maxHeartbeats 4000000 in
theorem rsol_3 (H : List (List AV)) (X : AV) (f : Nat → Nat) (n : Nat) (hX : FL H X (rml f n)) (hn : n ≤ 1000) (A : AV) (a : Nat → Nat → Nat) (hA : FL H A (rmA a n n)) :
    CSpec Tryz.prog 117 [.int .i64 3, mM A n n, X] H (.tup [.sl none n (fl (rml (lt3 a f n n) n)), .bool true]) H := by
  have hnn : n * n ≤ 1000000 := (by have := Nat.mul_le_mul hn hn; omega)
  have hS0 : ∀ k, (rml (updV (lt3 a f n k) (n - 1 - k) (in3 a (lt3 a f n k) (n - 1 - k) 0)) n) = (rml (lt3 a f n k) n) := fun k => rml_congr fun i hi => in3_first i
  have hB : ∀ k, (rml (updV (lt3 a f n k) (n - 1 - k) (in3 a (lt3 a f n k) (n - 1 - k) k)) n) = (rml (lt3 a f n (k + 1)) n) := fun k => rfl
  refine .mk (fun args w => Tryz.call117 args w) (Spec.intro' (fn := Tryz.f117) Tryz.func117 rfl (by kernel_rfl) (by simp) false [] (draw := drawX Tryz.prog ⟨false, _, []⟩) dOk ?_)
  simp only [argE, Nat.reduceAdd]
  repeat' (first
    | (refine gateE ?_; (first | refine b_c0 ?_ | refine b_nil ?_ | refine m13 ?_ | refine m12 ?_ | refine m11 ?_ | (refine m10 ?_; (first | refine g_TT ?_ | refine g_FF ?_ | refine g_TF ?_ | refine g_FT ?_ | refine g_PT ?_ ?_ | refine g_PF ?_ ?_ | refine g_BT ?_ ?_ | refine g_BF ?_ ?_ | fail)) | (refine m09 ?_; (first | refine g_TT ?_ | refine g_FF ?_ | refine g_TF ?_ | refine g_FT ?_ | refine g_PT ?_ ?_ | refine g_PF ?_ ?_ | refine g_BT ?_ ?_ | refine g_BF ?_ ?_ | fail)) | refine m38 ?_ | fail))
    | (refine gateO ?_; (first | refine m14 ?_ | (refine m17 ?_; first | refine m19 ?_ | refine m18 ?_) | (refine m07 ?_; (first | refine m15 ?_ | refine m16 ?_ | refine l_FL (FL.blk (by exact rfl) (by exact rfl) (by simp) (by simp)) (by simp; omega) ?_ | fail)) | refine b_bslN (by exact rfl) (by exact rfl) (by decide) (by exact rfl) (by (conv => {lhs; whnf}); done) ?_ | refine b_appN (by (conv => {lhs; whnf}); done) (by (conv => {lhs; whnf}); done) (by exact rfl) (by exact rfl) (by exact (rml_src hX)) (by simp) (by exact rfl) (by simp; omega) (.inl (Nat.le_refl _)) (by exact rfl) (by (conv => {lhs; simp only [List.nil_append, fl_app, il_app, rml_len]}); done) (by (conv => {lhs; simp only [List.set_cons_zero, List.set_cons_succ]}); done) (by (conv => {lhs; simp only [fl_len, il_len, List.length_append, List.length_nil, Nat.zero_add, rml_len]}); done) (by (conv => {lhs; simp only [Nat.zero_add, rml_len]}); done) ?_ | refine b_iaM (m := (n - 1 - k)) (by (conv => {lhs; whnf}); done) (by (conv => {lhs; whnf}); done) (by exact rfl) (by omega) (by omega) ?_ | refine b_iaM (m := n - 1 - k + 1 + t) (by (conv => {lhs; whnf}); done) (by (conv => {lhs; whnf}); done) (by exact rfl) (by omega) (by omega) ?_ | refine b_stN (i := 0) (m' := (rml (updV (lt3 a f n k) (n - 1 - k) (in3 a (lt3 a f n k) (n - 1 - k) (t + 1))) n)) (by (conv => {lhs; whnf}); done) (by (conv => {lhs; whnf}); done) (by exact rfl) (by exact rfl) (by simp) (by simp; omega) (by rw [Nat.zero_add]; exact rml_sub (by omega) (by omega) (fun i hi => in3_step i)) (by exact rfl) ?_ | (refine m45 ?_; (first | refine v_to ((n - 1 - k + 1 + t + 1 : Nat) : Int) (by omega) (by omega) ?_ | refine v_to ((n - 1 - k + 1 : Nat) : Int) (by omega) (by omega) ?_ | refine v_to ((n : Int) - 1 - ((k + 1 : Nat) : Int)) (by omega) (by omega) ?_ | refine v_to ((n : Int) - 1 - ((0 : Nat) : Int)) (by omega) (by omega) ?_ | refine v_to ((k + 1 : Nat) : Int) (by omega) (by omega) ?_ | refine v_bbT (by exact rfl) ?_ | refine v_k ?_ | fail)) | (refine m00 ?_; (first | refine v_to ((n - 1 - k + 1 + t + 1 : Nat) : Int) (by omega) (by omega) ?_ | refine v_to ((n - 1 - k + 1 : Nat) : Int) (by omega) (by omega) ?_ | refine v_to ((n : Int) - 1 - ((k + 1 : Nat) : Int)) (by omega) (by omega) ?_ | refine v_to ((n : Int) - 1 - ((0 : Nat) : Int)) (by omega) (by omega) ?_ | refine v_to ((k + 1 : Nat) : Int) (by omega) (by omega) ?_ | refine m52 ?_ | refine m53 ?_ | refine v_eP ?_ | refine m47 ?_ | refine m48 ?_ | refine m49 ?_ | refine m50 ?_ | refine v_k ?_ | refine m51 ?_ | fail)) | (refine m22 ?_; (first | refine m26 ?_ | refine m27 ?_ | fail)) | refine m42 ?_ | refine b_assignI ?_ | refine b_assignN ?_ | refine m08 ?_ | refine b_callB ?_ | refine m25 ?_ | refine m01 ?_ | refine b_bslZ (by exact rfl) (by exact rfl) (by decide) ?_ | fail))
    | (refine gateD ?_; (first | refine m36 ?_ | refine d_nil ?_ | refine m32 ?_ | refine m31 ?_ | refine m30 ?_ | (refine m28 ?_; (first | refine dg_TT ?_ | refine dg_FF ?_ | refine dg_TF ?_ | refine dg_FT ?_ | refine dg_PT ?_ ?_ | refine dg_PF ?_ ?_ | refine dg_BT ?_ ?_ | refine dg_BF ?_ ?_ | fail)) | (refine m29 ?_; (first | refine dg_TT ?_ | refine dg_FF ?_ | refine dg_TF ?_ | refine dg_FT ?_ | refine dg_PT ?_ ?_ | refine dg_PF ?_ ?_ | refine dg_BT ?_ ?_ | refine dg_BF ?_ ?_ | fail)) | refine m37 ?_ | fail))
    | (refine gateC ?_; (first | refine k_lt ?_ | refine k_fz ?_ | refine k_lb (by (conv => {lhs; whnf}); done) ?_ | refine k_ms ?_ | refine k_bx (by exact rfl) (by exact rfl) ?_ | refine m34 ?_ | refine m35 ?_ | refine m33 ?_ | refine k_mn ?_ | refine m56 ?_ | refine k_mnF ?_ | refine k_mnL (by exact rfl) ?_ | fail))
    | (refine gateT ?_; (first | refine b_thn ?_ | refine b_thr ?_ | refine b_the ?_ | fail))
    | (refine gateX ?_; (first | refine b_seq ?_ | refine b_region ?_ | (refine m06 ?_; (first | refine c_T ?_ | refine c_F ?_ | refine c_P ?_ ?_ | refine c_B ?_ ?_ | fail)) | refine b_ret ?_ | refine b_skip ?_ | refine b_block ?_ | refine b_exit ?_ | refine b_draw (id := 15) [] [16] [(0, .lt), (1, .lt), (2, .lt), (3, .lt), (4, .lt), (5, .ld true), (6, .ld true), (7, .lt), (8, .lt), (10, .lt), (11, .lt), (12, .lt), (13, .ld true), (9, .mn true), (14, .mn true), (15, .lt), (16, .mn false)] (by kernel_rfl) ?_ | refine b_draw (id := 23) [] [16] [(0, .lt), (1, .lt), (2, .lt), (3, .lt), (4, .lt), (5, .ld true), (6, .ld true), (7, .lt), (8, .lt), (10, .lt), (11, .lt), (12, .lt), (13, .ld true), (9, .mn true), (14, .mn true), (15, .lt), (16, .mn false)] (by kernel_rfl) ?_ | refine b_draw (id := 24) [] [12] [(0, .lt), (1, .lt), (2, .lt), (3, .lt), (4, .lt), (5, .ld true), (6, .ld true), (7, .lt), (8, .lt), (9, .mn true), (10, .mn true), (11, .lt), (12, .mn false)] (by kernel_rfl) ?_ | refine b_draw (id := 32) [] [16] [(0, .lt), (1, .lt), (2, .lt), (3, .lt), (4, .lt), (5, .ld true), (6, .ld true), (7, .lt), (8, .lt), (10, .lt), (11, .lt), (12, .lt), (13, .ld true), (9, .mn true), (14, .mn true), (15, .lt), (16, .mn false)] (by kernel_rfl) ?_ | refine b_draw (id := 40) [] [16] [(0, .lt), (1, .lt), (2, .lt), (3, .lt), (4, .lt), (5, .ld true), (6, .ld true), (7, .lt), (8, .lt), (10, .lt), (11, .lt), (12, .lt), (13, .ld true), (9, .mn true), (14, .mn true), (15, .lt), (16, .mn false)] (by kernel_rfl) ?_ | refine b_draw (id := 41) [] [12] [(0, .lt), (1, .lt), (2, .lt), (3, .lt), (4, .lt), (5, .ld true), (6, .ld true), (7, .lt), (8, .lt), (9, .mn true), (10, .mn true), (11, .lt), (12, .mn false)] (by kernel_rfl) ?_ | (refine b_loop [0, 4, 8, 9, 15, 16] k (fun t => ⟨[(0, .val (.int .i64 3)), (4, .loc 4 0), (8, .val (.int .i64 ((n : Nat) : Int))), (9, .val (.slm (H.length + 0) n 0 n 1)), (15, .val (.int .i64 ((n : Int) - 1 - (k : Int)))), (16, .val (.int .i64 ((n - 1 - k + 1 + t : Nat) : Int)))], [(4, [.int .i64 (n : Int), .int .i64 (n : Int), A])], H ++ [fl (rml (updV (lt3 a f n k) (n - 1 - k) (in3 a (lt3 a f n k) (n - 1 - k) t)) n)]⟩) (by simp only [hS0]; exact rfl) ?_ ?_ <;> (first | intro t ht K hK | intro K) <;> (try dsimp only at *)) | (refine b_loop [0, 4, 8, 9, 15] n (fun k => ⟨[(0, .val (.int .i64 3)), (4, .loc 4 0), (8, .val (.int .i64 ((n : Nat) : Int))), (9, .val (.slm (H.length + 0) n 0 n 1)), (15, .val (.int .i64 ((n : Int) - 1 - (k : Int))))], [(4, [.int .i64 (n : Int), .int .i64 (n : Int), A])], H ++ [fl (rml (lt3 a f n k) n)]⟩) (by exact rfl) ?_ ?_ <;> (first | intro k hk K hK | intro K) <;> (try dsimp only at *)) | (refine b_loop [0, 4, 8, 9, 10] n (fun k => ⟨[(0, .val (.int .i64 3)), (4, .loc 4 0), (8, .val (.int .i64 ((n : Nat) : Int))), (9, .val (.slm (H.length + 0) n 0 n 1)), (10, .val (.int .i64 ((k : Nat) : Int)))], [(4, [.int .i64 (n : Int), .int .i64 (n : Int), A])], H ++ [fl (rml f n)]⟩) (by exact rfl) ?_ ?_ <;> (first | intro k hk K hK | intro K) <;> (try dsimp only at *)) | fail))
    | refine m21 ?_
    | refine a_nil ?_
    | (refine gateK ?_; (first | refine c_call (tat_i _ A a n (FL.app hA _) hn ((n - 1 - k) + 1 + t) ((n - 1 - k)) (by omega) (by omega) _ _ (by omega) (by omega)) (OldOk.app (by simp)) ?_ | refine c_call (rsub_c _ _ _ _) (OldOk.app (by simp)) ?_ | refine c_call (rover_c _ _ _) (OldOk.app (by simp)) ?_ | fail))
    | refine m44 ?_
    | refine m40 ?_
    | (refine gk_nilN (by (conv => {lhs; simp only [List.nil_append, List.cons_append]}); done) ?_; first | refine ⟨by exact rfl, ?_⟩ | skip)
    | refine gk_nil ?_
    | (intro N' hN'; simp only [List.nil_append, List.cons_append] at hN'; subst hN')
    | (refine gateB ?_; (first | refine b_bln ?_ | refine b_blr ?_ | refine b_ble ?_ | refine m57 ?_ | fail))
    | (refine gateL ?_; (first | refine lp_n ?_ | refine lp_r ?_ | refine lp_e ?_ | fail))
    | (refine pr_k (by exact rfl) ?_; first | exact hK | (rw [hB]; exact hK) | (exfalso; first | omega | (simp_all; done) | (simp_all; omega)))
    | (refine gateQ ?_; refine m05 ?_)
    | (refine gateR ?_; (first | refine m04 ?_ | refine m02 ?_ | refine m03 ?_ | refine rk_nil ?_ | fail))
    | (refine ⟨by simp [oneC], fun N' hN' => ?_⟩; simp only [List.nil_append, List.cons_append] at hN'; subst hN')
    | intro _)
  all_goals first
    | (exfalso; contradiction)
    | (exfalso; omega)
    | exact False.elim (feq0 (hz k (by omega)) (by assumption))
    | (refine rv_fr rfl ?_; exact Fr.tup (Frs.cons (Fr.fz (by omega) (by simp) (hg_new rfl rfl) (by simp) (gc_all _ (by simp)) (Frs.old (by rw [mxL_fl]; exact Nat.zero_le _))) (Frs.cons (Fr.old (by simp [mx, aOf, aOf1])) Frs.nil)))

set_option maxHeartbeats 4000000 in
theorem rsol_4 (H : List (List AV)) (X : AV) (f : Nat → Nat) (n : Nat) (hX : FL H X (rml f n)) (hn : n ≤ 1000) (A : AV) (a : Nat → Nat → Nat) (hA : FL H A (rmA a n n)) (hz : ∀ k, k < n → feq (a k k) 0 = false) :
    CSpec Tryz.prog 117 [.int .i64 4, mM A n n, X] H (.tup [.sl none n (fl (rml (ut4 a f n) n)), .bool true]) H := by
  have hnn : n * n ≤ 1000000 := (by have := Nat.mul_le_mul hn hn; omega)
  have hS0 : ∀ k, (rml (updV (ut4 a f k) k (in4 a (ut4 a f k) k 0)) n) = (rml (ut4 a f k) n) := fun k => rml_congr fun i hi => in4_first i
  refine .mk (fun args w => Tryz.call117 args w) (Spec.intro' (fn := Tryz.f117) Tryz.func117 rfl (by kernel_rfl) (by simp) false [] (draw := drawX Tryz.prog ⟨false, _, []⟩) dOk ?_)
  simp only [argE, Nat.reduceAdd]
  repeat' (first
    | (refine gateE ?_; (first | refine b_c0 ?_ | refine b_nil ?_ | refine m13 ?_ | refine m12 ?_ | refine m11 ?_ | (refine m10 ?_; (first | refine g_TT ?_ | refine g_FF ?_ | refine g_TF ?_ | refine g_FT ?_ | refine g_PT ?_ ?_ | refine g_PF ?_ ?_ | refine g_BT ?_ ?_ | refine g_BF ?_ ?_ | fail)) | (refine m09 ?_; (first | refine g_TT ?_ | refine g_FF ?_ | refine g_TF ?_ | refine g_FT ?_ | refine g_PT ?_ ?_ | refine g_PF ?_ ?_ | refine g_BT ?_ ?_ | refine g_BF ?_ ?_ | fail)) | refine m38 ?_ | fail))
    | (refine gateO ?_; (first | refine m14 ?_ | (refine m17 ?_; first | refine m19 ?_ | refine m18 ?_) | (refine m07 ?_; (first | refine m15 ?_ | refine m16 ?_ | refine l_FL (FL.blk (by exact rfl) (by exact rfl) (by simp) (by simp)) (by simp; omega) ?_ | fail)) | refine b_bslN (by exact rfl) (by exact rfl) (by decide) (by exact rfl) (by (conv => {lhs; whnf}); done) ?_ | refine b_appN (by (conv => {lhs; whnf}); done) (by (conv => {lhs; whnf}); done) (by exact rfl) (by exact rfl) (by exact (rml_src hX)) (by simp) (by exact rfl) (by simp; omega) (.inl (Nat.le_refl _)) (by exact rfl) (by (conv => {lhs; simp only [List.nil_append, fl_app, il_app, rml_len]}); done) (by (conv => {lhs; simp only [List.set_cons_zero, List.set_cons_succ]}); done) (by (conv => {lhs; simp only [fl_len, il_len, List.length_append, List.length_nil, Nat.zero_add, rml_len]}); done) (by (conv => {lhs; simp only [Nat.zero_add, rml_len]}); done) ?_ | refine b_iaM (m := k) (by (conv => {lhs; whnf}); done) (by (conv => {lhs; whnf}); done) (by exact rfl) (by omega) (by omega) ?_ | refine b_iaM (m := t) (by (conv => {lhs; whnf}); done) (by (conv => {lhs; whnf}); done) (by exact rfl) (by omega) (by omega) ?_ | refine b_stN (i := 0) (m' := (rml (updV (ut4 a f k) k (in4 a (ut4 a f k) k (t + 1))) n)) (by (conv => {lhs; whnf}); done) (by (conv => {lhs; whnf}); done) (by exact rfl) (by exact rfl) (by simp) (by simp; omega) (by rw [Nat.zero_add]; exact rml_sub (by omega) (by omega) (fun i hi => in4_step (by omega) i)) (by exact rfl) ?_ | refine b_stN (i := 0) (m' := (rml (ut4 a f (k + 1)) n)) (by (conv => {lhs; whnf}); done) (by (conv => {lhs; whnf}); done) (by exact rfl) (by exact rfl) (by simp) (by simp; omega) (by rw [Nat.zero_add]; exact rml_div (by omega) (fun i hi => in4_row i)) (by exact rfl) ?_ | (refine m45 ?_; (first | refine v_to ((t + 1 : Nat) : Int) (by omega) (by omega) ?_ | refine v_to ((k + 1 : Nat) : Int) (by omega) (by omega) ?_ | refine v_bbT (by exact rfl) ?_ | refine v_k ?_ | fail)) | (refine m00 ?_; (first | refine v_to ((t + 1 : Nat) : Int) (by omega) (by omega) ?_ | refine v_to ((k + 1 : Nat) : Int) (by omega) (by omega) ?_ | refine m52 ?_ | refine m53 ?_ | refine v_eP ?_ | refine m47 ?_ | refine m48 ?_ | refine m49 ?_ | refine m50 ?_ | refine v_k ?_ | refine m51 ?_ | fail)) | (refine m22 ?_; (first | refine m26 ?_ | refine m27 ?_ | fail)) | refine m42 ?_ | refine b_assignI ?_ | refine b_assignN ?_ | refine m08 ?_ | refine b_callB ?_ | refine m25 ?_ | refine m01 ?_ | refine b_bslZ (by exact rfl) (by exact rfl) (by decide) ?_ | fail))
    | (refine gateD ?_; (first | refine m36 ?_ | refine d_nil ?_ | refine m32 ?_ | refine m31 ?_ | refine m30 ?_ | (refine m28 ?_; (first | refine dg_TT ?_ | refine dg_FF ?_ | refine dg_TF ?_ | refine dg_FT ?_ | refine dg_PT ?_ ?_ | refine dg_PF ?_ ?_ | refine dg_BT ?_ ?_ | refine dg_BF ?_ ?_ | fail)) | (refine m29 ?_; (first | refine dg_TT ?_ | refine dg_FF ?_ | refine dg_TF ?_ | refine dg_FT ?_ | refine dg_PT ?_ ?_ | refine dg_PF ?_ ?_ | refine dg_BT ?_ ?_ | refine dg_BF ?_ ?_ | fail)) | refine m37 ?_ | fail))
    | (refine gateC ?_; (first | refine k_lt ?_ | refine k_fz ?_ | refine k_lb (by (conv => {lhs; whnf}); done) ?_ | refine k_ms ?_ | refine k_bx (by exact rfl) (by exact rfl) ?_ | refine m34 ?_ | refine m35 ?_ | refine m33 ?_ | refine k_mn ?_ | refine m56 ?_ | refine k_mnF ?_ | refine k_mnL (by exact rfl) ?_ | fail))
    | (refine gateT ?_; (first | refine b_thn ?_ | refine b_thr ?_ | refine b_the ?_ | fail))
    | (refine gateX ?_; (first | refine b_seq ?_ | refine b_region ?_ | (refine m06 ?_; (first | refine c_T ?_ | refine c_F ?_ | refine c_P ?_ ?_ | refine c_B ?_ ?_ | fail)) | refine b_ret ?_ | refine b_skip ?_ | refine b_block ?_ | refine b_exit ?_ | refine b_draw (id := 15) [] [16] [(0, .lt), (1, .lt), (2, .lt), (3, .lt), (4, .lt), (5, .ld true), (6, .ld true), (7, .lt), (8, .lt), (10, .lt), (11, .lt), (12, .lt), (13, .ld true), (9, .mn true), (14, .mn true), (15, .lt), (16, .mn false)] (by kernel_rfl) ?_ | refine b_draw (id := 23) [] [16] [(0, .lt), (1, .lt), (2, .lt), (3, .lt), (4, .lt), (5, .ld true), (6, .ld true), (7, .lt), (8, .lt), (10, .lt), (11, .lt), (12, .lt), (13, .ld true), (9, .mn true), (14, .mn true), (15, .lt), (16, .mn false)] (by kernel_rfl) ?_ | refine b_draw (id := 24) [] [12] [(0, .lt), (1, .lt), (2, .lt), (3, .lt), (4, .lt), (5, .ld true), (6, .ld true), (7, .lt), (8, .lt), (9, .mn true), (10, .mn true), (11, .lt), (12, .mn false)] (by kernel_rfl) ?_ | refine b_draw (id := 32) [] [16] [(0, .lt), (1, .lt), (2, .lt), (3, .lt), (4, .lt), (5, .ld true), (6, .ld true), (7, .lt), (8, .lt), (10, .lt), (11, .lt), (12, .lt), (13, .ld true), (9, .mn true), (14, .mn true), (15, .lt), (16, .mn false)] (by kernel_rfl) ?_ | refine b_draw (id := 40) [] [16] [(0, .lt), (1, .lt), (2, .lt), (3, .lt), (4, .lt), (5, .ld true), (6, .ld true), (7, .lt), (8, .lt), (10, .lt), (11, .lt), (12, .lt), (13, .ld true), (9, .mn true), (14, .mn true), (15, .lt), (16, .mn false)] (by kernel_rfl) ?_ | refine b_draw (id := 41) [] [12] [(0, .lt), (1, .lt), (2, .lt), (3, .lt), (4, .lt), (5, .ld true), (6, .ld true), (7, .lt), (8, .lt), (9, .mn true), (10, .mn true), (11, .lt), (12, .mn false)] (by kernel_rfl) ?_ | (refine b_loop [4, 8, 9, 17, 18] k (fun t => ⟨[(4, .loc 4 0), (8, .val (.int .i64 ((n : Nat) : Int))), (9, .val (.slm (H.length + 0) n 0 n 1)), (17, .val (.int .i64 ((k : Nat) : Int))), (18, .val (.int .i64 ((t : Nat) : Int)))], [(4, [.int .i64 (n : Int), .int .i64 (n : Int), A])], H ++ [fl (rml (updV (ut4 a f k) k (in4 a (ut4 a f k) k t)) n)]⟩) (by simp only [hS0]; exact rfl) ?_ ?_ <;> (first | intro t ht K hK | intro K) <;> (try dsimp only at *)) | (refine b_loop [4, 8, 9, 17] n (fun k => ⟨[(4, .loc 4 0), (8, .val (.int .i64 ((n : Nat) : Int))), (9, .val (.slm (H.length + 0) n 0 n 1)), (17, .val (.int .i64 ((k : Nat) : Int)))], [(4, [.int .i64 (n : Int), .int .i64 (n : Int), A])], H ++ [fl (rml (ut4 a f k) n)]⟩) (by exact rfl) ?_ ?_ <;> (first | intro k hk K hK | intro K) <;> (try dsimp only at *)) | (refine b_loop [0, 4, 8, 9, 10] n (fun k => ⟨[(0, .val (.int .i64 4)), (4, .loc 4 0), (8, .val (.int .i64 ((n : Nat) : Int))), (9, .val (.slm (H.length + 0) n 0 n 1)), (10, .val (.int .i64 ((k : Nat) : Int)))], [(4, [.int .i64 (n : Int), .int .i64 (n : Int), A])], H ++ [fl (rml f n)]⟩) (by exact rfl) ?_ ?_ <;> (first | intro k hk K hK | intro K) <;> (try dsimp only at *)) | fail))
    | refine m21 ?_
    | refine a_nil ?_
    | (refine gateK ?_; (first | refine c_call (tat_i _ A a n (FL.app hA _) hn (t) (k) (by omega) (by omega) _ _ (by omega) (by omega)) (OldOk.app (by simp)) ?_ | refine c_call (tat_i _ A a n (FL.app hA _) hn (k) (k) (by omega) (by omega) _ _ (by omega) (by omega)) (OldOk.app (by simp)) ?_ | refine c_call (rsub_c _ _ _ _) (OldOk.app (by simp)) ?_ | refine c_call (rover_c _ _ _) (OldOk.app (by simp)) ?_ | fail))
    | refine m44 ?_
    | refine m40 ?_
    | (refine gk_nilN (by (conv => {lhs; simp only [List.nil_append, List.cons_append]}); done) ?_; first | refine ⟨by exact rfl, ?_⟩ | skip)
    | refine gk_nil ?_
    | (intro N' hN'; simp only [List.nil_append, List.cons_append] at hN'; subst hN')
    | (refine gateB ?_; (first | refine b_bln ?_ | refine b_blr ?_ | refine b_ble ?_ | refine m57 ?_ | fail))
    | (refine gateL ?_; (first | refine lp_n ?_ | refine lp_r ?_ | refine lp_e ?_ | fail))
    | (refine pr_k (by exact rfl) ?_; first | exact hK | fail | (exfalso; first | omega | (simp_all; done) | (simp_all; omega)))
    | (refine gateQ ?_; refine m05 ?_)
    | (refine gateR ?_; (first | refine m04 ?_ | refine m02 ?_ | refine m03 ?_ | refine rk_nil ?_ | fail))
    | (refine ⟨by simp [oneC], fun N' hN' => ?_⟩; simp only [List.nil_append, List.cons_append] at hN'; subst hN')
    | intro _)
  all_goals first
    | (exfalso; contradiction)
    | (exfalso; omega)
    | exact False.elim (feq0 (hz k (by omega)) (by assumption))
    | (refine rv_fr rfl ?_; exact Fr.tup (Frs.cons (Fr.fz (by omega) (by simp) (hg_new rfl rfl) (by simp) (gc_all _ (by simp)) (Frs.old (by rw [mxL_fl]; exact Nat.zero_le _))) (Frs.cons (Fr.old (by simp [mx, aOf, aOf1])) Frs.nil)))

end
theorem right_r (H : List (List AV)) (D : AV) (l : List Nat) (hF : FL H D l) (off n inc : Int) (hI : VI l.length off n inc) (r : Bool) (hr : decide (RightP l.length off n inc) = r) : CSpec Tryz.prog 141 [vt D off n inc] H (.bool r) H := by
  subst hr; exact right_c H D l hF off n inc hI
section
attribute [local irreducible] Ex exOps exD opX opE thenX blkX RetQ Spec CSpec Fr condK guardK guardD ckK valK pickK loadK faK callK argK gK fK rK RetV lpX prK
set_option maxHeartbeats 4000000 in
theorem chk_0 (H : List (List AV)) (D X P : AV) (mo rows cols ld xo xn xi : Int) (hR : ∀ N, CSpec Tryz.prog 52 [(.agg [D, .int .i64 mo, .int .i64 rows, .int .i64 cols, .int .i64 ld, P])] (H ++ N) (.bool true) (H ++ N)) (hne : xn = rows) (hMe : ∀ N, CSpec Tryz.prog 142 [mt X xo 1 xn xi, mt D mo rows cols ld] (H ++ N) (.bool false) (H ++ N)) (hZ : ∀ N, CSpec Tryz.prog 177 [mt D mo rows cols ld] (H ++ N) (.bool false) (H ++ N)) :
    CSpec Tryz.prog 155 [(.agg [D, .int .i64 mo, .int .i64 rows, .int .i64 cols, .int .i64 ld, P]), .bool true, .int .i64 xn, mt X xo 1 xn xi] H (.int .i64 0) H := by
  refine .mk (fun args w => Tryz.call155 args w) (Spec.intro' (fn := Tryz.f155) Tryz.func155 rfl (by kernel_rfl) (by simp) false [] (draw := drawX Tryz.prog ⟨false, _, []⟩) dOk ?_)
  simp only [argE, Nat.reduceAdd]
  repeat' (first
    | (refine gateE ?_; (first | refine b_c0 ?_ | refine b_nil ?_ | refine m13 ?_ | refine m12 ?_ | refine m11 ?_ | (refine m10 ?_; (first | refine g_TT ?_ | refine g_FF ?_ | refine g_TF ?_ | refine g_FT ?_ | refine g_PT ?_ ?_ | refine g_PF ?_ ?_ | refine g_BT ?_ ?_ | refine g_BF ?_ ?_ | fail)) | (refine m09 ?_; (first | refine g_TT ?_ | refine g_FF ?_ | refine g_TF ?_ | refine g_FT ?_ | refine g_PT ?_ ?_ | refine g_PF ?_ ?_ | refine g_BT ?_ ?_ | refine g_BF ?_ ?_ | fail)) | refine m38 ?_ | fail))
    | (refine gateO ?_; (first | refine m14 ?_ | (refine m17 ?_; first | refine m19 ?_ | refine m18 ?_) | (refine m07 ?_; (first | refine m15 ?_ | refine m16 ?_ | fail)) | (refine m00 ?_; (first | refine m54 ?_ | refine m55 ?_ | refine v_neP ?_ | refine m49 ?_ | refine m50 ?_ | refine v_nT ?_ | refine v_nF ?_ | refine v_nP ?_ | refine v_k ?_ | refine m51 ?_ | fail)) | (refine m22 ?_; (first | refine m26 ?_ | refine m27 ?_ | fail)) | refine m42 ?_ | refine b_assignI ?_ | refine b_assignN ?_ | refine m08 ?_ | (refine m20 ?_; (first | refine m54 ?_ | refine m55 ?_ | refine v_neP ?_ | refine m49 ?_ | refine m50 ?_ | refine v_nT ?_ | refine v_nF ?_ | refine v_nP ?_ | refine v_k ?_ | refine m51 ?_ | fail)) | refine b_callB ?_ | refine m01 ?_ | fail))
    | (refine gateT ?_; (first | refine b_thn ?_ | refine b_thr ?_ | refine b_the ?_ | fail))
    | (refine gateX ?_; (first | refine b_seq ?_ | refine b_region ?_ | (refine m06 ?_; (first | refine c_T ?_ | refine c_F ?_ | refine c_P ?_ ?_ | refine c_B ?_ ?_ | fail)) | refine b_ret ?_ | refine b_skip ?_ | refine b_block ?_ | refine b_exit ?_ | fail))
    | refine m21 ?_
    | refine a_nil ?_
    | (refine gateK ?_; (first | refine c_call (hR _) (OldOk.app (by simp)) ?_ | refine c_call (hMe _) (OldOk.app (by simp)) ?_ | refine c_call (hZ _) (OldOk.app (by simp)) ?_ | fail))
    | (refine gateB ?_; (first | refine b_bln ?_ | refine b_blr ?_ | refine b_ble ?_ | refine m57 ?_ | fail))
    | (refine gateQ ?_; refine m05 ?_)
    | (refine gateR ?_; (first | refine m04 ?_ | refine m02 ?_ | refine m03 ?_ | refine rk_nil ?_ | fail))
    | intro _)
  all_goals first
    | (exfalso; contradiction)
    | (exfalso; omega)
    | (refine rv_old rfl (by simp [mx, mxL, resOne, aOf, aOf1]) ?_; exact rfl)

set_option maxHeartbeats 4000000 in
theorem vec_c (H : List (List AV)) (D X P : AV) (mo rows cols ld xo xn xi : Int) (lx : List Nat) (hF : FL H X lx) (r : Bool) (e : Int) (hr : ∀ N, CSpec Tryz.prog 141 [vt X xo xn xi] (H ++ N) (.bool r) (H ++ N)) (hc : ∀ N, CSpec Tryz.prog 155 [(.agg [D, .int .i64 mo, .int .i64 rows, .int .i64 cols, .int .i64 ld, P]), .bool r, .int .i64 xn, mt X xo 1 xn xi] (H ++ N) (.int .i64 e) (H ++ N)) :
    CSpec Tryz.prog 103 [(.agg [D, .int .i64 mo, .int .i64 rows, .int .i64 cols, .int .i64 ld, P]), vt X xo xn xi] H (.int .i64 e) H := by
  refine .mk (fun args w => Tryz.call103 args w) (Spec.intro' (fn := Tryz.f103) Tryz.func103 rfl (by kernel_rfl) (by simp) false [] (draw := drawX Tryz.prog ⟨false, _, []⟩) dOk ?_)
  simp only [argE, Nat.reduceAdd]
  repeat' (first
    | (refine gateE ?_; (first | refine b_c0 ?_ | refine b_nil ?_ | fail))
    | (refine gateO ?_; (first | (refine m17 ?_; first | refine m19 ?_ | refine m18 ?_) | (refine m07 ?_; (first | refine m15 ?_ | refine m16 ?_ | fail)) | refine m42 ?_ | refine b_assignI ?_ | refine b_assignN ?_ | refine m08 ?_ | refine b_callB ?_ | refine m01 ?_ | refine b_build ?_ | fail))
    | (refine gateD ?_; (first | refine m36 ?_ | refine d_nil ?_ | fail))
    | (refine gateC ?_; (first | refine k_lt ?_ | refine k_fz ?_ | refine k_lb (by (conv => {lhs; whnf}); done) ?_ | refine k_ms ?_ | refine k_bx (by exact rfl) (by exact rfl) ?_ | refine m34 ?_ | refine m35 ?_ | refine m33 ?_ | refine k_mn ?_ | refine m56 ?_ | refine k_mnF ?_ | refine k_mnL (by exact rfl) ?_ | fail))
    | (refine gateT ?_; (first | refine b_thn ?_ | refine b_thr ?_ | refine b_the ?_ | fail))
    | (refine gateX ?_; (first | refine b_seq ?_ | refine b_region ?_ | (refine m06 ?_; (first | refine c_T ?_ | refine c_F ?_ | refine c_P ?_ ?_ | refine c_B ?_ ?_ | fail)) | refine b_ret ?_ | refine b_skip ?_ | refine b_block ?_ | refine b_exit ?_ | refine b_draw (id := 1) [] [] [(0, .ld true), (1, .ld true), (3, .lt), (4, .ld true), (5, .lt), (6, .ld true), (7, .lt), (8, .ld true), (9, .lt), (10, .ld true), (11, .lt), (12, .ld true), (13, .lt), (2, .mn true), (14, .mn true), (15, .lt)] (by kernel_rfl) ?_ | fail))
    | refine m21 ?_
    | refine a_nil ?_
    | (refine gateK ?_; (first | refine c_call (hr _) (OldOk.app (by simp)) ?_ | refine c_call (hc _) (OldOk.app (by simp)) ?_ | fail))
    | refine m58 ?_
    | refine fk_nil ?_
    | (refine gateQ ?_; refine m05 ?_)
    | (refine gateR ?_; (first | refine m04 ?_ | refine m02 ?_ | refine m03 ?_ | refine rk_nil ?_ | fail))
    | intro _)
  all_goals first
    | (exfalso; contradiction)
    | (exfalso; omega)
    | (refine rv_old rfl (by simp [mx, mxL, resOne, aOf, aOf1]) ?_; exact rfl)

theorem tsol_n1 (H : List (List AV)) (b : Nat) (l : List Nat) (hbl : b < H.length) (xo xi : Int) (n : Nat) (hxI : VI l.length xo n xi) (hxR : RightP l.length xo n xi) (D : AV) (hD : mx D ≤ H.length) (ml : Nat) (mo ld : Int) (hI : MI ml mo n n ld) (hG : GoodP ml mo n n ld) (a : Nat → Nat → Nat) (hrd : ∀ f, ∃ l', FL (H.set b (fl (setV l xo xi n f))) D l' ∧ l'.length = ml ∧ ∀ i j, i < n → j < n → mel l' mo ld i j = a i j) (hmeet : ∀ f N, CSpec Tryz.prog 142 [mt (.slm b l.length 0 l.length 1) xo 1 (n : Int) xi, mt D mo (n : Int) (n : Int) ld] (H.set b (fl (setV l xo xi n f)) ++ N) (.bool false) (H.set b (fl (setV l xo xi n f)) ++ N)) (N : List (List AV)) (f : Nat → Nat) : CSpec Tryz.prog 105 [.int .i64 1, mt D mo (n : Int) (n : Int) ld, vt (.slm b l.length 0 l.length 1) xo (n : Int) xi] (H.set b (fl (setV l xo xi n f)) ++ N) (.int .i64 0) (H.set b (fl (setV l xo xi n (lo1 a f n))) ++ N) := by
  have hs : ∀ X, (H ++ N).set b X = H.set b X ++ N := fun X => hs_old hbl
  have h := tsol_1 (H ++ N) b l (by simp; omega) xo xi n hxI hxR D (by simp; omega) ml mo ld hI hG a (fun f => by obtain ⟨l', h1, h2⟩ := hrd f; rw [hs]; exact ⟨l', h1.app N, h2⟩) (fun f N' => by rw [hs, List.append_assoc]; exact hmeet f (N ++ N')) f
  rwa [hs, hs] at h

theorem tsol_n2 (H : List (List AV)) (b : Nat) (l : List Nat) (hbl : b < H.length) (xo xi : Int) (n : Nat) (hxI : VI l.length xo n xi) (hxR : RightP l.length xo n xi) (D : AV) (hD : mx D ≤ H.length) (ml : Nat) (mo ld : Int) (hI : MI ml mo n n ld) (hG : GoodP ml mo n n ld) (a : Nat → Nat → Nat) (hrd : ∀ f, ∃ l', FL (H.set b (fl (setV l xo xi n f))) D l' ∧ l'.length = ml ∧ ∀ i j, i < n → j < n → mel l' mo ld i j = a i j) (hmeet : ∀ f N, CSpec Tryz.prog 142 [mt (.slm b l.length 0 l.length 1) xo 1 (n : Int) xi, mt D mo (n : Int) (n : Int) ld] (H.set b (fl (setV l xo xi n f)) ++ N) (.bool false) (H.set b (fl (setV l xo xi n f)) ++ N)) (N : List (List AV)) (f : Nat → Nat) (hz : ∀ k, k < n → feq (a k k) 0 = false) : CSpec Tryz.prog 105 [.int .i64 2, mt D mo (n : Int) (n : Int) ld, vt (.slm b l.length 0 l.length 1) xo (n : Int) xi] (H.set b (fl (setV l xo xi n f)) ++ N) (.int .i64 0) (H.set b (fl (setV l xo xi n (up2 a f n n))) ++ N) := by
  have hs : ∀ X, (H ++ N).set b X = H.set b X ++ N := fun X => hs_old hbl
  have h := tsol_2 (H ++ N) b l (by simp; omega) xo xi n hxI hxR D (by simp; omega) ml mo ld hI hG a (fun f => by obtain ⟨l', h1, h2⟩ := hrd f; rw [hs]; exact ⟨l', h1.app N, h2⟩) (fun f N' => by rw [hs, List.append_assoc]; exact hmeet f (N ++ N')) f hz
  rwa [hs, hs] at h

theorem tsol_n3 (H : List (List AV)) (b : Nat) (l : List Nat) (hbl : b < H.length) (xo xi : Int) (n : Nat) (hxI : VI l.length xo n xi) (hxR : RightP l.length xo n xi) (D : AV) (hD : mx D ≤ H.length) (ml : Nat) (mo ld : Int) (hI : MI ml mo n n ld) (hG : GoodP ml mo n n ld) (a : Nat → Nat → Nat) (hrd : ∀ f, ∃ l', FL (H.set b (fl (setV l xo xi n f))) D l' ∧ l'.length = ml ∧ ∀ i j, i < n → j < n → mel l' mo ld i j = a i j) (hmeet : ∀ f N, CSpec Tryz.prog 142 [mt (.slm b l.length 0 l.length 1) xo 1 (n : Int) xi, mt D mo (n : Int) (n : Int) ld] (H.set b (fl (setV l xo xi n f)) ++ N) (.bool false) (H.set b (fl (setV l xo xi n f)) ++ N)) (N : List (List AV)) (f : Nat → Nat) : CSpec Tryz.prog 105 [.int .i64 3, mt D mo (n : Int) (n : Int) ld, vt (.slm b l.length 0 l.length 1) xo (n : Int) xi] (H.set b (fl (setV l xo xi n f)) ++ N) (.int .i64 0) (H.set b (fl (setV l xo xi n (lt3 a f n n))) ++ N) := by
  have hs : ∀ X, (H ++ N).set b X = H.set b X ++ N := fun X => hs_old hbl
  have h := tsol_3 (H ++ N) b l (by simp; omega) xo xi n hxI hxR D (by simp; omega) ml mo ld hI hG a (fun f => by obtain ⟨l', h1, h2⟩ := hrd f; rw [hs]; exact ⟨l', h1.app N, h2⟩) (fun f N' => by rw [hs, List.append_assoc]; exact hmeet f (N ++ N')) f
  rwa [hs, hs] at h

theorem tsol_n4 (H : List (List AV)) (b : Nat) (l : List Nat) (hbl : b < H.length) (xo xi : Int) (n : Nat) (hxI : VI l.length xo n xi) (hxR : RightP l.length xo n xi) (D : AV) (hD : mx D ≤ H.length) (ml : Nat) (mo ld : Int) (hI : MI ml mo n n ld) (hG : GoodP ml mo n n ld) (a : Nat → Nat → Nat) (hrd : ∀ f, ∃ l', FL (H.set b (fl (setV l xo xi n f))) D l' ∧ l'.length = ml ∧ ∀ i j, i < n → j < n → mel l' mo ld i j = a i j) (hmeet : ∀ f N, CSpec Tryz.prog 142 [mt (.slm b l.length 0 l.length 1) xo 1 (n : Int) xi, mt D mo (n : Int) (n : Int) ld] (H.set b (fl (setV l xo xi n f)) ++ N) (.bool false) (H.set b (fl (setV l xo xi n f)) ++ N)) (N : List (List AV)) (f : Nat → Nat) (hz : ∀ k, k < n → feq (a k k) 0 = false) : CSpec Tryz.prog 105 [.int .i64 4, mt D mo (n : Int) (n : Int) ld, vt (.slm b l.length 0 l.length 1) xo (n : Int) xi] (H.set b (fl (setV l xo xi n f)) ++ N) (.int .i64 0) (H.set b (fl (setV l xo xi n (ut4 a f n))) ++ N) := by
  have hs : ∀ X, (H ++ N).set b X = H.set b X ++ N := fun X => hs_old hbl
  have h := tsol_4 (H ++ N) b l (by simp; omega) xo xi n hxI hxR D (by simp; omega) ml mo ld hI hG a (fun f => by obtain ⟨l', h1, h2⟩ := hrd f; rw [hs]; exact ⟨l', h1.app N, h2⟩) (fun f N' => by rw [hs, List.append_assoc]; exact hmeet f (N ++ N')) f hz
  rwa [hs, hs] at h

theorem take_f_n (H : List (List AV)) (b : Nat) (l : List Nat) (hbl : b < H.length) (xo xi : Int) (n : Nat) (hxI : VI l.length xo n xi) (hxR : RightP l.length xo n xi) (P : AV) (p : List Int) (hpl : p.length = n) (hn9 : n ≤ 2 ^ 30) (hpv : pivP p) (hIL : ∀ X N, IL (H.set b X ++ N) P p) (N : List (List AV)) (f : Nat → Nat) : CSpec Tryz.prog 104 [vt (.slm b l.length 0 l.length 1) xo (n : Int) xi, P, .bool false] (H.set b (fl (setV l xo xi n f)) ++ N) (.tup []) (H.set b (fl (setV l xo xi n (tkF p f n))) ++ N) := by
  have hs : ∀ X, (H ++ N).set b X = H.set b X ++ N := fun X => hs_old hbl
  have h := take_f (H ++ N) b l (by simp; omega) xo xi n hxI hxR P p hpl hn9 hpv (fun X N' => by rw [hs, List.append_assoc]; exact hIL X (N ++ N')) f
  rwa [hs, hs] at h

theorem take_b_n (H : List (List AV)) (b : Nat) (l : List Nat) (hbl : b < H.length) (xo xi : Int) (n : Nat) (hxI : VI l.length xo n xi) (hxR : RightP l.length xo n xi) (P : AV) (p : List Int) (hpl : p.length = n) (hn9 : n ≤ 2 ^ 30) (hpv : pivP p) (hIL : ∀ X N, IL (H.set b X ++ N) P p) (N : List (List AV)) (f : Nat → Nat) : CSpec Tryz.prog 104 [vt (.slm b l.length 0 l.length 1) xo (n : Int) xi, P, .bool true] (H.set b (fl (setV l xo xi n f)) ++ N) (.tup []) (H.set b (fl (setV l xo xi n (tkB p f n))) ++ N) := by
  have hs : ∀ X, (H ++ N).set b X = H.set b X ++ N := fun X => hs_old hbl
  have h := take_b (H ++ N) b l (by simp; omega) xo xi n hxI hxR P p hpl hn9 hpv (fun X N' => by rw [hs, List.append_assoc]; exact hIL X (N ++ N')) f
  rwa [hs, hs] at h
set_option maxHeartbeats 4000000 in
theorem slv_0 (H : List (List AV)) (b : Nat) (l : List Nat) (hbl : b < H.length) (xo xi : Int) (n : Nat) (hxI : VI l.length xo n xi) (hxR : RightP l.length xo n xi) (D : AV) (hD : mx D ≤ H.length) (ml : Nat) (mo ld : Int) (hI : MI ml mo n n ld) (hG : GoodP ml mo n n ld) (a : Nat → Nat → Nat) (hrd : ∀ f, ∃ l', FL (H.set b (fl (setV l xo xi n f))) D l' ∧ l'.length = ml ∧ ∀ i j, i < n → j < n → mel l' mo ld i j = a i j) (hmeet : ∀ f N, CSpec Tryz.prog 142 [mt (.slm b l.length 0 l.length 1) xo 1 (n : Int) xi, mt D mo (n : Int) (n : Int) ld] (H.set b (fl (setV l xo xi n f)) ++ N) (.bool false) (H.set b (fl (setV l xo xi n f)) ++ N)) (P : AV) (p : List Int) (hpl : p.length = n) (hn9 : n ≤ 2 ^ 30) (hpv : pivP p) (hIL : ∀ X N, IL (H.set b X ++ N) P p) (f : Nat → Nat) (hz : ∀ k, k < n → feq (a k k) 0 = false) (hv : ∀ N, CSpec Tryz.prog 103 [(.agg [D, .int .i64 mo, .int .i64 (n : Int), .int .i64 (n : Int), .int .i64 ld, P]), vt (.slm b l.length 0 l.length 1) xo (n : Int) xi] (H.set b (fl (setV l xo xi n f)) ++ N) (.int .i64 0) (H.set b (fl (setV l xo xi n f)) ++ N)) :
    CSpec Tryz.prog 46 [(.agg [D, .int .i64 mo, .int .i64 (n : Int), .int .i64 (n : Int), .int .i64 ld, P]), vt (.slm b l.length 0 l.length 1) xo (n : Int) xi] (H.set b (fl (setV l xo xi n f))) (.int .i64 0) (H.set b (fl (setV l xo xi n (up2 a (lo1 a (tkF p f n) n) n n)))) := by
  refine .mk (fun args w => Tryz.call46 args w) (Spec.intro' (fn := Tryz.f46) Tryz.func46 rfl (by kernel_rfl) (by simp) false [] (draw := drawX Tryz.prog ⟨false, _, []⟩) dOk ?_)
  simp only [argE, Nat.reduceAdd]
  repeat' (first
    | (refine gateE ?_; (first | refine b_c0 ?_ | refine b_nil ?_ | fail))
    | (refine gateO ?_; (first | refine m14 ?_ | (refine m17 ?_; first | refine m19 ?_ | refine m18 ?_) | (refine m07 ?_; (first | refine m15 ?_ | refine m16 ?_ | fail)) | (refine m45 ?_; (first | refine v_bbT (by exact rfl) ?_ | refine v_k ?_ | fail)) | (refine m00 ?_; (first | refine m52 ?_ | refine m53 ?_ | refine v_eP ?_ | refine m49 ?_ | refine m50 ?_ | refine v_k ?_ | refine m51 ?_ | fail)) | refine m42 ?_ | refine b_assignI ?_ | refine b_assignN ?_ | refine m08 ?_ | refine b_callB ?_ | refine m01 ?_ | fail))
    | (refine gateT ?_; (first | refine b_thn ?_ | refine b_thr ?_ | refine b_the ?_ | fail))
    | (refine gateX ?_; (first | refine b_seq ?_ | refine b_region ?_ | (refine m06 ?_; (first | refine c_T ?_ | refine c_F ?_ | refine c_P ?_ ?_ | refine c_B ?_ ?_ | fail)) | refine b_ret ?_ | refine b_skip ?_ | refine b_block ?_ | refine b_exit ?_ | fail))
    | refine m43 ?_
    | refine a_consI ?_
    | refine m21 ?_
    | refine a_nil ?_
    | (refine gateK ?_; (first | refine c_call (hv _) (OldOk.app (by simp)) ?_ | refine c_call (take_f_n H b l hbl xo xi n hxI hxR P p hpl hn9 hpv hIL [] (f)) (OldOk.set2 hbl (by simp) (by rw [mxL_fl]; omega)) ?_ | refine c_call (tsol_n1 H b l hbl xo xi n hxI hxR D hD ml mo ld hI hG a hrd hmeet [] (tkF p f n)) (OldOk.set2 hbl (by simp) (by rw [mxL_fl]; omega)) ?_ | refine c_call (tsol_n2 H b l hbl xo xi n hxI hxR D hD ml mo ld hI hG a hrd hmeet [] (lo1 a (tkF p f n) n) hz) (OldOk.set2 hbl (by simp) (by rw [mxL_fl]; omega)) ?_ | fail))
    | (refine gateQ ?_; refine m05 ?_)
    | (refine gateR ?_; (first | refine m04 ?_ | refine m02 ?_ | refine m03 ?_ | refine rk_nil ?_ | fail))
    | intro _)
  all_goals first
    | (exfalso; contradiction)
    | (exfalso; omega)
    | (refine rv_old (by simp) (by simp [mx, mxL, resOne, aOf, aOf1]) ?_; exact rfl)

set_option maxHeartbeats 4000000 in
theorem slt_0 (H : List (List AV)) (b : Nat) (l : List Nat) (hbl : b < H.length) (xo xi : Int) (n : Nat) (hxI : VI l.length xo n xi) (hxR : RightP l.length xo n xi) (D : AV) (hD : mx D ≤ H.length) (ml : Nat) (mo ld : Int) (hI : MI ml mo n n ld) (hG : GoodP ml mo n n ld) (a : Nat → Nat → Nat) (hrd : ∀ f, ∃ l', FL (H.set b (fl (setV l xo xi n f))) D l' ∧ l'.length = ml ∧ ∀ i j, i < n → j < n → mel l' mo ld i j = a i j) (hmeet : ∀ f N, CSpec Tryz.prog 142 [mt (.slm b l.length 0 l.length 1) xo 1 (n : Int) xi, mt D mo (n : Int) (n : Int) ld] (H.set b (fl (setV l xo xi n f)) ++ N) (.bool false) (H.set b (fl (setV l xo xi n f)) ++ N)) (P : AV) (p : List Int) (hpl : p.length = n) (hn9 : n ≤ 2 ^ 30) (hpv : pivP p) (hIL : ∀ X N, IL (H.set b X ++ N) P p) (f : Nat → Nat) (hz : ∀ k, k < n → feq (a k k) 0 = false) (hv : ∀ N, CSpec Tryz.prog 103 [(.agg [D, .int .i64 mo, .int .i64 (n : Int), .int .i64 (n : Int), .int .i64 ld, P]), vt (.slm b l.length 0 l.length 1) xo (n : Int) xi] (H.set b (fl (setV l xo xi n f)) ++ N) (.int .i64 0) (H.set b (fl (setV l xo xi n f)) ++ N)) :
    CSpec Tryz.prog 48 [(.agg [D, .int .i64 mo, .int .i64 (n : Int), .int .i64 (n : Int), .int .i64 ld, P]), vt (.slm b l.length 0 l.length 1) xo (n : Int) xi] (H.set b (fl (setV l xo xi n f))) (.int .i64 0) (H.set b (fl (setV l xo xi n (tkB p (lt3 a (ut4 a f n) n n) n)))) := by
  refine .mk (fun args w => Tryz.call48 args w) (Spec.intro' (fn := Tryz.f48) Tryz.func48 rfl (by kernel_rfl) (by simp) false [] (draw := drawX Tryz.prog ⟨false, _, []⟩) dOk ?_)
  simp only [argE, Nat.reduceAdd]
  repeat' (first
    | (refine gateE ?_; (first | refine b_c0 ?_ | refine b_nil ?_ | fail))
    | (refine gateO ?_; (first | refine m14 ?_ | (refine m17 ?_; first | refine m19 ?_ | refine m18 ?_) | (refine m07 ?_; (first | refine m15 ?_ | refine m16 ?_ | fail)) | (refine m45 ?_; (first | refine v_bbT (by exact rfl) ?_ | refine v_k ?_ | fail)) | (refine m00 ?_; (first | refine m52 ?_ | refine m53 ?_ | refine v_eP ?_ | refine m49 ?_ | refine m50 ?_ | refine v_k ?_ | refine m51 ?_ | fail)) | refine m42 ?_ | refine b_assignI ?_ | refine b_assignN ?_ | refine m08 ?_ | refine b_callB ?_ | refine m01 ?_ | fail))
    | (refine gateT ?_; (first | refine b_thn ?_ | refine b_thr ?_ | refine b_the ?_ | fail))
    | (refine gateX ?_; (first | refine b_seq ?_ | refine b_region ?_ | (refine m06 ?_; (first | refine c_T ?_ | refine c_F ?_ | refine c_P ?_ ?_ | refine c_B ?_ ?_ | fail)) | refine b_ret ?_ | refine b_skip ?_ | refine b_block ?_ | refine b_exit ?_ | fail))
    | refine m43 ?_
    | refine a_consI ?_
    | refine m21 ?_
    | refine a_nil ?_
    | (refine gateK ?_; (first | refine c_call (hv _) (OldOk.app (by simp)) ?_ | refine c_call (tsol_n4 H b l hbl xo xi n hxI hxR D hD ml mo ld hI hG a hrd hmeet [] (f) hz) (OldOk.set2 hbl (by simp) (by rw [mxL_fl]; omega)) ?_ | refine c_call (tsol_n3 H b l hbl xo xi n hxI hxR D hD ml mo ld hI hG a hrd hmeet [] (ut4 a f n)) (OldOk.set2 hbl (by simp) (by rw [mxL_fl]; omega)) ?_ | refine c_call (take_b_n H b l hbl xo xi n hxI hxR P p hpl hn9 hpv hIL [] (lt3 a (ut4 a f n) n n)) (OldOk.set2 hbl (by simp) (by rw [mxL_fl]; omega)) ?_ | fail))
    | (refine gateQ ?_; refine m05 ?_)
    | (refine gateR ?_; (first | refine m04 ?_ | refine m02 ?_ | refine m03 ?_ | refine rk_nil ?_ | fail))
    | intro _)
  all_goals first
    | (exfalso; contradiction)
    | (exfalso; omega)
    | (refine rv_old (by simp) (by simp [mx, mxL, resOne, aOf, aOf1]) ?_; exact rfl)

set_option maxHeartbeats 4000000 in
theorem rslv_0 (H : List (List AV)) (X : AV) (f : Nat → Nat) (n : Nat) (hX : FL H X (rml f n)) (hn : n ≤ 1000) (A : AV) (a : Nat → Nat → Nat) (hA : FL H A (rmA a n n)) (P : AV) (p : List Int) (hP : IL H P p) (hpl : p.length = n) (hpv : pivP p) (hz : ∀ k, k < n → feq (a k k) 0 = false) :
    CSpec Tryz.prog 58 [mM A n n, P, X] H (.tup [.sl none n (fl (rml (up2 a (lo1 a (tkF p f n) n) n n) n)), .bool true]) H := by
  refine .mk (fun args w => Tryz.call58 args w) (Spec.intro' (fn := Tryz.f58) Tryz.func58 rfl (by kernel_rfl) (by simp) false [] (draw := drawX Tryz.prog ⟨false, _, []⟩) dOk ?_)
  simp only [argE, Nat.reduceAdd]
  repeat' (first
    | (refine gateE ?_; (first | refine b_c0 ?_ | refine b_nil ?_ | fail))
    | (refine gateO ?_; (first | refine m14 ?_ | (refine m07 ?_; (first | refine m15 ?_ | refine m16 ?_ | fail)) | refine m42 ?_ | refine b_assignI ?_ | refine b_assignN ?_ | refine m08 ?_ | refine b_callB ?_ | refine m23 ?_ | refine m01 ?_ | fail))
    | (refine gateD ?_; (first | refine m36 ?_ | refine d_nil ?_ | fail))
    | (refine gateC ?_; (first | refine k_lt ?_ | refine k_fz ?_ | refine k_lb (by (conv => {lhs; whnf}); done) ?_ | refine k_ms ?_ | refine k_bx (by exact rfl) (by exact rfl) ?_ | refine m34 ?_ | refine m35 ?_ | refine m33 ?_ | refine k_mn ?_ | refine m56 ?_ | refine k_mnF ?_ | refine k_mnL (by exact rfl) ?_ | fail))
    | (refine gateT ?_; (first | refine b_thn ?_ | refine b_thr ?_ | refine b_the ?_ | fail))
    | (refine gateX ?_; (first | refine b_seq ?_ | refine b_region ?_ | (refine m06 ?_; (first | refine c_T ?_ | refine c_F ?_ | refine c_P ?_ ?_ | refine c_B ?_ ?_ | fail)) | refine b_ret ?_ | refine b_skip ?_ | refine b_block ?_ | refine b_exit ?_ | refine b_draw (id := 1) [] [] [(0, .ld true), (1, .lt), (2, .lt), (3, .mn true), (4, .mn true), (5, .lt), (6, .lt), (7, .lt), (8, .lt), (9, .lt)] (by kernel_rfl) ?_ | fail))
    | refine m43 ?_
    | refine a_consI ?_
    | refine m21 ?_
    | refine a_nil ?_
    | (refine gateK ?_; (first | refine c_call (rtake_f _ X f n (FL.app hX _) hn P p (IL.app hP _) hpl hpv) (OldOk.app (by simp)) ?_ | refine c_call (rsol_1 _ _ (tkF p f n) n (FL.fzn _ _ _ (by simp)) hn A a (FL.app hA _)) (OldOk.app (by simp)) ?_ | refine c_call (rsol_2 _ _ (lo1 a (tkF p f n) n) n (FL.fzn _ _ _ (by simp)) hn A a (FL.app hA _) hz) (OldOk.app (by simp)) ?_ | fail))
    | (refine gateQ ?_; refine m05 ?_)
    | (refine gateR ?_; (first | refine m04 ?_ | refine m02 ?_ | refine m03 ?_ | refine rk_nil ?_ | fail))
    | intro _)
  all_goals first
    | (exfalso; contradiction)
    | (refine rv_old rfl (by have h1 := hX.mx; simp only [resOne, List.nil_append, List.cons_append, aOf, aOf1, mx, mxL, mxL_fl]; omega) ?_; exact rfl)

set_option maxHeartbeats 4000000 in
theorem rslt_0 (H : List (List AV)) (X : AV) (f : Nat → Nat) (n : Nat) (hX : FL H X (rml f n)) (hn : n ≤ 1000) (A : AV) (a : Nat → Nat → Nat) (hA : FL H A (rmA a n n)) (P : AV) (p : List Int) (hP : IL H P p) (hpl : p.length = n) (hpv : pivP p) (hz : ∀ k, k < n → feq (a k k) 0 = false) :
    CSpec Tryz.prog 59 [mM A n n, P, X] H (.tup [.sl none n (fl (rml (tkB p (lt3 a (ut4 a f n) n n) n) n)), .bool true]) H := by
  refine .mk (fun args w => Tryz.call59 args w) (Spec.intro' (fn := Tryz.f59) Tryz.func59 rfl (by kernel_rfl) (by simp) false [] (draw := drawX Tryz.prog ⟨false, _, []⟩) dOk ?_)
  simp only [argE, Nat.reduceAdd]
  repeat' (first
    | (refine gateE ?_; (first | refine b_c0 ?_ | refine b_nil ?_ | fail))
    | (refine gateO ?_; (first | refine m14 ?_ | (refine m07 ?_; (first | refine m15 ?_ | refine m16 ?_ | fail)) | refine m42 ?_ | refine b_assignI ?_ | refine b_assignN ?_ | refine m08 ?_ | (refine m20 ?_; (first | refine m49 ?_ | refine m50 ?_ | refine v_nT ?_ | refine v_nF ?_ | refine v_nP ?_ | refine v_k ?_ | refine m51 ?_ | fail)) | refine b_callB ?_ | refine m23 ?_ | refine m01 ?_ | fail))
    | (refine gateT ?_; (first | refine b_thn ?_ | refine b_thr ?_ | refine b_the ?_ | fail))
    | (refine gateX ?_; (first | refine b_seq ?_ | refine b_region ?_ | (refine m06 ?_; (first | refine c_T ?_ | refine c_F ?_ | refine c_P ?_ ?_ | refine c_B ?_ ?_ | fail)) | refine b_ret ?_ | refine b_skip ?_ | refine b_block ?_ | refine b_exit ?_ | fail))
    | refine m43 ?_
    | refine a_consI ?_
    | refine m21 ?_
    | refine a_nil ?_
    | (refine gateK ?_; (first | refine c_call (rsol_4 _ X f n (FL.app hX _) hn A a (FL.app hA _) hz) (OldOk.app (by simp)) ?_ | refine c_call (rsol_3 _ _ (ut4 a f n) n (FL.fzn _ _ _ (by simp)) hn A a (FL.app hA _)) (OldOk.app (by simp)) ?_ | refine c_call (rtake_b _ _ (lt3 a (ut4 a f n) n n) n (FL.fzn _ _ _ (by simp)) hn P p (IL.app hP _) hpl hpv) (OldOk.app (by simp)) ?_ | fail))
    | (refine gateQ ?_; refine m05 ?_)
    | (refine gateR ?_; (first | refine m04 ?_ | refine m02 ?_ | refine m03 ?_ | refine rk_nil ?_ | fail))
    | intro _)
  all_goals first
    | (exfalso; contradiction)
    | (refine rv_old rfl (by have h1 := hX.mx; simp only [resOne, List.nil_append, List.cons_append, aOf, aOf1, mx, mxL, mxL_fl]; omega) ?_; exact rfl)

end
theorem upN {Pg : Program} {f : Nat} {a : List AV} {r : AV} {H : List (List AV)} (h : ∀ N, CSpec Pg f a (H ++ N) r (H ++ N)) (N N' : List (List AV)) : CSpec Pg f a (H ++ N ++ N') r (H ++ N ++ N') := by
  rw [List.append_assoc]; exact h (N ++ N')
section
variable (H : List (List AV)) (D : AV) (la : List Nat) (hF : FL H D la) (mo rows cols ld : Int) (hI : MI la.length mo rows cols ld) (X : AV) (lx : List Nat) (hX : FL H X lx) (xo xn xi : Int) (hxI : VI lx.length xo xn xi) (P : AV) (p : List Int) (hP : IL H P p) (hB : p.length ≤ 2 ^ 30)
include hF hI hX hxI hP hB in
theorem lr_b (bb : Bool) (h : decide (GoodP la.length mo rows cols ld ∧ rows = cols ∧ rows = (p.length : Int) ∧ pivP p) = bb) (N : List (List AV)) : CSpec Tryz.prog 52 [(.agg [D, .int .i64 mo, .int .i64 rows, .int .i64 cols, .int .i64 ld, P])] (H ++ N) (.bool bb) (H ++ N) := by
  subst h; exact lright_c (H ++ N) D la (hF.app N) mo rows cols ld hI P p (hP.app N) hB
end
section
variable (H : List (List AV)) (D : AV) (la : List Nat) (hF : FL H D la) (mo rows cols ld : Int) (hI : MI la.length mo rows cols ld) (X : AV) (lx : List Nat) (hX : FL H X lx) (xo xn xi : Int) (hxI : VI lx.length xo xn xi) (P : AV) (p : List Int) (hP : IL H P p) (hB : p.length ≤ 2 ^ 30)
include hF hI hX hxI hP hB in
theorem rg_b (bb : Bool) (h : decide (RightP lx.length xo xn xi) = bb) (N : List (List AV)) : CSpec Tryz.prog 141 [vt X xo xn xi] (H ++ N) (.bool bb) (H ++ N) :=
  right_r (H ++ N) X lx (hX.app N) xo xn xi hxI bb h
end
section
variable (H : List (List AV)) (D : AV) (la : List Nat) (hF : FL H D la) (mo rows cols ld : Int) (hI : MI la.length mo rows cols ld) (X : AV) (lx : List Nat) (hX : FL H X lx) (xo xn xi : Int) (hxI : VI lx.length xo xn xi) (P : AV) (p : List Int) (hP : IL H P p) (hB : p.length ≤ 2 ^ 30)
include hF hI hX hxI hP hB in
theorem vec_k (r : Bool) (e : Int) (hr : decide (RightP lx.length xo xn xi) = r) (hc : ∀ N, CSpec Tryz.prog 155 [(.agg [D, .int .i64 mo, .int .i64 rows, .int .i64 cols, .int .i64 ld, P]), .bool r, .int .i64 xn, mt X xo 1 xn xi] (H ++ N) (.int .i64 e) (H ++ N)) (N : List (List AV)) : CSpec Tryz.prog 103 [(.agg [D, .int .i64 mo, .int .i64 rows, .int .i64 cols, .int .i64 ld, P]), vt X xo xn xi] (H ++ N) (.int .i64 e) (H ++ N) :=
  vec_c (H ++ N) D X P mo rows cols ld xo xn xi lx (hX.app N) r e (upN (rg_b H D la hF mo rows cols ld hI X lx hX xo xn xi hxI P p hP hB r hr) N) (upN hc N)
end
section
variable (H : List (List AV)) (D : AV) (la : List Nat) (hF : FL H D la) (mo rows cols ld : Int) (hI : MI la.length mo rows cols ld) (X : AV) (lx : List Nat) (hX : FL H X lx) (xo xn xi : Int) (hxI : VI lx.length xo xn xi) (P : AV) (p : List Int) (hP : IL H P p) (hB : p.length ≤ 2 ^ 30)
include hF hI hX hxI hP hB in
end
section
variable (H : List (List AV)) (D : AV) (la : List Nat) (hF : FL H D la) (mo rows cols ld : Int) (hI : MI la.length mo rows cols ld) (X : AV) (lx : List Nat) (hX : FL H X lx) (xo xn xi : Int) (hxI : VI lx.length xo xn xi) (P : AV) (p : List Int) (hP : IL H P p) (hB : p.length ≤ 2 ^ 30)
include hF hI hX hxI hP hB in
end
section
variable (H : List (List AV)) (D : AV) (la : List Nat) (hF : FL H D la) (mo rows cols ld : Int) (hI : MI la.length mo rows cols ld) (X : AV) (lx : List Nat) (hX : FL H X lx) (xo xn xi : Int) (hxI : VI lx.length xo xn xi) (P : AV) (p : List Int) (hP : IL H P p) (hB : p.length ≤ 2 ^ 30)
include hF hI hX hxI hP hB in
theorem vec_0 (hR : (GoodP la.length mo rows cols ld ∧ rows = cols ∧ rows = (p.length : Int) ∧ pivP p)) (hx : RightP lx.length xo xn xi) (hne : xn = rows) (hMe : ∀ N, CSpec Tryz.prog 142 [mt X xo 1 xn xi, mt D mo rows cols ld] (H ++ N) (.bool false) (H ++ N)) (hZ : ∀ N, CSpec Tryz.prog 177 [mt D mo rows cols ld] (H ++ N) (.bool false) (H ++ N)) (N : List (List AV)) : CSpec Tryz.prog 103 [(.agg [D, .int .i64 mo, .int .i64 rows, .int .i64 cols, .int .i64 ld, P]), vt X xo xn xi] (H ++ N) (.int .i64 0) (H ++ N) :=
  vec_k H D la hF mo rows cols ld hI X lx hX xo xn xi hxI P p hP hB true 0 (decide_eq_true hx) (fun N => chk_0 (H ++ N) D X P mo rows cols ld xo xn xi (upN (lr_b H D la hF mo rows cols ld hI X lx hX xo xn xi hxI P p hP hB true (decide_eq_true hR)) N) hne (upN hMe N) (upN hZ N)) N
end
def nb : Nat → DV → AV
  | 0, _ => .bool false
  | _ + 1, d => .bool d.neg
end Go.Sx
