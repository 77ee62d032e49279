/- A part of the proofs of this seat: YE. No condition is set. -/
import Derived.Test.YthjjpbcmimpjbaaGreatYD
set_option linter.unusedVariables false
set_option linter.unusedSimpArgs false
set_option maxRecDepth 20000
namespace Go.Sx
open Go.Proofs

theorem most_a (H : List (List AV)) (X : AV) (x : List Nat) (hX : FL H X x) (h1 : 1 ≤ x.length) (h64 : x.length ≤ 64) : CSpec Tryz.prog 138 [vt X 0 (x.length : Int) 1] H (.tup [.int .i64 (moN x x.length : Int), .int .i64 0]) H := by
  have h := most_c H X x hX 0 1 x.length (vec_ok h64).1 (vec_ok h64).2 (by omega)
  rwa [vecL_all] at h
theorem most_n (H : List (List AV)) (X : AV) (x : List Nat) (hX : FL H X x) (n : Nat) (hx : x.length = n) (h1 : 1 ≤ n) (h64 : n ≤ 64) : CSpec Tryz.prog 138 [vt X 0 (n : Int) 1] H (.tup [.int .i64 (moN x n : Int), .int .i64 0]) H := by subst hx; exact most_a H X x hX h1 h64
attribute [local irreducible] Ex exOps exD opX opE thenX blkX RetQ Spec CSpec Fr condK guardK guardD ckK valK pickK loadK faK callK argK gK fK rK RetV lpX prK
set_option maxHeartbeats 4000000 in
theorem nx_0 (H : List (List AV)) (mid : Nat) (hb : mid < H.length) (n : Nat) (hn1 : 1 ≤ n) (hn : n ≤ 64) (est : Nat) (V S : AV) (hV : mx V = 0) (hS : mx S = 0) (j ct : Nat) (H0 H' : List (List AV)) (h0 : H.set mid (mDc (n : Int) 0 est V S (j : Int) (ct : Int)) = H0) (h' : H.set mid (mDc (n : Int) 1 est V S (j : Int) (ct : Int)) ++ [fl (rml (yB n) n)] = H') (m : Nat) (hm9 : H.length = m) :
    CSpec Tryz.prog 102 [mP mid, .slnil] H0 (.tup [.slm m n 0 n 1, .int .i64 1]) H' := by
  subst h0 h' hm9
  have hXl : slen AV.slnil = some 0 := rfl
  refine .mk (fun args w => Tryz.call102 args w) (Spec.intro' (fn := Tryz.f102) Tryz.func102 rfl (by kernel_rfl) (by simp) true [] (draw := drawX Tryz.prog ⟨true, _, []⟩) dOk ?_)
  simp only [argE, Nat.reduceAdd]
  repeat' (first
    | (refine gateE ?_; (first | refine b_c0 ?_ | refine b_nil ?_ | refine m13 ?_ | refine m12 ?_ | refine m11 ?_ | (refine m10 ?_; (first | refine g_TT ?_ | refine g_FF ?_ | refine g_TF ?_ | refine g_FT ?_ | refine g_PT ?_ ?_ | refine g_PF ?_ ?_ | refine g_BT ?_ ?_ | refine g_BF ?_ ?_ | fail)) | (refine m09 ?_; (first | refine g_TT ?_ | refine g_FF ?_ | refine g_TF ?_ | refine g_FT ?_ | refine g_PT ?_ ?_ | refine g_PF ?_ ?_ | refine g_BT ?_ ?_ | refine g_BF ?_ ?_ | fail)) | refine m38 ?_ | fail))
    | (refine gateO ?_; (first | refine m14 ?_ | (refine m17 ?_; first | refine m19 ?_ | refine m18 ?_) | (refine m07 ?_; (first | refine m15 ?_ | refine m16 ?_ | refine l_nA (by simp) (by exact rfl) (by exact rfl) (by exact rfl) ?_ | refine l_n1 (n := H.length) (by simp) (by exact rfl) (by exact rfl) (by exact rfl) ?_ | refine l_mM hb (by exact rfl) (by exact rfl) ?_ | fail)) | refine b_nilC (by (conv => {lhs; whnf}); done) ?_ | refine b_boxE (n := H.length) (by (conv => {lhs; whnf}); done) (by exact rfl) (by exact rfl) (by simp) (by (conv => {lhs; whnf}); done) (by (conv => {lhs; simp only [List.nil_append, List.cons_append]}); done) ?_ | refine b_mkF ?_ | refine b_stM (by (conv => {lhs; whnf}); done) (by (conv => {lhs; whnf}); done) (by exact rfl) hb (by exact rfl) (by decide) (by first | exact (by exact rfl) | simp only [mx, mxL_fl]) (by exact rfl) ?_ | refine b_lenA (by (conv => {lhs; whnf}); done) (by exact hXl) ?_ | (refine m45 ?_; (first | refine v_bbT (by exact rfl) ?_ | refine v_k ?_ | fail)) | (refine m00 ?_; (first | refine m52 ?_ | refine m53 ?_ | refine v_eP ?_ | refine m54 ?_ | refine m55 ?_ | refine v_neP ?_ | refine m47 ?_ | refine m48 ?_ | refine m49 ?_ | refine m50 ?_ | refine v_qc (by omega) (by omega) ?_ | refine v_k ?_ | refine m51 ?_ | fail)) | (refine m22 ?_; (first | refine m26 ?_ | refine m27 ?_ | fail)) | refine m42 ?_ | refine b_assignI ?_ | refine b_assignN ?_ | refine m08 ?_ | refine b_callB ?_ | refine b_lenA (by (conv => {lhs; whnf}); done) (by first | rfl | assumption) ?_ | refine m23 ?_ | refine m25 ?_ | refine m01 ?_ | (refine m46 ?_; (first | refine m52 ?_ | refine m53 ?_ | refine v_eP ?_ | refine m54 ?_ | refine m55 ?_ | refine v_neP ?_ | refine m47 ?_ | refine m48 ?_ | refine m49 ?_ | refine m50 ?_ | refine v_qc (by omega) (by omega) ?_ | refine v_k ?_ | refine m51 ?_ | fail)) | refine b_cnvF (by (conv => {lhs; whnf}); done) (by exact rfl) ?_ | refine b_cnvIF (by (conv => {lhs; whnf}); done) ?_ | fail))
    | (refine gateD ?_; (first | refine m36 ?_ | refine d_nil ?_ | refine m32 ?_ | refine m31 ?_ | refine m30 ?_ | (refine m28 ?_; (first | refine dg_TT ?_ | refine dg_FF ?_ | refine dg_TF ?_ | refine dg_FT ?_ | refine dg_PT ?_ ?_ | refine dg_PF ?_ ?_ | refine dg_BT ?_ ?_ | refine dg_BF ?_ ?_ | fail)) | (refine m29 ?_; (first | refine dg_TT ?_ | refine dg_FF ?_ | refine dg_TF ?_ | refine dg_FT ?_ | refine dg_PT ?_ ?_ | refine dg_PF ?_ ?_ | refine dg_BT ?_ ?_ | refine dg_BF ?_ ?_ | fail)) | refine m37 ?_ | fail))
    | (refine gateC ?_; (first | refine k_lt ?_ | refine k_fz ?_ | refine k_lb (by (conv => {lhs; whnf}); done) ?_ | refine k_ms ?_ | refine k_bx (by exact rfl) (by exact rfl) ?_ | refine m34 ?_ | refine m35 ?_ | refine k_ld (by (conv => {lhs; whnf}); done) (by simp [ldOk]) ?_ | refine m33 ?_ | refine k_mn ?_ | refine k_mnM hb (by intro id h9; first | (simp at h9; done) | (simp at h9; omega)) ?_ | refine m56 ?_ | refine k_mnF ?_ | refine k_mnL (by exact rfl) ?_ | fail))
    | (refine gateT ?_; (first | refine b_thn ?_ | refine b_thr ?_ | refine b_the ?_ | fail))
    | (refine gateX ?_; (first | refine b_seq ?_ | refine b_region ?_ | (refine m06 ?_; (first | refine c_T ?_ | refine c_F ?_ | refine c_P ?_ ?_ | refine c_B ?_ ?_ | fail)) | refine b_ret ?_ | refine b_skip ?_ | refine b_block ?_ | refine b_exit ?_ | refine b_drawW (id := 10) ⟨[], fun id => id == H.length, []⟩ [7, 10] [(0, .ld true), (1, .ld false), (2, .lt), (3, .lt), (4, .mn true), (5, .lt), (6, .lt), (7, .mn false), (8, .lt), (9, .lt), (10, .mn false)] (by kernel_rfl) ?_ | refine b_draw (id := 14) [] [9] [(0, .ld true), (1, .lt), (2, .mn true), (3, .mn true), (4, .lt), (5, .lt), (6, .lt), (7, .lt), (8, .lt), (9, .mn false)] (by kernel_rfl) ?_ | refine b_draw (id := 26) [] [9] [(0, .ld true), (1, .lt), (2, .mn true), (3, .mn true), (4, .lt), (5, .lt), (6, .lt), (7, .lt), (8, .lt), (9, .mn false)] (by kernel_rfl) ?_ | refine b_draw (id := 27) [] [] [(0, .lt), (1, .lt), (2, .lt), (3, .ld true), (5, .lt), (6, .ld true), (7, .lt), (8, .lt), (9, .ld true), (10, .lt), (11, .ld true), (4, .mn true), (12, .mn true), (13, .ld true), (14, .lt), (15, .ld true), (16, .lt), (17, .lt), (18, .ld true), (19, .lt), (20, .lt)] (by kernel_rfl) ?_ | refine b_draw (id := 32) [] [11] [(0, .ld true), (1, .lt), (2, .ld true), (3, .lt), (4, .lt), (5, .ld true), (6, .lt), (7, .lt), (8, .lt), (9, .lt), (10, .lt), (11, .mn false)] (by kernel_rfl) ?_ | fail))
    | refine m43 ?_
    | refine a_consI ?_
    | refine m21 ?_
    | refine a_nil ?_
    | (refine gateK ?_; (first | refine c_call (vector_a _ .slnil [] (FL.nil _) (by simp)) (OldOk.app (by simp)) ?_ | refine c_call (ask_c (H ++ [[mP mid]]) mid (by simp; omega) n hn _ _ _ _ (by first | assumption | simp only [mx, mxL_fl]) (by first | assumption | simp only [mx, mxL_fl]) _ _ 1 1 147 _ (yB n) (fun N i hi => kb_c _ mid _ (md_at hb _) (by exact rfl) _ (bx_at hb) _ (by exact rfl) _) _ _ (set_app0 hb _) (set_app9 hb _ _) _ (by simp; rfl)) (OldOk.mdl (by simp) (mDc_mx (by first | assumption | simp only [mx, mxL_fl]) (by first | assumption | simp only [mx, mxL_fl]))) ?_ | fail))
    | refine m44 ?_
    | refine m40 ?_
    | (refine gk_nilN (by (conv => {lhs; simp only [List.nil_append, List.cons_append]}); done) ?_; first | refine ⟨by exact rfl, ?_⟩ | skip)
    | refine gk_nil ?_
    | (intro N' hN'; simp only [List.nil_append, List.cons_append] at hN'; subst hN')
    | (refine gateB ?_; (first | refine b_bln ?_ | refine b_blr ?_ | refine b_ble ?_ | refine m57 ?_ | fail))
    | (refine gateQ ?_; refine m05 ?_)
    | (refine gateR ?_; (first | refine m04 ?_ | refine m02 ?_ | refine m03 ?_ | refine rk_nil ?_ | fail))
    | intro _)
  all_goals first
    | (exfalso; contradiction)
    | (exfalso; omega)
    | (exfalso; simp_all; done)
    | (exfalso; simp_all; omega)
    | (refine rv_kp (j := 1) (cs := fl (rml (yB n) n)) (by simp) (by exact rfl) (by rw [mxL_fl]; exact Nat.zero_le _) ?_; simp only [List.length_set]; exact Fr.tup (Frs.cons (Fr.kp (j := 0) (cs := fl (rml (yB n) n)) rfl (hg_new (by simp) rfl) (by simp [*])) (Frs.cons (Fr.old (by simp [mx])) Frs.nil)))

set_option maxHeartbeats 4000000 in
theorem nx_1p (H : List (List AV)) (mid : Nat) (hb : mid < H.length) (n : Nat) (hn1 : 1 ≤ n) (hn : n ≤ 64) (est : Nat) (V S : AV) (hV : mx V = 0) (hS : mx S = 0) (j ct : Nat) (X : AV) (x : List Nat) (hX : ∀ c N, FL (H.set mid c ++ N) X x) (hx : x.length = n) (hN : NN X) (hn2 : 1 < n) (H0 H' : List (List AV)) (h0 : H.set mid (mDc (n : Int) 1 est V S (j : Int) (ct : Int)) = H0) (h' : H.set mid (mDc (n : Int) 2 (asumF x) (.sl none n (fl x)) (.sl none n (fl (sgL x))) (j : Int) (ct : Int)) ++ [fl (sgL x)] = H') (m : Nat) (hm9 : H.length = m) :
    CSpec Tryz.prog 102 [mP mid, X] H0 (.tup [.slm m n 0 n 1, .int .i64 2]) H' := by
  subst h0 h' hm9
  have hXl : slen X = some n := by have h9 := (hX [] []).len; rw [hx] at h9; exact h9
  refine .mk (fun args w => Tryz.call102 args w) (Spec.intro' (fn := Tryz.f102) Tryz.func102 rfl (by kernel_rfl) (by simp) true [] (draw := drawX Tryz.prog ⟨true, _, []⟩) dOk ?_)
  simp only [argE, Nat.reduceAdd]
  repeat' (first
    | (refine gateE ?_; (first | refine b_c0 ?_ | refine b_nil ?_ | refine m13 ?_ | refine m12 ?_ | refine m11 ?_ | (refine m10 ?_; (first | refine g_TT ?_ | refine g_FF ?_ | refine g_TF ?_ | refine g_FT ?_ | refine g_PT ?_ ?_ | refine g_PF ?_ ?_ | refine g_BT ?_ ?_ | refine g_BF ?_ ?_ | fail)) | (refine m09 ?_; (first | refine g_TT ?_ | refine g_FF ?_ | refine g_TF ?_ | refine g_FT ?_ | refine g_PT ?_ ?_ | refine g_PF ?_ ?_ | refine g_BT ?_ ?_ | refine g_BF ?_ ?_ | fail)) | refine m38 ?_ | fail))
    | (refine gateO ?_; (first | refine m14 ?_ | (refine m17 ?_; first | refine m19 ?_ | refine m18 ?_) | (refine m07 ?_; (first | refine m15 ?_ | refine m16 ?_ | refine l_nA (by simp) (by exact rfl) (by exact rfl) (by exact rfl) ?_ | refine l_n1 (n := H.length) (by simp) (by exact rfl) (by exact rfl) (by exact rfl) ?_ | refine l_mM hb (by exact rfl) (by exact rfl) ?_ | fail)) | refine b_nilC (by (conv => {lhs; whnf}); done) ?_ | refine b_boxE (n := H.length) (by (conv => {lhs; whnf}); done) (by exact rfl) (by exact rfl) (by simp) (by (conv => {lhs; whnf}); done) (by (conv => {lhs; simp only [List.nil_append, List.cons_append]}); done) ?_ | refine b_mkF ?_ | refine b_stM (by (conv => {lhs; whnf}); done) (by (conv => {lhs; whnf}); done) (by exact rfl) hb (by exact rfl) (by decide) (by first | exact (by exact rfl) | simp only [mx, mxL_fl]) (by exact rfl) ?_ | refine b_lenA (by (conv => {lhs; whnf}); done) (by exact hXl) ?_ | (refine m45 ?_; (first | refine v_bbT (by exact rfl) ?_ | refine v_k ?_ | fail)) | (refine m00 ?_; (first | refine m52 ?_ | refine m53 ?_ | refine v_eP ?_ | refine m54 ?_ | refine m55 ?_ | refine v_neP ?_ | refine m47 ?_ | refine m48 ?_ | refine m49 ?_ | refine m50 ?_ | refine v_qc (by omega) (by omega) ?_ | refine v_k ?_ | refine m51 ?_ | fail)) | (refine m22 ?_; (first | refine m26 ?_ | refine m27 ?_ | fail)) | refine m42 ?_ | refine b_assignI ?_ | refine b_assignN ?_ | refine m08 ?_ | refine b_callB ?_ | refine b_lenA (by (conv => {lhs; whnf}); done) (by first | rfl | assumption) ?_ | refine m23 ?_ | refine m25 ?_ | refine m01 ?_ | (refine m46 ?_; (first | refine m52 ?_ | refine m53 ?_ | refine v_eP ?_ | refine m54 ?_ | refine m55 ?_ | refine v_neP ?_ | refine m47 ?_ | refine m48 ?_ | refine m49 ?_ | refine m50 ?_ | refine v_qc (by omega) (by omega) ?_ | refine v_k ?_ | refine m51 ?_ | fail)) | refine b_cnvF (by (conv => {lhs; whnf}); done) (by exact rfl) ?_ | refine b_cnvIF (by (conv => {lhs; whnf}); done) ?_ | fail))
    | (refine gateD ?_; (first | refine m36 ?_ | refine d_nil ?_ | refine m32 ?_ | refine m31 ?_ | refine m30 ?_ | (refine m28 ?_; (first | refine dg_TT ?_ | refine dg_FF ?_ | refine dg_TF ?_ | refine dg_FT ?_ | refine dg_PT ?_ ?_ | refine dg_PF ?_ ?_ | refine dg_BT ?_ ?_ | refine dg_BF ?_ ?_ | fail)) | (refine m29 ?_; (first | refine dg_TT ?_ | refine dg_FF ?_ | refine dg_TF ?_ | refine dg_FT ?_ | refine dg_PT ?_ ?_ | refine dg_PF ?_ ?_ | refine dg_BT ?_ ?_ | refine dg_BF ?_ ?_ | fail)) | refine m37 ?_ | fail))
    | (refine gateC ?_; (first | refine k_lt ?_ | refine k_fz ?_ | refine k_lb (by (conv => {lhs; whnf}); done) ?_ | refine k_ms ?_ | refine k_bx (by exact rfl) (by exact rfl) ?_ | refine m34 ?_ | refine m35 ?_ | refine k_ld (by (conv => {lhs; whnf}); done) (by simp [ldOk]) ?_ | refine m33 ?_ | refine k_mn ?_ | refine k_mnM hb (by intro id h9; first | (simp at h9; done) | (simp at h9; omega)) ?_ | refine m56 ?_ | refine k_mnF ?_ | refine k_mnL (by exact rfl) ?_ | fail))
    | (refine gateT ?_; (first | refine b_thn ?_ | refine b_thr ?_ | refine b_the ?_ | fail))
    | (refine gateX ?_; (first | refine b_seq ?_ | refine b_region ?_ | (refine m06 ?_; (first | refine c_T ?_ | refine c_F ?_ | refine c_P ?_ ?_ | refine c_B ?_ ?_ | fail)) | refine b_ret ?_ | refine b_skip ?_ | refine b_block ?_ | refine b_exit ?_ | refine b_drawW (id := 10) ⟨[], fun id => id == H.length, []⟩ [7, 10] [(0, .ld true), (1, .ld false), (2, .lt), (3, .lt), (4, .mn true), (5, .lt), (6, .lt), (7, .mn false), (8, .lt), (9, .lt), (10, .mn false)] (by kernel_rfl) ?_ | refine b_draw (id := 14) [] [9] [(0, .ld true), (1, .lt), (2, .mn true), (3, .mn true), (4, .lt), (5, .lt), (6, .lt), (7, .lt), (8, .lt), (9, .mn false)] (by kernel_rfl) ?_ | refine b_draw (id := 26) [] [9] [(0, .ld true), (1, .lt), (2, .mn true), (3, .mn true), (4, .lt), (5, .lt), (6, .lt), (7, .lt), (8, .lt), (9, .mn false)] (by kernel_rfl) ?_ | refine b_draw (id := 27) [] [] [(0, .lt), (1, .lt), (2, .lt), (3, .ld true), (5, .lt), (6, .ld true), (7, .lt), (8, .lt), (9, .ld true), (10, .lt), (11, .ld true), (4, .mn true), (12, .mn true), (13, .ld true), (14, .lt), (15, .ld true), (16, .lt), (17, .lt), (18, .ld true), (19, .lt), (20, .lt)] (by kernel_rfl) ?_ | refine b_draw (id := 32) [] [11] [(0, .ld true), (1, .lt), (2, .ld true), (3, .lt), (4, .lt), (5, .ld true), (6, .lt), (7, .lt), (8, .lt), (9, .lt), (10, .lt), (11, .mn false)] (by kernel_rfl) ?_ | fail))
    | refine m43 ?_
    | refine a_consI ?_
    | refine m21 ?_
    | refine a_nil ?_
    | (refine gateK ?_; (first | refine c_call (vector_a _ X x (hX _ _) (by omega)) (OldOk.app (by simp)) ?_ | refine c_call (clone_n9 _ X x (hX _ _) n hx hn hN) (OldOk.app (by simp)) ?_ | refine c_call (signs_c (H ++ [[mP mid]]) mid (by simp; omega) n hn1 hn _ _ _ _ (by first | assumption | simp only [mx, mxL_fl] | (split <;> first | assumption | simp only [mx, mxL_fl])) (by first | assumption | simp only [mx, mxL_fl] | (split <;> first | assumption | simp only [mx, mxL_fl])) _ _ 2 X x (fun c N => by rw [set_app0 hb, List.append_assoc]; exact hX _ _) hx hN _ _ (set_app0 hb _) (set_app9 hb _ _) _ (by simp; rfl)) (OldOk.mdl (by simp) (mDc_mx (by first | assumption | simp only [mx, mxL_fl] | (split <;> first | assumption | simp only [mx, mxL_fl])) (by first | assumption | simp only [mx, mxL_fl] | (split <;> first | assumption | simp only [mx, mxL_fl])))) ?_ | fail))
    | refine m44 ?_
    | refine m40 ?_
    | (refine gk_nilN (by (conv => {lhs; simp only [List.nil_append, List.cons_append]}); done) ?_; first | refine ⟨by exact rfl, ?_⟩ | skip)
    | refine gk_nil ?_
    | (intro N' hN'; simp only [List.nil_append, List.cons_append] at hN'; subst hN')
    | (refine gateB ?_; (first | refine b_bln ?_ | refine b_blr ?_ | refine b_ble ?_ | refine m57 ?_ | fail))
    | (refine gateQ ?_; refine m05 ?_)
    | (refine gateR ?_; (first | refine m04 ?_ | refine m02 ?_ | refine m03 ?_ | refine rk_nil ?_ | fail))
    | intro _)
  all_goals first
    | (exfalso; contradiction)
    | (exfalso; omega)
    | (exfalso; simp_all; done)
    | (exfalso; simp_all; omega)
    | (refine rv_kp (j := 1) (cs := fl (sgL x)) (by simp) (by exact rfl) (by rw [mxL_fl]; exact Nat.zero_le _) ?_; simp only [List.length_set]; exact Fr.tup (Frs.cons (Fr.kp (j := 0) (cs := fl (sgL x)) rfl (hg_new (by simp) rfl) (by simp [*])) (Frs.cons (Fr.old (by simp [mx])) Frs.nil)))

set_option maxHeartbeats 4000000 in
theorem nx_1d (H : List (List AV)) (mid : Nat) (hb : mid < H.length) (n : Nat) (hn1 : 1 ≤ n) (hn : n ≤ 64) (est : Nat) (V S : AV) (hV : mx V = 0) (hS : mx S = 0) (j ct : Nat) (X : AV) (x : List Nat) (hX : ∀ c N, FL (H.set mid c ++ N) X x) (hx : x.length = n) (hN : NN X) (hn2 : n = 1) (H0 H' : List (List AV)) (h0 : H.set mid (mDc (n : Int) 1 est V S (j : Int) (ct : Int)) = H0) (h' : H.set mid (mDc (n : Int) 6 (asumF x) (.sl none n (fl x)) S (j : Int) (ct : Int)) = H') :
    CSpec Tryz.prog 102 [mP mid, X] H0 (.tup [.slnil, .int .i64 0]) H' := by
  subst h0 h'
  have hXl : slen X = some n := by have h9 := (hX [] []).len; rw [hx] at h9; exact h9
  refine .mk (fun args w => Tryz.call102 args w) (Spec.intro' (fn := Tryz.f102) Tryz.func102 rfl (by kernel_rfl) (by simp) true [] (draw := drawX Tryz.prog ⟨true, _, []⟩) dOk ?_)
  simp only [argE, Nat.reduceAdd]
  repeat' (first
    | (refine gateE ?_; (first | refine b_c0 ?_ | refine b_nil ?_ | refine m13 ?_ | refine m12 ?_ | refine m11 ?_ | (refine m10 ?_; (first | refine g_TT ?_ | refine g_FF ?_ | refine g_TF ?_ | refine g_FT ?_ | refine g_PT ?_ ?_ | refine g_PF ?_ ?_ | refine g_BT ?_ ?_ | refine g_BF ?_ ?_ | fail)) | (refine m09 ?_; (first | refine g_TT ?_ | refine g_FF ?_ | refine g_TF ?_ | refine g_FT ?_ | refine g_PT ?_ ?_ | refine g_PF ?_ ?_ | refine g_BT ?_ ?_ | refine g_BF ?_ ?_ | fail)) | refine m38 ?_ | fail))
    | (refine gateO ?_; (first | refine m14 ?_ | (refine m17 ?_; first | refine m19 ?_ | refine m18 ?_) | (refine m07 ?_; (first | refine m15 ?_ | refine m16 ?_ | refine l_nA (by simp) (by exact rfl) (by exact rfl) (by exact rfl) ?_ | refine l_n1 (n := H.length) (by simp) (by exact rfl) (by exact rfl) (by exact rfl) ?_ | refine l_mM hb (by exact rfl) (by exact rfl) ?_ | fail)) | refine b_nilC (by (conv => {lhs; whnf}); done) ?_ | refine b_boxE (n := H.length) (by (conv => {lhs; whnf}); done) (by exact rfl) (by exact rfl) (by simp) (by (conv => {lhs; whnf}); done) (by (conv => {lhs; simp only [List.nil_append, List.cons_append]}); done) ?_ | refine b_mkF ?_ | refine b_stM (by (conv => {lhs; whnf}); done) (by (conv => {lhs; whnf}); done) (by exact rfl) hb (by exact rfl) (by decide) (by first | exact (by exact rfl) | simp only [mx, mxL_fl]) (by exact rfl) ?_ | refine b_lenA (by (conv => {lhs; whnf}); done) (by exact hXl) ?_ | (refine m45 ?_; (first | refine v_bbT (by exact rfl) ?_ | refine v_k ?_ | fail)) | (refine m00 ?_; (first | refine m52 ?_ | refine m53 ?_ | refine v_eP ?_ | refine m54 ?_ | refine m55 ?_ | refine v_neP ?_ | refine m47 ?_ | refine m48 ?_ | refine m49 ?_ | refine m50 ?_ | refine v_qc (by omega) (by omega) ?_ | refine v_k ?_ | refine m51 ?_ | fail)) | (refine m22 ?_; (first | refine m26 ?_ | refine m27 ?_ | fail)) | refine m42 ?_ | refine b_assignI ?_ | refine b_assignN ?_ | refine m08 ?_ | refine b_callB ?_ | refine b_lenA (by (conv => {lhs; whnf}); done) (by first | rfl | assumption) ?_ | refine m23 ?_ | refine m25 ?_ | refine m01 ?_ | (refine m46 ?_; (first | refine m52 ?_ | refine m53 ?_ | refine v_eP ?_ | refine m54 ?_ | refine m55 ?_ | refine v_neP ?_ | refine m47 ?_ | refine m48 ?_ | refine m49 ?_ | refine m50 ?_ | refine v_qc (by omega) (by omega) ?_ | refine v_k ?_ | refine m51 ?_ | fail)) | refine b_cnvF (by (conv => {lhs; whnf}); done) (by exact rfl) ?_ | refine b_cnvIF (by (conv => {lhs; whnf}); done) ?_ | fail))
    | (refine gateD ?_; (first | refine m36 ?_ | refine d_nil ?_ | refine m32 ?_ | refine m31 ?_ | refine m30 ?_ | (refine m28 ?_; (first | refine dg_TT ?_ | refine dg_FF ?_ | refine dg_TF ?_ | refine dg_FT ?_ | refine dg_PT ?_ ?_ | refine dg_PF ?_ ?_ | refine dg_BT ?_ ?_ | refine dg_BF ?_ ?_ | fail)) | (refine m29 ?_; (first | refine dg_TT ?_ | refine dg_FF ?_ | refine dg_TF ?_ | refine dg_FT ?_ | refine dg_PT ?_ ?_ | refine dg_PF ?_ ?_ | refine dg_BT ?_ ?_ | refine dg_BF ?_ ?_ | fail)) | refine m37 ?_ | fail))
    | (refine gateC ?_; (first | refine k_lt ?_ | refine k_fz ?_ | refine k_lb (by (conv => {lhs; whnf}); done) ?_ | refine k_ms ?_ | refine k_bx (by exact rfl) (by exact rfl) ?_ | refine m34 ?_ | refine m35 ?_ | refine k_ld (by (conv => {lhs; whnf}); done) (by simp [ldOk]) ?_ | refine m33 ?_ | refine k_mn ?_ | refine k_mnM hb (by intro id h9; first | (simp at h9; done) | (simp at h9; omega)) ?_ | refine m56 ?_ | refine k_mnF ?_ | refine k_mnL (by exact rfl) ?_ | fail))
    | (refine gateT ?_; (first | refine b_thn ?_ | refine b_thr ?_ | refine b_the ?_ | fail))
    | (refine gateX ?_; (first | refine b_seq ?_ | refine b_region ?_ | (refine m06 ?_; (first | refine c_T ?_ | refine c_F ?_ | refine c_P ?_ ?_ | refine c_B ?_ ?_ | fail)) | refine b_ret ?_ | refine b_skip ?_ | refine b_block ?_ | refine b_exit ?_ | refine b_drawW (id := 10) ⟨[], fun id => id == H.length, []⟩ [7, 10] [(0, .ld true), (1, .ld false), (2, .lt), (3, .lt), (4, .mn true), (5, .lt), (6, .lt), (7, .mn false), (8, .lt), (9, .lt), (10, .mn false)] (by kernel_rfl) ?_ | refine b_draw (id := 14) [] [9] [(0, .ld true), (1, .lt), (2, .mn true), (3, .mn true), (4, .lt), (5, .lt), (6, .lt), (7, .lt), (8, .lt), (9, .mn false)] (by kernel_rfl) ?_ | refine b_draw (id := 26) [] [9] [(0, .ld true), (1, .lt), (2, .mn true), (3, .mn true), (4, .lt), (5, .lt), (6, .lt), (7, .lt), (8, .lt), (9, .mn false)] (by kernel_rfl) ?_ | refine b_draw (id := 27) [] [] [(0, .lt), (1, .lt), (2, .lt), (3, .ld true), (5, .lt), (6, .ld true), (7, .lt), (8, .lt), (9, .ld true), (10, .lt), (11, .ld true), (4, .mn true), (12, .mn true), (13, .ld true), (14, .lt), (15, .ld true), (16, .lt), (17, .lt), (18, .ld true), (19, .lt), (20, .lt)] (by kernel_rfl) ?_ | refine b_draw (id := 32) [] [11] [(0, .ld true), (1, .lt), (2, .ld true), (3, .lt), (4, .lt), (5, .ld true), (6, .lt), (7, .lt), (8, .lt), (9, .lt), (10, .lt), (11, .mn false)] (by kernel_rfl) ?_ | fail))
    | refine m43 ?_
    | refine a_consI ?_
    | refine m21 ?_
    | refine a_nil ?_
    | (refine gateK ?_; (first | refine c_call (vector_a _ X x (hX _ _) (by omega)) (OldOk.app (by simp)) ?_ | refine c_call (clone_n9 _ X x (hX _ _) n hx hn hN) (OldOk.app (by simp)) ?_ | fail))
    | refine m44 ?_
    | refine m40 ?_
    | (refine gk_nilN (by (conv => {lhs; simp only [List.nil_append, List.cons_append]}); done) ?_; first | refine ⟨by exact rfl, ?_⟩ | skip)
    | refine gk_nil ?_
    | (intro N' hN'; simp only [List.nil_append, List.cons_append] at hN'; subst hN')
    | (refine gateB ?_; (first | refine b_bln ?_ | refine b_blr ?_ | refine b_ble ?_ | refine m57 ?_ | fail))
    | (refine gateQ ?_; refine m05 ?_)
    | (refine gateR ?_; (first | refine m04 ?_ | refine m02 ?_ | refine m03 ?_ | refine rk_nil ?_ | fail))
    | intro _)
  all_goals first
    | (exfalso; contradiction)
    | (exfalso; omega)
    | (exfalso; simp_all; done)
    | (exfalso; simp_all; omega)
    | (refine rv_old (by simp) (by simp [mx, mxL, resOne]) ?_; exact rfl)

set_option maxHeartbeats 4000000 in
theorem nx_2 (H : List (List AV)) (mid : Nat) (hb : mid < H.length) (n : Nat) (hn1 : 1 ≤ n) (hn : n ≤ 64) (est : Nat) (V S : AV) (hV : mx V = 0) (hS : mx S = 0) (j ct : Nat) (X : AV) (x : List Nat) (hX : ∀ c N, FL (H.set mid c ++ N) X x) (hx : x.length = n) (hN : NN X) (H0 H' : List (List AV)) (h0 : H.set mid (mDc (n : Int) 2 est V S (j : Int) (ct : Int)) = H0) (h' : H.set mid (mDc (n : Int) 3 est V S (moN x n : Int) ((2 : Nat) : Int)) ++ [fl (rml (yU (moN x n)) n)] = H') (m : Nat) (hm9 : H.length = m) :
    CSpec Tryz.prog 102 [mP mid, X] H0 (.tup [.slm m n 0 n 1, .int .i64 1]) H' := by
  subst h0 h' hm9
  have hXl : slen X = some n := by have h9 := (hX [] []).len; rw [hx] at h9; exact h9
  refine .mk (fun args w => Tryz.call102 args w) (Spec.intro' (fn := Tryz.f102) Tryz.func102 rfl (by kernel_rfl) (by simp) true [] (draw := drawX Tryz.prog ⟨true, _, []⟩) dOk ?_)
  simp only [argE, Nat.reduceAdd]
  repeat' (first
    | (refine gateE ?_; (first | refine b_c0 ?_ | refine b_nil ?_ | refine m13 ?_ | refine m12 ?_ | refine m11 ?_ | (refine m10 ?_; (first | refine g_TT ?_ | refine g_FF ?_ | refine g_TF ?_ | refine g_FT ?_ | refine g_PT ?_ ?_ | refine g_PF ?_ ?_ | refine g_BT ?_ ?_ | refine g_BF ?_ ?_ | fail)) | (refine m09 ?_; (first | refine g_TT ?_ | refine g_FF ?_ | refine g_TF ?_ | refine g_FT ?_ | refine g_PT ?_ ?_ | refine g_PF ?_ ?_ | refine g_BT ?_ ?_ | refine g_BF ?_ ?_ | fail)) | refine m38 ?_ | fail))
    | (refine gateO ?_; (first | refine m14 ?_ | (refine m17 ?_; first | refine m19 ?_ | refine m18 ?_) | (refine m07 ?_; (first | refine m15 ?_ | refine m16 ?_ | refine l_nA (by simp) (by exact rfl) (by exact rfl) (by exact rfl) ?_ | refine l_n1 (n := H.length) (by simp) (by exact rfl) (by exact rfl) (by exact rfl) ?_ | refine l_mM hb (by exact rfl) (by exact rfl) ?_ | fail)) | refine b_nilC (by (conv => {lhs; whnf}); done) ?_ | refine b_boxE (n := H.length) (by (conv => {lhs; whnf}); done) (by exact rfl) (by exact rfl) (by simp) (by (conv => {lhs; whnf}); done) (by (conv => {lhs; simp only [List.nil_append, List.cons_append]}); done) ?_ | refine b_mkF ?_ | refine b_stM (by (conv => {lhs; whnf}); done) (by (conv => {lhs; whnf}); done) (by exact rfl) hb (by exact rfl) (by decide) (by first | exact (by exact rfl) | simp only [mx, mxL_fl]) (by exact rfl) ?_ | refine b_lenA (by (conv => {lhs; whnf}); done) (by exact hXl) ?_ | (refine m45 ?_; (first | refine v_bbT (by exact rfl) ?_ | refine v_k ?_ | fail)) | (refine m00 ?_; (first | refine m52 ?_ | refine m53 ?_ | refine v_eP ?_ | refine m54 ?_ | refine m55 ?_ | refine v_neP ?_ | refine m47 ?_ | refine m48 ?_ | refine m49 ?_ | refine m50 ?_ | refine v_qc (by omega) (by omega) ?_ | refine v_k ?_ | refine m51 ?_ | fail)) | (refine m22 ?_; (first | refine m26 ?_ | refine m27 ?_ | fail)) | refine m42 ?_ | refine b_assignI ?_ | refine b_assignN ?_ | refine m08 ?_ | refine b_callB ?_ | refine b_lenA (by (conv => {lhs; whnf}); done) (by first | rfl | assumption) ?_ | refine m23 ?_ | refine m25 ?_ | refine m01 ?_ | (refine m46 ?_; (first | refine m52 ?_ | refine m53 ?_ | refine v_eP ?_ | refine m54 ?_ | refine m55 ?_ | refine v_neP ?_ | refine m47 ?_ | refine m48 ?_ | refine m49 ?_ | refine m50 ?_ | refine v_qc (by omega) (by omega) ?_ | refine v_k ?_ | refine m51 ?_ | fail)) | refine b_cnvF (by (conv => {lhs; whnf}); done) (by exact rfl) ?_ | refine b_cnvIF (by (conv => {lhs; whnf}); done) ?_ | fail))
    | (refine gateD ?_; (first | refine m36 ?_ | refine d_nil ?_ | refine m32 ?_ | refine m31 ?_ | refine m30 ?_ | (refine m28 ?_; (first | refine dg_TT ?_ | refine dg_FF ?_ | refine dg_TF ?_ | refine dg_FT ?_ | refine dg_PT ?_ ?_ | refine dg_PF ?_ ?_ | refine dg_BT ?_ ?_ | refine dg_BF ?_ ?_ | fail)) | (refine m29 ?_; (first | refine dg_TT ?_ | refine dg_FF ?_ | refine dg_TF ?_ | refine dg_FT ?_ | refine dg_PT ?_ ?_ | refine dg_PF ?_ ?_ | refine dg_BT ?_ ?_ | refine dg_BF ?_ ?_ | fail)) | refine m37 ?_ | fail))
    | (refine gateC ?_; (first | refine k_lt ?_ | refine k_fz ?_ | refine k_lb (by (conv => {lhs; whnf}); done) ?_ | refine k_ms ?_ | refine k_bx (by exact rfl) (by exact rfl) ?_ | refine m34 ?_ | refine m35 ?_ | refine k_ld (by (conv => {lhs; whnf}); done) (by simp [ldOk]) ?_ | refine m33 ?_ | refine k_mn ?_ | refine k_mnM hb (by intro id h9; first | (simp at h9; done) | (simp at h9; omega)) ?_ | refine m56 ?_ | refine k_mnF ?_ | refine k_mnL (by exact rfl) ?_ | fail))
    | (refine gateT ?_; (first | refine b_thn ?_ | refine b_thr ?_ | refine b_the ?_ | fail))
    | (refine gateX ?_; (first | refine b_seq ?_ | refine b_region ?_ | (refine m06 ?_; (first | refine c_T ?_ | refine c_F ?_ | refine c_P ?_ ?_ | refine c_B ?_ ?_ | fail)) | refine b_ret ?_ | refine b_skip ?_ | refine b_block ?_ | refine b_exit ?_ | refine b_drawW (id := 10) ⟨[], fun id => id == H.length, []⟩ [7, 10] [(0, .ld true), (1, .ld false), (2, .lt), (3, .lt), (4, .mn true), (5, .lt), (6, .lt), (7, .mn false), (8, .lt), (9, .lt), (10, .mn false)] (by kernel_rfl) ?_ | refine b_draw (id := 14) [] [9] [(0, .ld true), (1, .lt), (2, .mn true), (3, .mn true), (4, .lt), (5, .lt), (6, .lt), (7, .lt), (8, .lt), (9, .mn false)] (by kernel_rfl) ?_ | refine b_draw (id := 26) [] [9] [(0, .ld true), (1, .lt), (2, .mn true), (3, .mn true), (4, .lt), (5, .lt), (6, .lt), (7, .lt), (8, .lt), (9, .mn false)] (by kernel_rfl) ?_ | refine b_draw (id := 27) [] [] [(0, .lt), (1, .lt), (2, .lt), (3, .ld true), (5, .lt), (6, .ld true), (7, .lt), (8, .lt), (9, .ld true), (10, .lt), (11, .ld true), (4, .mn true), (12, .mn true), (13, .ld true), (14, .lt), (15, .ld true), (16, .lt), (17, .lt), (18, .ld true), (19, .lt), (20, .lt)] (by kernel_rfl) ?_ | refine b_draw (id := 32) [] [11] [(0, .ld true), (1, .lt), (2, .ld true), (3, .lt), (4, .lt), (5, .ld true), (6, .lt), (7, .lt), (8, .lt), (9, .lt), (10, .lt), (11, .mn false)] (by kernel_rfl) ?_ | fail))
    | refine m43 ?_
    | refine a_consI ?_
    | refine m21 ?_
    | refine a_nil ?_
    | (refine gateK ?_; (first | refine c_call (vector_a _ X x (hX _ _) (by omega)) (OldOk.app (by simp)) ?_ | refine c_call (lvec_n _ X x (hX _ _) n hx) (OldOk.app (by simp)) ?_ | refine c_call (most_n _ X x (hX _ _) n hx hn1 hn) (OldOk.app (by simp)) ?_ | refine c_call (unit_c (H ++ [[mP mid]]) mid (by simp; omega) n hn1 hn _ _ _ _ (by first | assumption | simp only [mx, mxL_fl] | (split <;> first | assumption | simp only [mx, mxL_fl])) (by first | assumption | simp only [mx, mxL_fl] | (split <;> first | assumption | simp only [mx, mxL_fl])) _ _  _ _ (set_app0 hb _) (set_app9 hb _ _) _ (by simp; rfl)) (OldOk.mdl (by simp) (mDc_mx (by first | assumption | simp only [mx, mxL_fl] | (split <;> first | assumption | simp only [mx, mxL_fl])) (by first | assumption | simp only [mx, mxL_fl] | (split <;> first | assumption | simp only [mx, mxL_fl])))) ?_ | fail))
    | refine m44 ?_
    | refine m40 ?_
    | (refine gk_nilN (by (conv => {lhs; simp only [List.nil_append, List.cons_append]}); done) ?_; first | refine ⟨by exact rfl, ?_⟩ | skip)
    | refine gk_nil ?_
    | (intro N' hN'; simp only [List.nil_append, List.cons_append] at hN'; subst hN')
    | (refine gateB ?_; (first | refine b_bln ?_ | refine b_blr ?_ | refine b_ble ?_ | refine m57 ?_ | fail))
    | (refine gateQ ?_; refine m05 ?_)
    | (refine gateR ?_; (first | refine m04 ?_ | refine m02 ?_ | refine m03 ?_ | refine rk_nil ?_ | fail))
    | intro _)
  all_goals first
    | (exfalso; contradiction)
    | (exfalso; omega)
    | (exfalso; simp_all; done)
    | (exfalso; simp_all; omega)
    | (refine rv_kp (j := 1) (cs := fl (rml (yU (moN x n)) n)) (by simp) (by exact rfl) (by rw [mxL_fl]; exact Nat.zero_le _) ?_; simp only [List.length_set]; exact Fr.tup (Frs.cons (Fr.kp (j := 0) (cs := fl (rml (yU (moN x n)) n)) rfl (hg_new (by simp) rfl) (by simp [*])) (Frs.cons (Fr.old (by simp [mx])) Frs.nil)))

set_option maxHeartbeats 4000000 in
theorem nx_3f (H : List (List AV)) (mid : Nat) (hb : mid < H.length) (n : Nat) (hn1 : 1 ≤ n) (hn : n ≤ 64) (est : Nat) (V S : AV) (hV : mx V = 0) (hS : mx S = 0) (j ct : Nat) (X : AV) (x : List Nat) (hX : ∀ c N, FL (H.set mid c ++ N) X x) (hx : x.length = n) (hN : NN X) (s : List Nat) (hSs : ∀ H, FL H S s) (hs2 : ∀ y ∈ s, y = 4607182418800017408 ∨ y = 13830554455654793216) (hsl : s.length ≤ 2 ^ 30) (hc : (sgL x = s ∨ (flt (asumF x) est || feq (asumF x) est) = true)) (H0 H' : List (List AV)) (h0 : H.set mid (mDc (n : Int) 3 est V S (j : Int) (ct : Int)) = H0) (h' : H.set mid (mDc (n : Int) 5 (if flt est (asumF x) = true then (asumF x) else est) (if flt est (asumF x) = true then .sl none n (fl x) else V) S (j : Int) (ct : Int)) ++ [fl (rml (yL n) n)] = H') (m : Nat) (hm9 : H.length = m) :
    CSpec Tryz.prog 102 [mP mid, X] H0 (.tup [.slm m n 0 n 1, .int .i64 1]) H' := by
  subst h0 h' hm9
  have hXl : slen X = some n := by have h9 := (hX [] []).len; rw [hx] at h9; exact h9
  refine .mk (fun args w => Tryz.call102 args w) (Spec.intro' (fn := Tryz.f102) Tryz.func102 rfl (by kernel_rfl) (by simp) true [] (draw := drawX Tryz.prog ⟨true, _, []⟩) dOk ?_)
  simp only [argE, Nat.reduceAdd]
  repeat' (first
    | (refine gateE ?_; (first | refine b_c0 ?_ | refine b_nil ?_ | refine m13 ?_ | refine m12 ?_ | refine m11 ?_ | (refine m10 ?_; (first | refine g_TT ?_ | refine g_FF ?_ | refine g_TF ?_ | refine g_FT ?_ | refine g_PT ?_ ?_ | refine g_PF ?_ ?_ | refine g_BT ?_ ?_ | refine g_BF ?_ ?_ | fail)) | (refine m09 ?_; (first | refine g_TT ?_ | refine g_FF ?_ | refine g_TF ?_ | refine g_FT ?_ | refine g_PT ?_ ?_ | refine g_PF ?_ ?_ | refine g_BT ?_ ?_ | refine g_BF ?_ ?_ | fail)) | refine m38 ?_ | fail))
    | (refine gateO ?_; (first | refine m14 ?_ | (refine m17 ?_; first | refine m19 ?_ | refine m18 ?_) | (refine m07 ?_; (first | refine m15 ?_ | refine m16 ?_ | refine l_nA (by simp) (by exact rfl) (by exact rfl) (by exact rfl) ?_ | refine l_n1 (n := H.length) (by simp) (by exact rfl) (by exact rfl) (by exact rfl) ?_ | refine l_mM hb (by exact rfl) (by exact rfl) ?_ | fail)) | refine b_nilC (by (conv => {lhs; whnf}); done) ?_ | refine b_boxE (n := H.length) (by (conv => {lhs; whnf}); done) (by exact rfl) (by exact rfl) (by simp) (by (conv => {lhs; whnf}); done) (by (conv => {lhs; simp only [List.nil_append, List.cons_append]}); done) ?_ | refine b_mkF ?_ | refine b_stM (by (conv => {lhs; whnf}); done) (by (conv => {lhs; whnf}); done) (by exact rfl) hb (by exact rfl) (by decide) (by first | exact (by exact rfl) | simp only [mx, mxL_fl]) (by exact rfl) ?_ | refine b_lenA (by (conv => {lhs; whnf}); done) (by exact hXl) ?_ | (refine m45 ?_; (first | refine v_bbT (by exact rfl) ?_ | refine v_k ?_ | fail)) | (refine m00 ?_; (first | refine m52 ?_ | refine m53 ?_ | refine v_eP ?_ | refine m54 ?_ | refine m55 ?_ | refine v_neP ?_ | refine m47 ?_ | refine m48 ?_ | refine m49 ?_ | refine m50 ?_ | refine v_qc (by omega) (by omega) ?_ | refine v_k ?_ | refine m51 ?_ | fail)) | (refine m22 ?_; (first | refine m26 ?_ | refine m27 ?_ | fail)) | refine m42 ?_ | refine b_assignI ?_ | refine b_assignN ?_ | refine m08 ?_ | refine b_callB ?_ | refine b_lenA (by (conv => {lhs; whnf}); done) (by first | rfl | assumption) ?_ | refine m23 ?_ | refine m25 ?_ | refine m01 ?_ | (refine m46 ?_; (first | refine m52 ?_ | refine m53 ?_ | refine v_eP ?_ | refine m54 ?_ | refine m55 ?_ | refine v_neP ?_ | refine m47 ?_ | refine m48 ?_ | refine m49 ?_ | refine m50 ?_ | refine v_qc (by omega) (by omega) ?_ | refine v_k ?_ | refine m51 ?_ | fail)) | refine b_cnvF (by (conv => {lhs; whnf}); done) (by exact rfl) ?_ | refine b_cnvIF (by (conv => {lhs; whnf}); done) ?_ | fail))
    | (refine gateD ?_; (first | refine m36 ?_ | refine d_nil ?_ | refine m32 ?_ | refine m31 ?_ | refine m30 ?_ | (refine m28 ?_; (first | refine dg_TT ?_ | refine dg_FF ?_ | refine dg_TF ?_ | refine dg_FT ?_ | refine dg_PT ?_ ?_ | refine dg_PF ?_ ?_ | refine dg_BT ?_ ?_ | refine dg_BF ?_ ?_ | fail)) | (refine m29 ?_; (first | refine dg_TT ?_ | refine dg_FF ?_ | refine dg_TF ?_ | refine dg_FT ?_ | refine dg_PT ?_ ?_ | refine dg_PF ?_ ?_ | refine dg_BT ?_ ?_ | refine dg_BF ?_ ?_ | fail)) | refine m37 ?_ | fail))
    | (refine gateC ?_; (first | refine k_lt ?_ | refine k_fz ?_ | refine k_lb (by (conv => {lhs; whnf}); done) ?_ | refine k_ms ?_ | refine k_bx (by exact rfl) (by exact rfl) ?_ | refine m34 ?_ | refine m35 ?_ | refine k_ld (by (conv => {lhs; whnf}); done) (by simp [ldOk]) ?_ | refine m33 ?_ | refine k_mn ?_ | refine k_mnM hb (by intro id h9; first | (simp at h9; done) | (simp at h9; omega)) ?_ | refine m56 ?_ | refine k_mnF ?_ | refine k_mnL (by exact rfl) ?_ | fail))
    | (refine gateT ?_; (first | refine b_thn ?_ | refine b_thr ?_ | refine b_the ?_ | fail))
    | (refine gateX ?_; (first | refine b_seq ?_ | refine b_region ?_ | (refine m06 ?_; (first | refine c_T ?_ | refine c_F ?_ | refine c_P ?_ ?_ | refine c_B ?_ ?_ | fail)) | refine b_ret ?_ | refine b_skip ?_ | refine b_block ?_ | refine b_exit ?_ | refine b_drawW (id := 10) ⟨[], fun id => id == H.length, []⟩ [7, 10] [(0, .ld true), (1, .ld false), (2, .lt), (3, .lt), (4, .mn true), (5, .lt), (6, .lt), (7, .mn false), (8, .lt), (9, .lt), (10, .mn false)] (by kernel_rfl) ?_ | refine b_draw (id := 14) [] [9] [(0, .ld true), (1, .lt), (2, .mn true), (3, .mn true), (4, .lt), (5, .lt), (6, .lt), (7, .lt), (8, .lt), (9, .mn false)] (by kernel_rfl) ?_ | refine b_draw (id := 26) [] [9] [(0, .ld true), (1, .lt), (2, .mn true), (3, .mn true), (4, .lt), (5, .lt), (6, .lt), (7, .lt), (8, .lt), (9, .mn false)] (by kernel_rfl) ?_ | refine b_draw (id := 27) [] [] [(0, .lt), (1, .lt), (2, .lt), (3, .ld true), (5, .lt), (6, .ld true), (7, .lt), (8, .lt), (9, .ld true), (10, .lt), (11, .ld true), (4, .mn true), (12, .mn true), (13, .ld true), (14, .lt), (15, .ld true), (16, .lt), (17, .lt), (18, .ld true), (19, .lt), (20, .lt)] (by kernel_rfl) ?_ | refine b_draw (id := 32) [] [11] [(0, .ld true), (1, .lt), (2, .ld true), (3, .lt), (4, .lt), (5, .ld true), (6, .lt), (7, .lt), (8, .lt), (9, .lt), (10, .lt), (11, .mn false)] (by kernel_rfl) ?_ | fail))
    | refine m43 ?_
    | refine a_consI ?_
    | refine m21 ?_
    | refine a_nil ?_
    | (refine gateK ?_; (first | refine c_call (vector_a _ X x (hX _ _) (by omega)) (OldOk.app (by simp)) ?_ | refine c_call (better_c (H ++ [[mP mid]]) mid (by simp; omega) n hn1 hn _ _ _ _ (by first | assumption | simp only [mx, mxL_fl] | (split <;> first | assumption | simp only [mx, mxL_fl])) (by first | assumption | simp only [mx, mxL_fl] | (split <;> first | assumption | simp only [mx, mxL_fl])) _ _ X x (fun c N => by rw [set_app0 hb, List.append_assoc]; exact hX _ _) hx hN _ _ _ (set_app0 hb _) (set_app0 hb _)) (OldOk.mdl (by simp) (mDc_mx (by first | assumption | simp only [mx, mxL_fl] | (split <;> first | assumption | simp only [mx, mxL_fl])) (by first | assumption | simp only [mx, mxL_fl] | (split <;> first | assumption | simp only [mx, mxL_fl])))) ?_ | refine c_call (lvec_n _ X x (hX _ _) n hx) (OldOk.app (by simp)) ?_ | refine c_call (sign_n _ X x (hX _ _) n hx hn1 hn) (OldOk.app (by simp)) ?_ | refine c_call (eq_sg _ _ _ (sgL x) s (FLz _ _ _ (by simp [hx])) (hSs _) (by simp; omega) hsl sgL_two hs2) (OldOk.app (by simp)) ?_ | refine c_call (final_c (H ++ [[mP mid]]) mid (by simp; omega) n hn1 hn _ _ _ _ (by first | assumption | simp only [mx, mxL_fl] | (split <;> first | assumption | simp only [mx, mxL_fl])) (by first | assumption | simp only [mx, mxL_fl] | (split <;> first | assumption | simp only [mx, mxL_fl])) _ _  _ _ (set_app0 hb _) (set_app9 hb _ _) _ (by simp; rfl)) (OldOk.mdl (by simp) (mDc_mx (by first | assumption | simp only [mx, mxL_fl] | (split <;> first | assumption | simp only [mx, mxL_fl])) (by first | assumption | simp only [mx, mxL_fl] | (split <;> first | assumption | simp only [mx, mxL_fl])))) ?_ | fail))
    | refine m44 ?_
    | refine m40 ?_
    | (refine gk_nilN (by (conv => {lhs; simp only [List.nil_append, List.cons_append]}); done) ?_; first | refine ⟨by exact rfl, ?_⟩ | skip)
    | refine gk_nil ?_
    | (intro N' hN'; simp only [List.nil_append, List.cons_append] at hN'; subst hN')
    | (refine gateB ?_; (first | refine b_bln ?_ | refine b_blr ?_ | refine b_ble ?_ | refine m57 ?_ | fail))
    | (refine gateQ ?_; refine m05 ?_)
    | (refine gateR ?_; (first | refine m04 ?_ | refine m02 ?_ | refine m03 ?_ | refine rk_nil ?_ | fail))
    | intro _)
  all_goals first
    | (exfalso; contradiction)
    | (exfalso; omega)
    | (exfalso; simp_all; done)
    | (exfalso; simp_all; omega)
    | (refine rv_kp (j := 1) (cs := fl (rml (yL n) n)) (by simp) (by exact rfl) (by rw [mxL_fl]; exact Nat.zero_le _) ?_; simp only [List.length_set]; exact Fr.tup (Frs.cons (Fr.kp (j := 0) (cs := fl (rml (yL n) n)) rfl (hg_new (by simp) rfl) (by simp [*])) (Frs.cons (Fr.old (by simp [mx])) Frs.nil)))

set_option maxHeartbeats 4000000 in
theorem nx_3s (H : List (List AV)) (mid : Nat) (hb : mid < H.length) (n : Nat) (hn1 : 1 ≤ n) (hn : n ≤ 64) (est : Nat) (V S : AV) (hV : mx V = 0) (hS : mx S = 0) (j ct : Nat) (X : AV) (x : List Nat) (hX : ∀ c N, FL (H.set mid c ++ N) X x) (hx : x.length = n) (hN : NN X) (s : List Nat) (hSs : ∀ H, FL H S s) (hs2 : ∀ y ∈ s, y = 4607182418800017408 ∨ y = 13830554455654793216) (hsl : s.length ≤ 2 ^ 30) (hc : ¬ (sgL x = s ∨ (flt (asumF x) est || feq (asumF x) est) = true)) (H0 H' : List (List AV)) (h0 : H.set mid (mDc (n : Int) 3 est V S (j : Int) (ct : Int)) = H0) (h' : H.set mid (mDc (n : Int) 4 (if flt est (asumF x) = true then (asumF x) else est) (if flt est (asumF x) = true then .sl none n (fl x) else V) (.sl none n (fl (sgL x))) (j : Int) (ct : Int)) ++ [fl (sgL x)] = H') (m : Nat) (hm9 : H.length = m) :
    CSpec Tryz.prog 102 [mP mid, X] H0 (.tup [.slm m n 0 n 1, .int .i64 2]) H' := by
  subst h0 h' hm9
  have hXl : slen X = some n := by have h9 := (hX [] []).len; rw [hx] at h9; exact h9
  refine .mk (fun args w => Tryz.call102 args w) (Spec.intro' (fn := Tryz.f102) Tryz.func102 rfl (by kernel_rfl) (by simp) true [] (draw := drawX Tryz.prog ⟨true, _, []⟩) dOk ?_)
  simp only [argE, Nat.reduceAdd]
  repeat' (first
    | (refine gateE ?_; (first | refine b_c0 ?_ | refine b_nil ?_ | refine m13 ?_ | refine m12 ?_ | refine m11 ?_ | (refine m10 ?_; (first | refine g_TT ?_ | refine g_FF ?_ | refine g_TF ?_ | refine g_FT ?_ | refine g_PT ?_ ?_ | refine g_PF ?_ ?_ | refine g_BT ?_ ?_ | refine g_BF ?_ ?_ | fail)) | (refine m09 ?_; (first | refine g_TT ?_ | refine g_FF ?_ | refine g_TF ?_ | refine g_FT ?_ | refine g_PT ?_ ?_ | refine g_PF ?_ ?_ | refine g_BT ?_ ?_ | refine g_BF ?_ ?_ | fail)) | refine m38 ?_ | fail))
    | (refine gateO ?_; (first | refine m14 ?_ | (refine m17 ?_; first | refine m19 ?_ | refine m18 ?_) | (refine m07 ?_; (first | refine m15 ?_ | refine m16 ?_ | refine l_nA (by simp) (by exact rfl) (by exact rfl) (by exact rfl) ?_ | refine l_n1 (n := H.length) (by simp) (by exact rfl) (by exact rfl) (by exact rfl) ?_ | refine l_mM hb (by exact rfl) (by exact rfl) ?_ | fail)) | refine b_nilC (by (conv => {lhs; whnf}); done) ?_ | refine b_boxE (n := H.length) (by (conv => {lhs; whnf}); done) (by exact rfl) (by exact rfl) (by simp) (by (conv => {lhs; whnf}); done) (by (conv => {lhs; simp only [List.nil_append, List.cons_append]}); done) ?_ | refine b_mkF ?_ | refine b_stM (by (conv => {lhs; whnf}); done) (by (conv => {lhs; whnf}); done) (by exact rfl) hb (by exact rfl) (by decide) (by first | exact (by exact rfl) | simp only [mx, mxL_fl]) (by exact rfl) ?_ | refine b_lenA (by (conv => {lhs; whnf}); done) (by exact hXl) ?_ | (refine m45 ?_; (first | refine v_bbT (by exact rfl) ?_ | refine v_k ?_ | fail)) | (refine m00 ?_; (first | refine m52 ?_ | refine m53 ?_ | refine v_eP ?_ | refine m54 ?_ | refine m55 ?_ | refine v_neP ?_ | refine m47 ?_ | refine m48 ?_ | refine m49 ?_ | refine m50 ?_ | refine v_qc (by omega) (by omega) ?_ | refine v_k ?_ | refine m51 ?_ | fail)) | (refine m22 ?_; (first | refine m26 ?_ | refine m27 ?_ | fail)) | refine m42 ?_ | refine b_assignI ?_ | refine b_assignN ?_ | refine m08 ?_ | refine b_callB ?_ | refine b_lenA (by (conv => {lhs; whnf}); done) (by first | rfl | assumption) ?_ | refine m23 ?_ | refine m25 ?_ | refine m01 ?_ | (refine m46 ?_; (first | refine m52 ?_ | refine m53 ?_ | refine v_eP ?_ | refine m54 ?_ | refine m55 ?_ | refine v_neP ?_ | refine m47 ?_ | refine m48 ?_ | refine m49 ?_ | refine m50 ?_ | refine v_qc (by omega) (by omega) ?_ | refine v_k ?_ | refine m51 ?_ | fail)) | refine b_cnvF (by (conv => {lhs; whnf}); done) (by exact rfl) ?_ | refine b_cnvIF (by (conv => {lhs; whnf}); done) ?_ | fail))
    | (refine gateD ?_; (first | refine m36 ?_ | refine d_nil ?_ | refine m32 ?_ | refine m31 ?_ | refine m30 ?_ | (refine m28 ?_; (first | refine dg_TT ?_ | refine dg_FF ?_ | refine dg_TF ?_ | refine dg_FT ?_ | refine dg_PT ?_ ?_ | refine dg_PF ?_ ?_ | refine dg_BT ?_ ?_ | refine dg_BF ?_ ?_ | fail)) | (refine m29 ?_; (first | refine dg_TT ?_ | refine dg_FF ?_ | refine dg_TF ?_ | refine dg_FT ?_ | refine dg_PT ?_ ?_ | refine dg_PF ?_ ?_ | refine dg_BT ?_ ?_ | refine dg_BF ?_ ?_ | fail)) | refine m37 ?_ | fail))
    | (refine gateC ?_; (first | refine k_lt ?_ | refine k_fz ?_ | refine k_lb (by (conv => {lhs; whnf}); done) ?_ | refine k_ms ?_ | refine k_bx (by exact rfl) (by exact rfl) ?_ | refine m34 ?_ | refine m35 ?_ | refine k_ld (by (conv => {lhs; whnf}); done) (by simp [ldOk]) ?_ | refine m33 ?_ | refine k_mn ?_ | refine k_mnM hb (by intro id h9; first | (simp at h9; done) | (simp at h9; omega)) ?_ | refine m56 ?_ | refine k_mnF ?_ | refine k_mnL (by exact rfl) ?_ | fail))
    | (refine gateT ?_; (first | refine b_thn ?_ | refine b_thr ?_ | refine b_the ?_ | fail))
    | (refine gateX ?_; (first | refine b_seq ?_ | refine b_region ?_ | (refine m06 ?_; (first | refine c_T ?_ | refine c_F ?_ | refine c_P ?_ ?_ | refine c_B ?_ ?_ | fail)) | refine b_ret ?_ | refine b_skip ?_ | refine b_block ?_ | refine b_exit ?_ | refine b_drawW (id := 10) ⟨[], fun id => id == H.length, []⟩ [7, 10] [(0, .ld true), (1, .ld false), (2, .lt), (3, .lt), (4, .mn true), (5, .lt), (6, .lt), (7, .mn false), (8, .lt), (9, .lt), (10, .mn false)] (by kernel_rfl) ?_ | refine b_draw (id := 14) [] [9] [(0, .ld true), (1, .lt), (2, .mn true), (3, .mn true), (4, .lt), (5, .lt), (6, .lt), (7, .lt), (8, .lt), (9, .mn false)] (by kernel_rfl) ?_ | refine b_draw (id := 26) [] [9] [(0, .ld true), (1, .lt), (2, .mn true), (3, .mn true), (4, .lt), (5, .lt), (6, .lt), (7, .lt), (8, .lt), (9, .mn false)] (by kernel_rfl) ?_ | refine b_draw (id := 27) [] [] [(0, .lt), (1, .lt), (2, .lt), (3, .ld true), (5, .lt), (6, .ld true), (7, .lt), (8, .lt), (9, .ld true), (10, .lt), (11, .ld true), (4, .mn true), (12, .mn true), (13, .ld true), (14, .lt), (15, .ld true), (16, .lt), (17, .lt), (18, .ld true), (19, .lt), (20, .lt)] (by kernel_rfl) ?_ | refine b_draw (id := 32) [] [11] [(0, .ld true), (1, .lt), (2, .ld true), (3, .lt), (4, .lt), (5, .ld true), (6, .lt), (7, .lt), (8, .lt), (9, .lt), (10, .lt), (11, .mn false)] (by kernel_rfl) ?_ | fail))
    | refine m43 ?_
    | refine a_consI ?_
    | refine m21 ?_
    | refine a_nil ?_
    | (refine gateK ?_; (first | refine c_call (vector_a _ X x (hX _ _) (by omega)) (OldOk.app (by simp)) ?_ | refine c_call (better_c (H ++ [[mP mid]]) mid (by simp; omega) n hn1 hn _ _ _ _ (by first | assumption | simp only [mx, mxL_fl] | (split <;> first | assumption | simp only [mx, mxL_fl])) (by first | assumption | simp only [mx, mxL_fl] | (split <;> first | assumption | simp only [mx, mxL_fl])) _ _ X x (fun c N => by rw [set_app0 hb, List.append_assoc]; exact hX _ _) hx hN _ _ _ (set_app0 hb _) (set_app0 hb _)) (OldOk.mdl (by simp) (mDc_mx (by first | assumption | simp only [mx, mxL_fl] | (split <;> first | assumption | simp only [mx, mxL_fl])) (by first | assumption | simp only [mx, mxL_fl] | (split <;> first | assumption | simp only [mx, mxL_fl])))) ?_ | refine c_call (lvec_n _ X x (hX _ _) n hx) (OldOk.app (by simp)) ?_ | refine c_call (sign_n _ X x (hX _ _) n hx hn1 hn) (OldOk.app (by simp)) ?_ | refine c_call (eq_sg _ _ _ (sgL x) s (FLz _ _ _ (by simp [hx])) (hSs _) (by simp; omega) hsl sgL_two hs2) (OldOk.app (by simp)) ?_ | refine c_call (signs_c (H ++ [[mP mid]]) mid (by simp; omega) n hn1 hn _ _ _ _ (by first | assumption | simp only [mx, mxL_fl] | (split <;> first | assumption | simp only [mx, mxL_fl])) (by first | assumption | simp only [mx, mxL_fl] | (split <;> first | assumption | simp only [mx, mxL_fl])) _ _ 4 X x (fun c N => by rw [set_app0 hb, List.append_assoc]; exact hX _ _) hx hN _ _ (set_app0 hb _) (set_app9 hb _ _) _ (by simp; rfl)) (OldOk.mdl (by simp) (mDc_mx (by first | assumption | simp only [mx, mxL_fl] | (split <;> first | assumption | simp only [mx, mxL_fl])) (by first | assumption | simp only [mx, mxL_fl] | (split <;> first | assumption | simp only [mx, mxL_fl])))) ?_ | fail))
    | refine m44 ?_
    | refine m40 ?_
    | (refine gk_nilN (by (conv => {lhs; simp only [List.nil_append, List.cons_append]}); done) ?_; first | refine ⟨by exact rfl, ?_⟩ | skip)
    | refine gk_nil ?_
    | (intro N' hN'; simp only [List.nil_append, List.cons_append] at hN'; subst hN')
    | (refine gateB ?_; (first | refine b_bln ?_ | refine b_blr ?_ | refine b_ble ?_ | refine m57 ?_ | fail))
    | (refine gateQ ?_; refine m05 ?_)
    | (refine gateR ?_; (first | refine m04 ?_ | refine m02 ?_ | refine m03 ?_ | refine rk_nil ?_ | fail))
    | intro _)
  all_goals first
    | (exfalso; contradiction)
    | (exfalso; omega)
    | (exfalso; simp_all; done)
    | (exfalso; simp_all; omega)
    | (refine rv_kp (j := 1) (cs := fl (sgL x)) (by simp) (by exact rfl) (by rw [mxL_fl]; exact Nat.zero_le _) ?_; simp only [List.length_set]; exact Fr.tup (Frs.cons (Fr.kp (j := 0) (cs := fl (sgL x)) rfl (hg_new (by simp) rfl) (by simp [*])) (Frs.cons (Fr.old (by simp [mx])) Frs.nil)))

set_option maxHeartbeats 4000000 in
theorem nx_4u (H : List (List AV)) (mid : Nat) (hb : mid < H.length) (n : Nat) (hn1 : 1 ≤ n) (hn : n ≤ 64) (est : Nat) (V S : AV) (hV : mx V = 0) (hS : mx S = 0) (j ct : Nat) (X : AV) (x : List Nat) (hX : ∀ c N, FL (H.set mid c ++ N) X x) (hx : x.length = n) (hN : NN X) (hj : j < n) (hc : (feq (absF (x.getD j 0)) (absF (x.getD (moN x n) 0)) = false ∧ ct < 5)) (H0 H' : List (List AV)) (h0 : H.set mid (mDc (n : Int) 4 est V S (j : Int) (ct : Int)) = H0) (h' : H.set mid (mDc (n : Int) 3 est V S (moN x n : Int) ((ct + 1 : Nat) : Int)) ++ [fl (rml (yU (moN x n)) n)] = H') (m : Nat) (hm9 : H.length = m) :
    CSpec Tryz.prog 102 [mP mid, X] H0 (.tup [.slm m n 0 n 1, .int .i64 1]) H' := by
  subst h0 h' hm9
  have hXl : slen X = some n := by have h9 := (hX [] []).len; rw [hx] at h9; exact h9
  have hmo : moN x n < n := by have h9 := moN_lt x n (by omega); exact h9
  refine .mk (fun args w => Tryz.call102 args w) (Spec.intro' (fn := Tryz.f102) Tryz.func102 rfl (by kernel_rfl) (by simp) true [] (draw := drawX Tryz.prog ⟨true, _, []⟩) dOk ?_)
  simp only [argE, Nat.reduceAdd]
  repeat' (first
    | (refine gateE ?_; (first | refine b_c0 ?_ | refine b_nil ?_ | refine m13 ?_ | refine m12 ?_ | refine m11 ?_ | (refine m10 ?_; (first | refine g_TT ?_ | refine g_FF ?_ | refine g_TF ?_ | refine g_FT ?_ | refine g_PT ?_ ?_ | refine g_PF ?_ ?_ | refine g_BT ?_ ?_ | refine g_BF ?_ ?_ | fail)) | (refine m09 ?_; (first | refine g_TT ?_ | refine g_FF ?_ | refine g_TF ?_ | refine g_FT ?_ | refine g_PT ?_ ?_ | refine g_PF ?_ ?_ | refine g_BT ?_ ?_ | refine g_BF ?_ ?_ | fail)) | refine m38 ?_ | fail))
    | (refine gateO ?_; (first | refine m14 ?_ | (refine m17 ?_; first | refine m19 ?_ | refine m18 ?_) | (refine m07 ?_; (first | refine m15 ?_ | refine m16 ?_ | refine l_nA (by simp) (by exact rfl) (by exact rfl) (by exact rfl) ?_ | refine l_n1 (n := H.length) (by simp) (by exact rfl) (by exact rfl) (by exact rfl) ?_ | refine l_mM hb (by exact rfl) (by exact rfl) ?_ | refine l_FL (hX _ _) (by omega) ?_ | fail)) | refine b_nilC (by (conv => {lhs; whnf}); done) ?_ | refine b_boxE (n := H.length) (by (conv => {lhs; whnf}); done) (by exact rfl) (by exact rfl) (by simp) (by (conv => {lhs; whnf}); done) (by (conv => {lhs; simp only [List.nil_append, List.cons_append]}); done) ?_ | refine b_mkF ?_ | refine b_stM (by (conv => {lhs; whnf}); done) (by (conv => {lhs; whnf}); done) (by exact rfl) hb (by exact rfl) (by decide) (by first | exact (by exact rfl) | simp only [mx, mxL_fl]) (by exact rfl) ?_ | refine b_lenA (by (conv => {lhs; whnf}); done) (by exact hXl) ?_ | refine b_iaN (by (conv => {lhs; whnf}); done) (by (conv => {lhs; whnf}); done) (by exact hXl) (by omega) ?_ | (refine m45 ?_; (first | refine v_bbT (by exact rfl) ?_ | refine v_k ?_ | fail)) | (refine m00 ?_; (first | refine m52 ?_ | refine m53 ?_ | refine v_eP ?_ | refine m54 ?_ | refine m55 ?_ | refine v_neP ?_ | refine m47 ?_ | refine m48 ?_ | refine m49 ?_ | refine m50 ?_ | refine v_qc (by omega) (by omega) ?_ | refine v_k ?_ | refine m51 ?_ | fail)) | (refine m22 ?_; (first | refine m26 ?_ | refine m27 ?_ | fail)) | refine m42 ?_ | refine b_assignI ?_ | refine b_assignN ?_ | refine m08 ?_ | refine b_callB ?_ | refine b_lenA (by (conv => {lhs; whnf}); done) (by first | rfl | assumption) ?_ | refine m23 ?_ | refine m25 ?_ | refine m01 ?_ | (refine m46 ?_; (first | refine m52 ?_ | refine m53 ?_ | refine v_eP ?_ | refine m54 ?_ | refine m55 ?_ | refine v_neP ?_ | refine m47 ?_ | refine m48 ?_ | refine m49 ?_ | refine m50 ?_ | refine v_qc (by omega) (by omega) ?_ | refine v_k ?_ | refine m51 ?_ | fail)) | refine b_cnvF (by (conv => {lhs; whnf}); done) (by exact rfl) ?_ | refine b_cnvIF (by (conv => {lhs; whnf}); done) ?_ | fail))
    | (refine gateD ?_; (first | refine m36 ?_ | refine d_nil ?_ | refine m32 ?_ | refine m31 ?_ | refine m30 ?_ | (refine m28 ?_; (first | refine dg_TT ?_ | refine dg_FF ?_ | refine dg_TF ?_ | refine dg_FT ?_ | refine dg_PT ?_ ?_ | refine dg_PF ?_ ?_ | refine dg_BT ?_ ?_ | refine dg_BF ?_ ?_ | fail)) | (refine m29 ?_; (first | refine dg_TT ?_ | refine dg_FF ?_ | refine dg_TF ?_ | refine dg_FT ?_ | refine dg_PT ?_ ?_ | refine dg_PF ?_ ?_ | refine dg_BT ?_ ?_ | refine dg_BF ?_ ?_ | fail)) | refine m37 ?_ | fail))
    | (refine gateC ?_; (first | refine k_lt ?_ | refine k_fz ?_ | refine k_lb (by (conv => {lhs; whnf}); done) ?_ | refine k_ms ?_ | refine k_bx (by exact rfl) (by exact rfl) ?_ | refine m34 ?_ | refine m35 ?_ | refine k_ld (by (conv => {lhs; whnf}); done) (by simp [ldOk]) ?_ | refine m33 ?_ | refine k_mn ?_ | refine k_mnM hb (by intro id h9; first | (simp at h9; done) | (simp at h9; omega)) ?_ | refine m56 ?_ | refine k_mnF ?_ | refine k_mnL (by exact rfl) ?_ | fail))
    | (refine gateT ?_; (first | refine b_thn ?_ | refine b_thr ?_ | refine b_the ?_ | fail))
    | (refine gateX ?_; (first | refine b_seq ?_ | refine b_region ?_ | (refine m06 ?_; (first | refine c_T ?_ | refine c_F ?_ | refine c_P ?_ ?_ | refine c_B ?_ ?_ | fail)) | refine b_ret ?_ | refine b_skip ?_ | refine b_block ?_ | refine b_exit ?_ | refine b_drawW (id := 10) ⟨[], fun id => id == H.length, []⟩ [7, 10] [(0, .ld true), (1, .ld false), (2, .lt), (3, .lt), (4, .mn true), (5, .lt), (6, .lt), (7, .mn false), (8, .lt), (9, .lt), (10, .mn false)] (by kernel_rfl) ?_ | refine b_draw (id := 14) [] [9] [(0, .ld true), (1, .lt), (2, .mn true), (3, .mn true), (4, .lt), (5, .lt), (6, .lt), (7, .lt), (8, .lt), (9, .mn false)] (by kernel_rfl) ?_ | refine b_draw (id := 26) [] [9] [(0, .ld true), (1, .lt), (2, .mn true), (3, .mn true), (4, .lt), (5, .lt), (6, .lt), (7, .lt), (8, .lt), (9, .mn false)] (by kernel_rfl) ?_ | refine b_draw (id := 27) [] [] [(0, .lt), (1, .lt), (2, .lt), (3, .ld true), (5, .lt), (6, .ld true), (7, .lt), (8, .lt), (9, .ld true), (10, .lt), (11, .ld true), (4, .mn true), (12, .mn true), (13, .ld true), (14, .lt), (15, .ld true), (16, .lt), (17, .lt), (18, .ld true), (19, .lt), (20, .lt)] (by kernel_rfl) ?_ | refine b_draw (id := 32) [] [11] [(0, .ld true), (1, .lt), (2, .ld true), (3, .lt), (4, .lt), (5, .ld true), (6, .lt), (7, .lt), (8, .lt), (9, .lt), (10, .lt), (11, .mn false)] (by kernel_rfl) ?_ | fail))
    | refine m43 ?_
    | refine a_consI ?_
    | refine m21 ?_
    | refine a_nil ?_
    | (refine gateK ?_; (first | refine c_call (vector_a _ X x (hX _ _) (by omega)) (OldOk.app (by simp)) ?_ | refine c_call (lvec_n _ X x (hX _ _) n hx) (OldOk.app (by simp)) ?_ | refine c_call (most_n _ X x (hX _ _) n hx hn1 hn) (OldOk.app (by simp)) ?_ | refine c_call (mabs_c _ _) (OldOk.app (by simp)) ?_ | refine c_call (unit_c (H ++ [[mP mid]]) mid (by simp; omega) n hn1 hn _ _ _ _ (by first | assumption | simp only [mx, mxL_fl] | (split <;> first | assumption | simp only [mx, mxL_fl])) (by first | assumption | simp only [mx, mxL_fl] | (split <;> first | assumption | simp only [mx, mxL_fl])) _ _  _ _ (set_app0 hb _) (set_app9 hb _ _) _ (by simp; rfl)) (OldOk.mdl (by simp) (mDc_mx (by first | assumption | simp only [mx, mxL_fl] | (split <;> first | assumption | simp only [mx, mxL_fl])) (by first | assumption | simp only [mx, mxL_fl] | (split <;> first | assumption | simp only [mx, mxL_fl])))) ?_ | fail))
    | refine m44 ?_
    | refine m40 ?_
    | (refine gk_nilN (by (conv => {lhs; simp only [List.nil_append, List.cons_append]}); done) ?_; first | refine ⟨by exact rfl, ?_⟩ | skip)
    | refine gk_nil ?_
    | (intro N' hN'; simp only [List.nil_append, List.cons_append] at hN'; subst hN')
    | (refine gateB ?_; (first | refine b_bln ?_ | refine b_blr ?_ | refine b_ble ?_ | refine m57 ?_ | fail))
    | (refine gateQ ?_; refine m05 ?_)
    | (refine gateR ?_; (first | refine m04 ?_ | refine m02 ?_ | refine m03 ?_ | refine rk_nil ?_ | fail))
    | intro _)
  all_goals first
    | (exfalso; contradiction)
    | (exfalso; omega)
    | (exfalso; simp_all; done)
    | (exfalso; simp_all; omega)
    | (refine rv_kp (j := 1) (cs := fl (rml (yU (moN x n)) n)) (by simp) (by exact rfl) (by rw [mxL_fl]; exact Nat.zero_le _) ?_; simp only [List.length_set]; exact Fr.tup (Frs.cons (Fr.kp (j := 0) (cs := fl (rml (yU (moN x n)) n)) rfl (hg_new (by simp) rfl) (by simp [*])) (Frs.cons (Fr.old (by simp [mx])) Frs.nil)))

set_option maxHeartbeats 4000000 in
theorem nx_4f (H : List (List AV)) (mid : Nat) (hb : mid < H.length) (n : Nat) (hn1 : 1 ≤ n) (hn : n ≤ 64) (est : Nat) (V S : AV) (hV : mx V = 0) (hS : mx S = 0) (j ct : Nat) (X : AV) (x : List Nat) (hX : ∀ c N, FL (H.set mid c ++ N) X x) (hx : x.length = n) (hN : NN X) (hj : j < n) (hc : ¬ (feq (absF (x.getD j 0)) (absF (x.getD (moN x n) 0)) = false ∧ ct < 5)) (H0 H' : List (List AV)) (h0 : H.set mid (mDc (n : Int) 4 est V S (j : Int) (ct : Int)) = H0) (h' : H.set mid (mDc (n : Int) 5 est V S (moN x n : Int) (ct : Int)) ++ [fl (rml (yL n) n)] = H') (m : Nat) (hm9 : H.length = m) :
    CSpec Tryz.prog 102 [mP mid, X] H0 (.tup [.slm m n 0 n 1, .int .i64 1]) H' := by
  subst h0 h' hm9
  have hXl : slen X = some n := by have h9 := (hX [] []).len; rw [hx] at h9; exact h9
  have hmo : moN x n < n := by have h9 := moN_lt x n (by omega); exact h9
  refine .mk (fun args w => Tryz.call102 args w) (Spec.intro' (fn := Tryz.f102) Tryz.func102 rfl (by kernel_rfl) (by simp) true [] (draw := drawX Tryz.prog ⟨true, _, []⟩) dOk ?_)
  simp only [argE, Nat.reduceAdd]
  repeat' (first
    | (refine gateE ?_; (first | refine b_c0 ?_ | refine b_nil ?_ | refine m13 ?_ | refine m12 ?_ | refine m11 ?_ | (refine m10 ?_; (first | refine g_TT ?_ | refine g_FF ?_ | refine g_TF ?_ | refine g_FT ?_ | refine g_PT ?_ ?_ | refine g_PF ?_ ?_ | refine g_BT ?_ ?_ | refine g_BF ?_ ?_ | fail)) | (refine m09 ?_; (first | refine g_TT ?_ | refine g_FF ?_ | refine g_TF ?_ | refine g_FT ?_ | refine g_PT ?_ ?_ | refine g_PF ?_ ?_ | refine g_BT ?_ ?_ | refine g_BF ?_ ?_ | fail)) | refine m38 ?_ | fail))
    | (refine gateO ?_; (first | refine m14 ?_ | (refine m17 ?_; first | refine m19 ?_ | refine m18 ?_) | (refine m07 ?_; (first | refine m15 ?_ | refine m16 ?_ | refine l_nA (by simp) (by exact rfl) (by exact rfl) (by exact rfl) ?_ | refine l_n1 (n := H.length) (by simp) (by exact rfl) (by exact rfl) (by exact rfl) ?_ | refine l_mM hb (by exact rfl) (by exact rfl) ?_ | refine l_FL (hX _ _) (by omega) ?_ | fail)) | refine b_nilC (by (conv => {lhs; whnf}); done) ?_ | refine b_boxE (n := H.length) (by (conv => {lhs; whnf}); done) (by exact rfl) (by exact rfl) (by simp) (by (conv => {lhs; whnf}); done) (by (conv => {lhs; simp only [List.nil_append, List.cons_append]}); done) ?_ | refine b_mkF ?_ | refine b_stM (by (conv => {lhs; whnf}); done) (by (conv => {lhs; whnf}); done) (by exact rfl) hb (by exact rfl) (by decide) (by first | exact (by exact rfl) | simp only [mx, mxL_fl]) (by exact rfl) ?_ | refine b_lenA (by (conv => {lhs; whnf}); done) (by exact hXl) ?_ | refine b_iaN (by (conv => {lhs; whnf}); done) (by (conv => {lhs; whnf}); done) (by exact hXl) (by omega) ?_ | (refine m45 ?_; (first | refine v_bbT (by exact rfl) ?_ | refine v_k ?_ | fail)) | (refine m00 ?_; (first | refine m52 ?_ | refine m53 ?_ | refine v_eP ?_ | refine m54 ?_ | refine m55 ?_ | refine v_neP ?_ | refine m47 ?_ | refine m48 ?_ | refine m49 ?_ | refine m50 ?_ | refine v_qc (by omega) (by omega) ?_ | refine v_k ?_ | refine m51 ?_ | fail)) | (refine m22 ?_; (first | refine m26 ?_ | refine m27 ?_ | fail)) | refine m42 ?_ | refine b_assignI ?_ | refine b_assignN ?_ | refine m08 ?_ | refine b_callB ?_ | refine b_lenA (by (conv => {lhs; whnf}); done) (by first | rfl | assumption) ?_ | refine m23 ?_ | refine m25 ?_ | refine m01 ?_ | (refine m46 ?_; (first | refine m52 ?_ | refine m53 ?_ | refine v_eP ?_ | refine m54 ?_ | refine m55 ?_ | refine v_neP ?_ | refine m47 ?_ | refine m48 ?_ | refine m49 ?_ | refine m50 ?_ | refine v_qc (by omega) (by omega) ?_ | refine v_k ?_ | refine m51 ?_ | fail)) | refine b_cnvF (by (conv => {lhs; whnf}); done) (by exact rfl) ?_ | refine b_cnvIF (by (conv => {lhs; whnf}); done) ?_ | fail))
    | (refine gateD ?_; (first | refine m36 ?_ | refine d_nil ?_ | refine m32 ?_ | refine m31 ?_ | refine m30 ?_ | (refine m28 ?_; (first | refine dg_TT ?_ | refine dg_FF ?_ | refine dg_TF ?_ | refine dg_FT ?_ | refine dg_PT ?_ ?_ | refine dg_PF ?_ ?_ | refine dg_BT ?_ ?_ | refine dg_BF ?_ ?_ | fail)) | (refine m29 ?_; (first | refine dg_TT ?_ | refine dg_FF ?_ | refine dg_TF ?_ | refine dg_FT ?_ | refine dg_PT ?_ ?_ | refine dg_PF ?_ ?_ | refine dg_BT ?_ ?_ | refine dg_BF ?_ ?_ | fail)) | refine m37 ?_ | fail))
    | (refine gateC ?_; (first | refine k_lt ?_ | refine k_fz ?_ | refine k_lb (by (conv => {lhs; whnf}); done) ?_ | refine k_ms ?_ | refine k_bx (by exact rfl) (by exact rfl) ?_ | refine m34 ?_ | refine m35 ?_ | refine k_ld (by (conv => {lhs; whnf}); done) (by simp [ldOk]) ?_ | refine m33 ?_ | refine k_mn ?_ | refine k_mnM hb (by intro id h9; first | (simp at h9; done) | (simp at h9; omega)) ?_ | refine m56 ?_ | refine k_mnF ?_ | refine k_mnL (by exact rfl) ?_ | fail))
    | (refine gateT ?_; (first | refine b_thn ?_ | refine b_thr ?_ | refine b_the ?_ | fail))
    | (refine gateX ?_; (first | refine b_seq ?_ | refine b_region ?_ | (refine m06 ?_; (first | refine c_T ?_ | refine c_F ?_ | refine c_P ?_ ?_ | refine c_B ?_ ?_ | fail)) | refine b_ret ?_ | refine b_skip ?_ | refine b_block ?_ | refine b_exit ?_ | refine b_drawW (id := 10) ⟨[], fun id => id == H.length, []⟩ [7, 10] [(0, .ld true), (1, .ld false), (2, .lt), (3, .lt), (4, .mn true), (5, .lt), (6, .lt), (7, .mn false), (8, .lt), (9, .lt), (10, .mn false)] (by kernel_rfl) ?_ | refine b_draw (id := 14) [] [9] [(0, .ld true), (1, .lt), (2, .mn true), (3, .mn true), (4, .lt), (5, .lt), (6, .lt), (7, .lt), (8, .lt), (9, .mn false)] (by kernel_rfl) ?_ | refine b_draw (id := 26) [] [9] [(0, .ld true), (1, .lt), (2, .mn true), (3, .mn true), (4, .lt), (5, .lt), (6, .lt), (7, .lt), (8, .lt), (9, .mn false)] (by kernel_rfl) ?_ | refine b_draw (id := 27) [] [] [(0, .lt), (1, .lt), (2, .lt), (3, .ld true), (5, .lt), (6, .ld true), (7, .lt), (8, .lt), (9, .ld true), (10, .lt), (11, .ld true), (4, .mn true), (12, .mn true), (13, .ld true), (14, .lt), (15, .ld true), (16, .lt), (17, .lt), (18, .ld true), (19, .lt), (20, .lt)] (by kernel_rfl) ?_ | refine b_draw (id := 32) [] [11] [(0, .ld true), (1, .lt), (2, .ld true), (3, .lt), (4, .lt), (5, .ld true), (6, .lt), (7, .lt), (8, .lt), (9, .lt), (10, .lt), (11, .mn false)] (by kernel_rfl) ?_ | fail))
    | refine m43 ?_
    | refine a_consI ?_
    | refine m21 ?_
    | refine a_nil ?_
    | (refine gateK ?_; (first | refine c_call (vector_a _ X x (hX _ _) (by omega)) (OldOk.app (by simp)) ?_ | refine c_call (lvec_n _ X x (hX _ _) n hx) (OldOk.app (by simp)) ?_ | refine c_call (most_n _ X x (hX _ _) n hx hn1 hn) (OldOk.app (by simp)) ?_ | refine c_call (mabs_c _ _) (OldOk.app (by simp)) ?_ | refine c_call (final_c (H ++ [[mP mid]]) mid (by simp; omega) n hn1 hn _ _ _ _ (by first | assumption | simp only [mx, mxL_fl] | (split <;> first | assumption | simp only [mx, mxL_fl])) (by first | assumption | simp only [mx, mxL_fl] | (split <;> first | assumption | simp only [mx, mxL_fl])) _ _  _ _ (set_app0 hb _) (set_app9 hb _ _) _ (by simp; rfl)) (OldOk.mdl (by simp) (mDc_mx (by first | assumption | simp only [mx, mxL_fl] | (split <;> first | assumption | simp only [mx, mxL_fl])) (by first | assumption | simp only [mx, mxL_fl] | (split <;> first | assumption | simp only [mx, mxL_fl])))) ?_ | fail))
    | refine m44 ?_
    | refine m40 ?_
    | (refine gk_nilN (by (conv => {lhs; simp only [List.nil_append, List.cons_append]}); done) ?_; first | refine ⟨by exact rfl, ?_⟩ | skip)
    | refine gk_nil ?_
    | (intro N' hN'; simp only [List.nil_append, List.cons_append] at hN'; subst hN')
    | (refine gateB ?_; (first | refine b_bln ?_ | refine b_blr ?_ | refine b_ble ?_ | refine m57 ?_ | fail))
    | (refine gateQ ?_; refine m05 ?_)
    | (refine gateR ?_; (first | refine m04 ?_ | refine m02 ?_ | refine m03 ?_ | refine rk_nil ?_ | fail))
    | intro _)
  all_goals first
    | (exfalso; exact hc ⟨by simpa using ‹(!feq (absF (x.getD j 0)) (absF (x.getD (moN x n) 0))) = true›, by omega⟩)
    | (exfalso; contradiction)
    | (exfalso; omega)
    | (exfalso; simp_all; done)
    | (refine rv_kp (j := 1) (cs := fl (rml (yL n) n)) (by simp) (by exact rfl) (by rw [mxL_fl]; exact Nat.zero_le _) ?_; simp only [List.length_set]; exact Fr.tup (Frs.cons (Fr.kp (j := 0) (cs := fl (rml (yL n) n)) rfl (hg_new (by simp) rfl) (by simp [*])) (Frs.cons (Fr.old (by simp [mx])) Frs.nil)))

set_option maxHeartbeats 4000000 in
theorem nx_5 (H : List (List AV)) (mid : Nat) (hb : mid < H.length) (n : Nat) (hn1 : 1 ≤ n) (hn : n ≤ 64) (est : Nat) (V S : AV) (hV : mx V = 0) (hS : mx S = 0) (j ct : Nat) (X : AV) (x : List Nat) (hX : ∀ c N, FL (H.set mid c ++ N) X x) (hx : x.length = n) (hN : NN X) (H0 H' : List (List AV)) (h0 : H.set mid (mDc (n : Int) 5 est V S (j : Int) (ct : Int)) = H0) (h' : H.set mid (mDc (n : Int) 6 (if flt est (t5 n (asumF x)) = true then (t5 n (asumF x)) else est) (if flt est (t5 n (asumF x)) = true then .sl none n (fl x) else V) S (j : Int) (ct : Int)) = H') :
    CSpec Tryz.prog 102 [mP mid, X] H0 (.tup [.slnil, .int .i64 0]) H' := by
  subst h0 h'
  have hXl : slen X = some n := by have h9 := (hX [] []).len; rw [hx] at h9; exact h9
  refine .mk (fun args w => Tryz.call102 args w) (Spec.intro' (fn := Tryz.f102) Tryz.func102 rfl (by kernel_rfl) (by simp) true [] (draw := drawX Tryz.prog ⟨true, _, []⟩) dOk ?_)
  simp only [argE, Nat.reduceAdd]
  repeat' (first
    | (refine gateE ?_; (first | refine b_c0 ?_ | refine b_nil ?_ | refine m13 ?_ | refine m12 ?_ | refine m11 ?_ | (refine m10 ?_; (first | refine g_TT ?_ | refine g_FF ?_ | refine g_TF ?_ | refine g_FT ?_ | refine g_PT ?_ ?_ | refine g_PF ?_ ?_ | refine g_BT ?_ ?_ | refine g_BF ?_ ?_ | fail)) | (refine m09 ?_; (first | refine g_TT ?_ | refine g_FF ?_ | refine g_TF ?_ | refine g_FT ?_ | refine g_PT ?_ ?_ | refine g_PF ?_ ?_ | refine g_BT ?_ ?_ | refine g_BF ?_ ?_ | fail)) | refine m38 ?_ | fail))
    | (refine gateO ?_; (first | refine m14 ?_ | (refine m17 ?_; first | refine m19 ?_ | refine m18 ?_) | (refine m07 ?_; (first | refine m15 ?_ | refine m16 ?_ | refine l_nA (by simp) (by exact rfl) (by exact rfl) (by exact rfl) ?_ | refine l_n1 (n := H.length) (by simp) (by exact rfl) (by exact rfl) (by exact rfl) ?_ | refine l_mM hb (by exact rfl) (by exact rfl) ?_ | fail)) | refine b_nilC (by (conv => {lhs; whnf}); done) ?_ | refine b_boxE (n := H.length) (by (conv => {lhs; whnf}); done) (by exact rfl) (by exact rfl) (by simp) (by (conv => {lhs; whnf}); done) (by (conv => {lhs; simp only [List.nil_append, List.cons_append]}); done) ?_ | refine b_mkF ?_ | refine b_stM (by (conv => {lhs; whnf}); done) (by (conv => {lhs; whnf}); done) (by exact rfl) hb (by exact rfl) (by decide) (by first | exact (by exact rfl) | simp only [mx, mxL_fl]) (by exact rfl) ?_ | refine b_lenA (by (conv => {lhs; whnf}); done) (by exact hXl) ?_ | (refine m45 ?_; (first | refine v_bbT (by exact rfl) ?_ | refine v_k ?_ | fail)) | (refine m00 ?_; (first | refine m52 ?_ | refine m53 ?_ | refine v_eP ?_ | refine m54 ?_ | refine m55 ?_ | refine v_neP ?_ | refine m47 ?_ | refine m48 ?_ | refine m49 ?_ | refine m50 ?_ | refine v_qc (by omega) (by omega) ?_ | refine v_k ?_ | refine m51 ?_ | fail)) | (refine m22 ?_; (first | refine m26 ?_ | refine m27 ?_ | fail)) | refine m42 ?_ | refine b_assignI ?_ | refine b_assignN ?_ | refine m08 ?_ | refine b_callB ?_ | refine b_lenA (by (conv => {lhs; whnf}); done) (by first | rfl | assumption) ?_ | refine m23 ?_ | refine m25 ?_ | refine m01 ?_ | (refine m46 ?_; (first | refine m52 ?_ | refine m53 ?_ | refine v_eP ?_ | refine m54 ?_ | refine m55 ?_ | refine v_neP ?_ | refine m47 ?_ | refine m48 ?_ | refine m49 ?_ | refine m50 ?_ | refine v_qc (by omega) (by omega) ?_ | refine v_k ?_ | refine m51 ?_ | fail)) | refine b_cnvF (by (conv => {lhs; whnf}); done) (by exact rfl) ?_ | refine b_cnvIF (by (conv => {lhs; whnf}); done) ?_ | fail))
    | (refine gateD ?_; (first | refine m36 ?_ | refine d_nil ?_ | refine m32 ?_ | refine m31 ?_ | refine m30 ?_ | (refine m28 ?_; (first | refine dg_TT ?_ | refine dg_FF ?_ | refine dg_TF ?_ | refine dg_FT ?_ | refine dg_PT ?_ ?_ | refine dg_PF ?_ ?_ | refine dg_BT ?_ ?_ | refine dg_BF ?_ ?_ | fail)) | (refine m29 ?_; (first | refine dg_TT ?_ | refine dg_FF ?_ | refine dg_TF ?_ | refine dg_FT ?_ | refine dg_PT ?_ ?_ | refine dg_PF ?_ ?_ | refine dg_BT ?_ ?_ | refine dg_BF ?_ ?_ | fail)) | refine m37 ?_ | fail))
    | (refine gateC ?_; (first | refine k_lt ?_ | refine k_fz ?_ | refine k_lb (by (conv => {lhs; whnf}); done) ?_ | refine k_ms ?_ | refine k_bx (by exact rfl) (by exact rfl) ?_ | refine m34 ?_ | refine m35 ?_ | refine k_ld (by (conv => {lhs; whnf}); done) (by simp [ldOk]) ?_ | refine m33 ?_ | refine k_mn ?_ | refine k_mnM hb (by intro id h9; first | (simp at h9; done) | (simp at h9; omega)) ?_ | refine m56 ?_ | refine k_mnF ?_ | refine k_mnL (by exact rfl) ?_ | fail))
    | (refine gateT ?_; (first | refine b_thn ?_ | refine b_thr ?_ | refine b_the ?_ | fail))
    | (refine gateX ?_; (first | refine b_seq ?_ | refine b_region ?_ | (refine m06 ?_; (first | refine c_T ?_ | refine c_F ?_ | refine c_P ?_ ?_ | refine c_B ?_ ?_ | fail)) | refine b_ret ?_ | refine b_skip ?_ | refine b_block ?_ | refine b_exit ?_ | refine b_drawW (id := 10) ⟨[], fun id => id == H.length, []⟩ [7, 10] [(0, .ld true), (1, .ld false), (2, .lt), (3, .lt), (4, .mn true), (5, .lt), (6, .lt), (7, .mn false), (8, .lt), (9, .lt), (10, .mn false)] (by kernel_rfl) ?_ | refine b_draw (id := 14) [] [9] [(0, .ld true), (1, .lt), (2, .mn true), (3, .mn true), (4, .lt), (5, .lt), (6, .lt), (7, .lt), (8, .lt), (9, .mn false)] (by kernel_rfl) ?_ | refine b_draw (id := 26) [] [9] [(0, .ld true), (1, .lt), (2, .mn true), (3, .mn true), (4, .lt), (5, .lt), (6, .lt), (7, .lt), (8, .lt), (9, .mn false)] (by kernel_rfl) ?_ | refine b_draw (id := 27) [] [] [(0, .lt), (1, .lt), (2, .lt), (3, .ld true), (5, .lt), (6, .ld true), (7, .lt), (8, .lt), (9, .ld true), (10, .lt), (11, .ld true), (4, .mn true), (12, .mn true), (13, .ld true), (14, .lt), (15, .ld true), (16, .lt), (17, .lt), (18, .ld true), (19, .lt), (20, .lt)] (by kernel_rfl) ?_ | refine b_draw (id := 32) [] [11] [(0, .ld true), (1, .lt), (2, .ld true), (3, .lt), (4, .lt), (5, .ld true), (6, .lt), (7, .lt), (8, .lt), (9, .lt), (10, .lt), (11, .mn false)] (by kernel_rfl) ?_ | fail))
    | refine m43 ?_
    | refine a_consI ?_
    | refine m21 ?_
    | refine a_nil ?_
    | (refine gateK ?_; (first | refine c_call (vector_a _ X x (hX _ _) (by omega)) (OldOk.app (by simp)) ?_ | refine c_call (better_c (H ++ [[mP mid]]) mid (by simp; omega) n hn1 hn _ _ _ _ (by first | assumption | simp only [mx, mxL_fl] | (split <;> first | assumption | simp only [mx, mxL_fl])) (by first | assumption | simp only [mx, mxL_fl] | (split <;> first | assumption | simp only [mx, mxL_fl])) _ _ X x (fun c N => by rw [set_app0 hb, List.append_assoc]; exact hX _ _) hx hN _ _ _ (set_app0 hb _) (set_app0 hb _)) (OldOk.mdl (by simp) (mDc_mx (by first | assumption | simp only [mx, mxL_fl] | (split <;> first | assumption | simp only [mx, mxL_fl])) (by first | assumption | simp only [mx, mxL_fl] | (split <;> first | assumption | simp only [mx, mxL_fl])))) ?_ | fail))
    | refine m44 ?_
    | refine m40 ?_
    | (refine gk_nilN (by (conv => {lhs; simp only [List.nil_append, List.cons_append]}); done) ?_; first | refine ⟨by exact rfl, ?_⟩ | skip)
    | refine gk_nil ?_
    | (intro N' hN'; simp only [List.nil_append, List.cons_append] at hN'; subst hN')
    | (refine gateB ?_; (first | refine b_bln ?_ | refine b_blr ?_ | refine b_ble ?_ | refine m57 ?_ | fail))
    | (refine gateQ ?_; refine m05 ?_)
    | (refine gateR ?_; (first | refine m04 ?_ | refine m02 ?_ | refine m03 ?_ | refine rk_nil ?_ | fail))
    | intro _)
  all_goals first
    | (exfalso; contradiction)
    | (exfalso; omega)
    | (exfalso; simp_all; done)
    | (exfalso; simp_all; omega)
    | (refine rv_old (by simp) (by simp [mx, mxL, resOne]) ?_; exact rfl)


end Go.Sx

set_option linter.unusedVariables false
set_option linter.unusedSimpArgs false
set_option maxRecDepth 20000
namespace Go.Sx
open Go.Proofs

theorem mC_bet (M : MS) (t : Nat) (x : List Nat) (hx : x.length = M.n) (h1 : 0 < x.length) (st : Nat) (s : List Nat) : mCe { bet M t x with st := st, s := s } = mDc (M.n : Int) (st : Int) (if flt M.est t = true then t else M.est) (if flt M.est t = true then .sl none M.n (fl x) else LV M.v) (LV s) (M.j : Int) (M.ct : Int) := by
  have hLx : LV x = .sl none M.n (fl x) := by rw [LV_ne h1, hx]
  unfold bet
  split
  · rename_i h; simp only [mCe_D, hLx, h, if_true]
  · rename_i h; simp [mCe_D, h]
theorem mC_bet' (M : MS) (t : Nat) (x : List Nat) (hx : x.length = M.n) (h1 : 0 < x.length) (st : Nat) : mCe { bet M t x with st := st } = mDc (M.n : Int) (st : Int) (if flt M.est t = true then t else M.est) (if flt M.est t = true then .sl none M.n (fl x) else LV M.v) (LV M.s) (M.j : Int) (M.ct : Int) := by
  have h := mC_bet M t x hx h1 st M.s
  have e : (bet M t x).s = M.s := (bet_n M t x).2.2.2.1
  have : ({ bet M t x with st := st } : MS) = { bet M t x with st := st, s := M.s } := by rw [← e]
  rw [this]; exact h
theorem next_0 (H : List (List AV)) (mid : Nat) (hb : mid < H.length) (M : MS) (h1 : 1 ≤ M.n) (h64 : M.n ≤ 64) (hst : M.st = 0) (H0 H' : List (List AV)) (h0 : H.set mid (mCe M) = H0) (h' : H.set mid (mCe (nxt M []).1) ++ [fl (nxt M []).2.1] = H') (m : Nat) (hm : H.length = m) :
    CSpec Tryz.prog 102 [mP mid, .slnil] H0 (.tup [.slm m M.n 0 M.n 1, .int .i64 (nxt M []).2.2]) H' := by
  obtain ⟨n, st, est, v, s, j, ct⟩ := M
  simp only at hst h1 h64; subst hst
  exact nx_0 H mid hb n h1 h64 est (LV v) (LV s) (LV_mx _) (LV_mx _) j ct H0 H' h0 h' m hm
theorem next_1 (H : List (List AV)) (mid : Nat) (hb : mid < H.length) (M : MS) (hok : MOk M) (hst : 1 ≤ M.st) (h5 : M.st ≤ 5) (hsl : M.s.length ≤ 2 ^ 30) (X : AV) (x : List Nat) (hX : ∀ c N, FL (H.set mid c ++ N) X x) (hx : x.length = M.n) (hN : NN X) (H0 : List (List AV)) (h0 : H.set mid (mCe M) = H0) :
    (∀ H' m, (nxt M x).2.2 ≠ 0 → H.set mid (mCe (nxt M x).1) ++ [fl (nxt M x).2.1] = H' → H.length = m → CSpec Tryz.prog 102 [mP mid, X] H0 (.tup [.slm m M.n 0 M.n 1, .int .i64 (nxt M x).2.2]) H') ∧
    (∀ H', (nxt M x).2.2 = 0 → H.set mid (mCe (nxt M x).1) = H' → CSpec Tryz.prog 102 [mP mid, X] H0 (.tup [.slnil, .int .i64 0]) H') := by
  obtain ⟨n, st, est, v, s, j, ct⟩ := M
  obtain ⟨a1, a2, a3, a4, a5, a6, a7⟩ := hok
  simp only at hst h5 hx a1 a2 a3 a4 a5 a6 a7 hsl
  have hx0 : 0 < x.length := by omega
  have hLx : LV x = .sl none n (fl x) := by rw [LV_ne hx0, hx]
  have hLs : LV (sgL x) = .sl none n (fl (sgL x)) := by rw [LV_ne (by simpa using hx0), sgL_len, hx]
  have hS := fun H => LV_FL H s
  rcases (by omega : st = 1 ∨ st = 2 ∨ st = 3 ∨ st = 4 ∨ st = 5) with e | e | e | e | e <;> subst e
  · by_cases hn2 : 1 < n
    · have e : nxt ⟨n, 1, est, v, s, j, ct⟩ x = (⟨n, 2, asumF x, x, sgL x, j, ct⟩, sgL x, 2) := by simp [nxt, hn2]
      rw [e]
      refine ⟨fun H' m _ h' hm => ?_, fun H' h => absurd h (by simp)⟩
      rw [mCe_D] at h'; simp only [hLx, hLs] at h'
      exact nx_1p H mid hb n a1 a2 est (LV v) (LV s) (LV_mx _) (LV_mx _) j ct X x hX hx hN hn2 H0 H' h0 h' m hm
    · have e : nxt ⟨n, 1, est, v, s, j, ct⟩ x = (⟨n, 6, asumF x, x, s, j, ct⟩, [], 0) := by simp [nxt, hn2]
      rw [e]
      refine ⟨fun H' m h => absurd rfl h, fun H' _ h' => ?_⟩
      rw [mCe_D] at h'; simp only [hLx] at h'
      exact nx_1d H mid hb n a1 a2 est (LV v) (LV s) (LV_mx _) (LV_mx _) j ct X x hX hx hN (by omega) H0 H' h0 h'
  · have e : nxt ⟨n, 2, est, v, s, j, ct⟩ x = (⟨n, 3, est, v, s, moN x n, 2⟩, rml (yU (moN x n)) n, 1) := by simp [nxt, hx]
    rw [e]
    exact ⟨fun H' m _ h' hm => nx_2 H mid hb n a1 a2 est (LV v) (LV s) (LV_mx _) (LV_mx _) j ct X x hX hx hN H0 H' h0 h' m hm, fun H' h => absurd h (by simp)⟩
  · by_cases hc : sgL x = s ∨ (flt (asumF x) est || feq (asumF x) est) = true
    · have e : nxt ⟨n, 3, est, v, s, j, ct⟩ x = ({ bet ⟨n, 3, est, v, s, j, ct⟩ (asumF x) x with st := 5 }, rml (yL n) n, 1) := by simp only [nxt]; rw [if_pos hc]
      rw [e]
      refine ⟨fun H' m _ h' hm => ?_, fun H' h => absurd h (by simp)⟩
      rw [mC_bet' _ _ _ hx hx0] at h'
      exact nx_3f H mid hb n a1 a2 est (LV v) (LV s) (LV_mx _) (LV_mx _) j ct X x hX hx hN s hS a5 hsl hc H0 H' h0 h' m hm
    · have e : nxt ⟨n, 3, est, v, s, j, ct⟩ x = ({ bet ⟨n, 3, est, v, s, j, ct⟩ (asumF x) x with s := sgL x, st := 4 }, sgL x, 2) := by simp only [nxt]; rw [if_neg hc]
      rw [e]
      refine ⟨fun H' m _ h' hm => ?_, fun H' h => absurd h (by simp)⟩
      rw [mC_bet _ _ _ hx hx0, hLs] at h'
      exact nx_3s H mid hb n a1 a2 est (LV v) (LV s) (LV_mx _) (LV_mx _) j ct X x hX hx hN s hS a5 hsl hc H0 H' h0 h' m hm
  · by_cases hc : feq (absF (x.getD j 0)) (absF (x.getD (moN x n) 0)) = false ∧ ct < 5
    · have e : nxt ⟨n, 4, est, v, s, j, ct⟩ x = (⟨n, 3, est, v, s, moN x n, ct + 1⟩, rml (yU (moN x n)) n, 1) := by simp only [nxt, hx]; rw [if_pos hc]
      rw [e]
      exact ⟨fun H' m _ h' hm => nx_4u H mid hb n a1 a2 est (LV v) (LV s) (LV_mx _) (LV_mx _) j ct X x hX hx hN a3 hc H0 H' h0 h' m hm, fun H' h => absurd h (by simp)⟩
    · have e : nxt ⟨n, 4, est, v, s, j, ct⟩ x = (⟨n, 5, est, v, s, moN x n, ct⟩, rml (yL n) n, 1) := by simp only [nxt, hx]; rw [if_neg hc]
      rw [e]
      exact ⟨fun H' m _ h' hm => nx_4f H mid hb n a1 a2 est (LV v) (LV s) (LV_mx _) (LV_mx _) j ct X x hX hx hN a3 hc H0 H' h0 h' m hm, fun H' h => absurd h (by simp)⟩
  · have e : nxt ⟨n, 5, est, v, s, j, ct⟩ x = ({ bet ⟨n, 5, est, v, s, j, ct⟩ (t5 n (asumF x)) x with st := 6 }, [], 0) := by simp only [nxt]
    rw [e]
    refine ⟨fun H' m h => absurd rfl h, fun H' _ h' => ?_⟩
    rw [mC_bet' _ _ _ hx hx0] at h'
    exact nx_5 H mid hb n a1 a2 est (LV v) (LV s) (LV_mx _) (LV_mx _) j ct X x hX hx hN H0 H' h0 h'
attribute [local irreducible] Ex exOps exD opX opE thenX blkX RetQ Spec CSpec Fr condK guardK guardD ckK valK pickK loadK faK callK argK gK fK rK RetV lpX prK

end Go.Sx

set_option linter.unusedVariables false
set_option linter.unusedSimpArgs false
set_option maxRecDepth 20000
namespace Go.Sx
open Go.Proofs

theorem copy_z (H : List (List AV)) (X : AV) (x : List Nat) (hX : FL H X x) (n : Nat) (hx : x.length = n) (hn : n ≤ 64) : CSpec Tryz.prog 112 [X] H (.sl none n (fl x)) H := by
  subst hx
  exact (copy_k H _ X x hX (by omega) _ rfl rfl).frz (fun args w => Tryz.call112 args w) (by have h := fr_nz (n := H.length) (k := 0) (z := x.length) (A := H) (N := [fl x]) (l := x) rfl rfl rfl; rwa [Nat.add_zero] at h)
theorem yU_set {n j : Nat} (hj : j < n) : (List.replicate n 0).set j 4607182418800017408 = rml (yU j) n := by
  apply List.ext_getElem
  · simp
  · intro i h1 h2
    rw [List.getElem_set]
    simp only [rml, List.getElem_map, List.getElem_range, List.getElem_replicate]
    unfold yU
    by_cases h : j = i
    · subst h; simp
    · rw [if_neg h, if_neg (by omega)]
theorem sg_fl {x : List Nat} {k : Nat} (hk : k < x.length) (v : Nat) (hv : sgF (x.getD k 0) = v) : fl (sgL (x.take k)) ++ [.flt v] = fl (sgL (x.take (k + 1))) := by
  subst hv
  unfold sgL
  rw [List.take_add_one, List.map_append]
  simp [List.getD_eq_getElem?_getD, List.getElem?_eq_getElem hk, fl]
theorem yl_fl {g : Nat → Nat} {k v : Nat} (hv : g k = v) : fl (rml g k) ++ [.flt v] = fl (rml g (k + 1)) := by
  subst hv; exact rml_fl g k
attribute [local irreducible] Ex exOps exD opX opE thenX blkX RetQ Spec CSpec Fr condK guardK guardD ckK valK pickK loadK faK callK argK gK fK rK RetV lpX prK
set_option maxHeartbeats 4000000 in
theorem rsign_c (H : List (List AV)) (X : AV) (x : List Nat) (hX : FL H X x) (h64 : x.length ≤ 64) :
    CSpec Tryz.prog 113 [X] H (.sl none x.length (fl (sgL x))) H := by
  refine .mk (fun args w => Tryz.call113 args w) (Spec.intro' (fn := Tryz.f113) Tryz.func113 rfl (by kernel_rfl) (by simp) false [17, 20] (draw := drawX Tryz.prog ⟨false, _, [17, 20]⟩) dOk ?_)
  simp only [argE, Nat.reduceAdd]
  repeat' (first
    | (refine gateE ?_; (first | refine b_c0 ?_ | refine b_nil ?_ | fail))
    | (refine gateO ?_; (first | refine m14 ?_ | (refine m07 ?_; (first | refine m15 ?_ | refine m16 ?_ | refine l_FL (FL.app hX _) (by omega) ?_ | fail)) | refine b_lenA (by (conv => {lhs; whnf}); done) (by exact hX.len) ?_ | refine b_iaN (by (conv => {lhs; whnf}); done) (by (conv => {lhs; whnf}); done) (by exact hX.len) (by omega) ?_ | refine b_grow (i := 0) (N₀ := []) (by (conv => {lhs; whnf}); done) (by (conv => {lhs; whnf}); done) (by exact rfl) (by exact rfl) (by simp; omega) (by omega) (by exact rfl) (by exact rfl) (l' := fl (sgL (x.take (k + 1)))) (by exact sg_fl (by omega) _ (if_pos ‹(flt (cn 0) (x.getD k 0) || feq (x.getD k 0) (cn 0)) = true›)) ?_ | refine b_grow (i := 0) (N₀ := []) (by (conv => {lhs; whnf}); done) (by (conv => {lhs; whnf}); done) (by exact rfl) (by exact rfl) (by simp; omega) (by omega) (by exact rfl) (by exact rfl) (l' := fl (sgL (x.take (k + 1)))) (by exact sg_fl (by omega) _ (if_neg (by rw [‹(flt (cn 0) (x.getD k 0) || feq (x.getD k 0) (cn 0)) = false›]; exact Bool.false_ne_true))) ?_ | (refine m00 ?_; (first | refine v_to ((k + 1 : Nat) : Int) (by omega) (by omega) ?_ | refine m47 ?_ | refine m48 ?_ | refine m49 ?_ | refine m50 ?_ | refine v_k ?_ | refine m51 ?_ | fail)) | refine m42 ?_ | refine b_assignI ?_ | refine b_assignN ?_ | refine m08 ?_ | refine b_lenA (by (conv => {lhs; whnf}); done) (by first | rfl | assumption) ?_ | refine b_bslZ (by exact rfl) (by exact rfl) (by decide) ?_ | fail))
    | (refine gateT ?_; (first | refine b_thn ?_ | refine b_thr ?_ | refine b_the ?_ | fail))
    | (refine gateX ?_; (first | refine b_seq ?_ | refine b_region ?_ | (refine m06 ?_; (first | refine c_T ?_ | refine c_F ?_ | refine c_P ?_ ?_ | refine c_B ?_ ?_ | fail)) | refine b_ret ?_ | refine b_skip ?_ | refine b_block ?_ | refine b_exit ?_ | (refine b_loop [0, 3, 4] x.length (fun k => ⟨[(0, .val X), (3, .val (gV H.length 0 k)), (4, .val (.int .i64 ((k : Nat) : Int)))], [], H ++ ([] ++ gN (fl (sgL (x.take k))))⟩) (by exact rfl) ?_ ?_ <;> (first | intro k hk K hK | intro K) <;> (try dsimp only at *)) | fail))
    | refine m44 ?_
    | refine m40 ?_
    | (refine gk_nilN (by (conv => {lhs; simp only [List.nil_append, List.cons_append]}); done) ?_; first | refine ⟨by exact rfl, ?_⟩ | skip)
    | refine gk_nil ?_
    | (intro N' hN'; simp only [List.nil_append, List.cons_append] at hN'; subst hN')
    | (refine gateB ?_; (first | refine b_bln ?_ | refine b_blr ?_ | refine b_ble ?_ | refine m57 ?_ | fail))
    | (refine gateL ?_; (first | refine lp_n ?_ | refine lp_r ?_ | refine lp_e ?_ | fail))
    | (refine pr_k (by exact rfl) ?_; first | exact hK | fail | (exfalso; first | omega | (simp_all; done) | (simp_all; omega)))
    | (refine gateQ ?_; refine m05 ?_)
    | (refine gateR ?_; (first | refine m04 ?_ | refine m02 ?_ | refine m03 ?_ | refine rk_nil ?_ | fail))
    | intro _)
  all_goals first
    | (exfalso; omega)
    | (rw [List.take_length]; refine rv_fr rfl ?_; exact gV_fr (i := 0) (N₀ := []) (A := H) (k := x.length) (l := fl (sgL x)) rfl rfl (by simp) (by rw [mxL_fl]; exact Nat.zero_le _))

set_option maxHeartbeats 4000000 in
theorem runit_c (H : List (List AV)) (mid : Nat) (hb : mid < H.length) (n : Nat) (hn1 : 1 ≤ n) (hn : n ≤ 64) (st : Int) (est : Nat) (V S : AV) (hV : mx V = 0) (hS : mx S = 0) (j ct : Nat) (hj : j < n) (H0 H' : List (List AV)) (h0 : H.set mid (mDc (n : Int) st est V S (j : Int) (ct : Int)) = H0) (h' : H.set mid (mDc (n : Int) 3 est V S (j : Int) (ct : Int)) = H') :
    CSpec Tryz.prog 115 [mP mid] H0 (.tup [.sl none n (fl (rml (yU j) n)), .int .i64 1]) H' := by
  subst h0 h'
  refine .mk (fun args w => Tryz.call115 args w) (Spec.intro' (fn := Tryz.f115) Tryz.func115 rfl (by kernel_rfl) (by simp) false [] (draw := drawX Tryz.prog ⟨false, _, []⟩) dOk ?_)
  simp only [argE, Nat.reduceAdd]
  repeat' (first
    | (refine gateE ?_; (first | refine b_c0 ?_ | refine b_nil ?_ | fail))
    | (refine gateO ?_; (first | refine m14 ?_ | (refine m17 ?_; first | refine m19 ?_ | refine m18 ?_) | (refine m07 ?_; (first | refine m15 ?_ | refine m16 ?_ | refine l_mM hb (by exact rfl) (by exact rfl) ?_ | fail)) | refine b_nilC (by (conv => {lhs; whnf}); done) ?_ | refine b_stM (by (conv => {lhs; whnf}); done) (by (conv => {lhs; whnf}); done) (by exact rfl) hb (by exact rfl) (by decide) (by first | exact (by exact rfl) | simp only [mx, mxL_fl]) (by exact rfl) ?_ | refine b_mkf (n₀ := H.length) (by (conv => {lhs; whnf}); done) (by (conv => {lhs; whnf}); done) (by simp) (by (conv => {lhs; whnf}); done) (by (conv => {lhs; simp only [List.nil_append, List.cons_append]}); done) (by exact rfl) (by omega) ?_ | refine b_iaN (by (conv => {lhs; whnf}); done) (by (conv => {lhs; whnf}); done) (by exact rfl) hj ?_ | refine b_stN (m := List.replicate n 0) (m' := rml (yU j) n) (by (conv => {lhs; whnf}); done) (by exact rfl) (by simp) (by exact rfl) (by simp) (by simp; omega) (by rw [Nat.zero_add, cn_1]; exact yU_set hj) (by exact rfl) ?_ | refine m42 ?_ | refine b_assignI ?_ | refine b_assignN ?_ | refine m08 ?_ | refine m25 ?_ | fail))
    | (refine gateT ?_; (first | refine b_thn ?_ | refine b_thr ?_ | refine b_the ?_ | fail))
    | (refine gateX ?_; (first | refine b_seq ?_ | refine b_region ?_ | (refine m06 ?_; (first | refine c_T ?_ | refine c_F ?_ | refine c_P ?_ ?_ | refine c_B ?_ ?_ | fail)) | refine b_ret ?_ | refine b_skip ?_ | refine b_block ?_ | refine b_exit ?_ | fail))
    | (refine gateQ ?_; refine m05 ?_)
    | (refine gateR ?_; (first | refine m04 ?_ | refine m02 ?_ | refine m03 ?_ | refine rk_nil ?_ | fail))
    | intro _)
  all_goals first
    | (refine rv_fr (by simp) ?_; simp only [List.length_set]; exact Fr.tup (Frs.cons (fr_nz (k := 0) (by simp) rfl (by simp)) (Frs.cons (Fr.old (by simp [mx])) Frs.nil)))

set_option maxHeartbeats 4000000 in
theorem rfinal_c (H : List (List AV)) (mid : Nat) (hb : mid < H.length) (n : Nat) (hn1 : 1 ≤ n) (hn : n ≤ 64) (st : Int) (est : Nat) (V S : AV) (hV : mx V = 0) (hS : mx S = 0) (j ct : Nat) (H0 H' : List (List AV)) (h0 : H.set mid (mDc (n : Int) st est V S (j : Int) (ct : Int)) = H0) (h' : H.set mid (mDc (n : Int) 5 est V S (j : Int) (ct : Int)) = H') :
    CSpec Tryz.prog 116 [mP mid] H0 (.tup [.sl none n (fl (rml (yL n) n)), .int .i64 1]) H' := by
  subst h0 h'
  refine .mk (fun args w => Tryz.call116 args w) (Spec.intro' (fn := Tryz.f116) Tryz.func116 rfl (by kernel_rfl) (by simp) false [32] (draw := drawX Tryz.prog ⟨false, _, [32]⟩) dOk ?_)
  simp only [argE, Nat.reduceAdd]
  repeat' (first
    | (refine gateE ?_; (first | refine b_c0 ?_ | refine b_nil ?_ | fail))
    | (refine gateO ?_; (first | refine m14 ?_ | (refine m17 ?_; first | refine m19 ?_ | refine m18 ?_) | (refine m07 ?_; (first | refine m15 ?_ | refine m16 ?_ | refine l_mM hb (by exact rfl) (by exact rfl) ?_ | fail)) | refine b_nilC (by (conv => {lhs; whnf}); done) ?_ | refine b_stM (by (conv => {lhs; whnf}); done) (by (conv => {lhs; whnf}); done) (by exact rfl) hb (by exact rfl) (by decide) (by first | exact (by exact rfl) | simp only [mx, mxL_fl]) (by exact rfl) ?_ | refine b_grow (n := H.length) (i := 0) (N₀ := []) (by (conv => {lhs; whnf}); done) (by (conv => {lhs; whnf}); done) (by simp) (by exact rfl) (by simp) (by omega) (by simp) (by exact rfl) (l' := fl (rml (yL n) (k + 1))) (by first | exact yl_fl (by unfold yL; rw [if_pos (by omega)]; rfl) | exact yl_fl (by unfold yL; rw [if_neg (by omega)]; rfl)) ?_ | (refine m45 ?_; (first | refine v_to ((k + 1 : Nat) : Int) (by omega) (by omega) ?_ | refine v_bbT (by exact rfl) ?_ | refine v_k ?_ | fail)) | (refine m00 ?_; (first | refine v_to ((k + 1 : Nat) : Int) (by omega) (by omega) ?_ | refine m52 ?_ | refine m53 ?_ | refine v_eP ?_ | refine m47 ?_ | refine m48 ?_ | refine m49 ?_ | refine m50 ?_ | refine v_mod (by omega) (by omega) ?_ | refine v_k ?_ | refine m51 ?_ | fail)) | refine m42 ?_ | refine b_assignI ?_ | refine b_assignN ?_ | refine m08 ?_ | (refine m20 ?_; (first | refine v_to ((k + 1 : Nat) : Int) (by omega) (by omega) ?_ | refine m52 ?_ | refine m53 ?_ | refine v_eP ?_ | refine m47 ?_ | refine m48 ?_ | refine m49 ?_ | refine m50 ?_ | refine v_mod (by omega) (by omega) ?_ | refine v_k ?_ | refine m51 ?_ | fail)) | refine b_callB ?_ | refine m25 ?_ | (refine m46 ?_; (first | refine v_to ((k + 1 : Nat) : Int) (by omega) (by omega) ?_ | refine m52 ?_ | refine m53 ?_ | refine v_eP ?_ | refine m47 ?_ | refine m48 ?_ | refine m49 ?_ | refine m50 ?_ | refine v_mod (by omega) (by omega) ?_ | refine v_k ?_ | refine m51 ?_ | fail)) | refine b_cnvF (by (conv => {lhs; whnf}); done) (by exact rfl) ?_ | refine b_cnvIF (by (conv => {lhs; whnf}); done) ?_ | refine b_bslZ (by exact rfl) (by exact rfl) (by decide) ?_ | fail))
    | (refine gateT ?_; (first | refine b_thn ?_ | refine b_thr ?_ | refine b_the ?_ | fail))
    | (refine gateX ?_; (first | refine b_seq ?_ | refine b_region ?_ | (refine m06 ?_; (first | refine c_T ?_ | refine c_F ?_ | refine c_P ?_ ?_ | refine c_B ?_ ?_ | fail)) | refine b_ret ?_ | refine b_skip ?_ | refine b_block ?_ | refine b_exit ?_ | (refine b_loop [0, 4, 5] n (fun k => ⟨[(0, .val (mP mid)), (4, .val (gV H.length 0 k)), (5, .val (.int .i64 ((k : Nat) : Int)))], [], H.set mid (mDc (n : Int) st est V S (j : Int) (ct : Int)) ++ ([] ++ gN (fl (rml (yL n) k)))⟩) (by exact rfl) ?_ ?_ <;> (first | intro k hk K hK | intro K) <;> (try dsimp only at *)) | fail))
    | refine m43 ?_
    | refine a_consI ?_
    | refine m21 ?_
    | refine a_nil ?_
    | (refine gateK ?_; (first | refine c_call (rover_c _ _ _) (OldOk.app (by simp)) ?_ | refine c_call (plus_c _ _ _) (OldOk.app (by simp)) ?_ | fail))
    | refine m44 ?_
    | refine m40 ?_
    | (refine gk_nilN (by (conv => {lhs; simp only [List.nil_append, List.cons_append]}); done) ?_; first | refine ⟨by exact rfl, ?_⟩ | skip)
    | refine gk_nil ?_
    | (intro N' hN'; simp only [List.nil_append, List.cons_append] at hN'; subst hN')
    | (refine gateB ?_; (first | refine b_bln ?_ | refine b_blr ?_ | refine b_ble ?_ | refine m57 ?_ | fail))
    | (refine gateL ?_; (first | refine lp_n ?_ | refine lp_r ?_ | refine lp_e ?_ | fail))
    | (refine pr_k (by exact rfl) ?_; first | exact hK | fail | (exfalso; first | omega | (simp_all; done) | (simp_all; omega)))
    | (refine gateQ ?_; refine m05 ?_)
    | (refine gateR ?_; (first | refine m04 ?_ | refine m02 ?_ | refine m03 ?_ | refine rk_nil ?_ | fail))
    | intro _)
  all_goals first
    | (exfalso; omega)
    | (refine rv_fr (by simp) ?_; simp only [List.length_set]; exact Fr.tup (Frs.cons (gV_fr (i := 0) (N₀ := []) (by simp) rfl (by simp) (by rw [mxL_fl]; exact Nat.zero_le _)) (Frs.cons (Fr.old (by simp [mx])) Frs.nil)))


end Go.Sx

set_option linter.unusedVariables false
set_option linter.unusedSimpArgs false
set_option maxRecDepth 20000
namespace Go.Sx
open Go.Proofs

theorem rmost_n (H : List (List AV)) (X : AV) (x : List Nat) (hX : FL H X x) (n : Nat) (hx : x.length = n) (h1 : 1 ≤ n) (h64 : n ≤ 64) : CSpec Tryz.prog 114 [X] H (.int .i64 (moN x n : Int)) H := by subst hx; exact rmst_c H X x hX (by omega) (by omega)
theorem rsign_n (H : List (List AV)) (X : AV) (x : List Nat) (hX : FL H X x) (n : Nat) (hx : x.length = n) (h64 : n ≤ 64) : CSpec Tryz.prog 113 [X] H (.sl none n (fl (sgL x))) H := by subst hx; exact rsign_c H X x hX h64
attribute [local irreducible] Ex exOps exD opX opE thenX blkX RetQ Spec CSpec Fr condK guardK guardD ckK valK pickK loadK faK callK argK gK fK rK RetV lpX prK
set_option maxHeartbeats 4000000 in
theorem rx_0 (H : List (List AV)) (mid : Nat) (hb : mid < H.length) (n : Nat) (hn1 : 1 ≤ n) (hn : n ≤ 64) (est : Nat) (V S : AV) (hV : mx V = 0) (hS : mx S = 0) (j ct : Nat) (H0 H' : List (List AV)) (h0 : H.set mid (mDc (n : Int) 0 est V S (j : Int) (ct : Int)) = H0) (h' : H.set mid (mDc (n : Int) 1 est V S (j : Int) (ct : Int)) = H') :
    CSpec Tryz.prog 57 [mP mid, .slnil] H0 (.tup [.sl none n (fl (rml (yB n) n)), .int .i64 1]) H' := by
  subst h0 h'
  have hXl : slen AV.slnil = some 0 := rfl
  refine .mk (fun args w => Tryz.call57 args w) (Spec.intro' (fn := Tryz.f57) Tryz.func57 rfl (by kernel_rfl) (by simp) false [54] (draw := drawX Tryz.prog ⟨false, _, [54]⟩) dOk ?_)
  simp only [argE, Nat.reduceAdd]
  repeat' (first
    | (refine gateE ?_; (first | refine b_c0 ?_ | refine b_nil ?_ | refine m13 ?_ | refine m12 ?_ | refine m11 ?_ | (refine m10 ?_; (first | refine g_TT ?_ | refine g_FF ?_ | refine g_TF ?_ | refine g_FT ?_ | refine g_PT ?_ ?_ | refine g_PF ?_ ?_ | refine g_BT ?_ ?_ | refine g_BF ?_ ?_ | fail)) | (refine m09 ?_; (first | refine g_TT ?_ | refine g_FF ?_ | refine g_TF ?_ | refine g_FT ?_ | refine g_PT ?_ ?_ | refine g_PF ?_ ?_ | refine g_BT ?_ ?_ | refine g_BF ?_ ?_ | fail)) | refine m38 ?_ | fail))
    | (refine gateO ?_; (first | refine m14 ?_ | (refine m17 ?_; first | refine m19 ?_ | refine m18 ?_) | (refine m07 ?_; (first | refine m15 ?_ | refine m16 ?_ | refine l_mM hb (by exact rfl) (by exact rfl) ?_ | fail)) | refine b_nilC (by (conv => {lhs; whnf}); done) ?_ | refine b_stM (by (conv => {lhs; whnf}); done) (by (conv => {lhs; whnf}); done) (by exact rfl) hb (by exact rfl) (by decide) (by first | exact (by exact rfl) | simp only [mx, mxL_fl]) (by exact rfl) ?_ | refine b_lenA (by (conv => {lhs; whnf}); done) (by exact hXl) ?_ | refine b_grow (n := H.length) (i := 0) (N₀ := []) (by (conv => {lhs; whnf}); done) (by (conv => {lhs; whnf}); done) (by simp) (by exact rfl) (by simp) (by omega) (by simp) (by exact rfl) (l' := fl (rml (yB n) (k + 1))) (by exact yl_fl rfl) ?_ | (refine m45 ?_; (first | refine v_to ((k + 1 : Nat) : Int) (by omega) (by omega) ?_ | refine v_bbT (by exact rfl) ?_ | refine v_k ?_ | fail)) | (refine m00 ?_; (first | refine v_to ((k + 1 : Nat) : Int) (by omega) (by omega) ?_ | refine m52 ?_ | refine m53 ?_ | refine v_eP ?_ | refine m54 ?_ | refine m55 ?_ | refine v_neP ?_ | refine m47 ?_ | refine m48 ?_ | refine m49 ?_ | refine m50 ?_ | refine v_k ?_ | refine m51 ?_ | fail)) | (refine m22 ?_; (first | refine m26 ?_ | refine m27 ?_ | fail)) | refine m42 ?_ | refine b_assignI ?_ | refine b_assignN ?_ | refine m08 ?_ | refine b_callB ?_ | refine b_lenA (by (conv => {lhs; whnf}); done) (by first | rfl | assumption) ?_ | refine m23 ?_ | refine m25 ?_ | (refine m46 ?_; (first | refine v_to ((k + 1 : Nat) : Int) (by omega) (by omega) ?_ | refine m52 ?_ | refine m53 ?_ | refine v_eP ?_ | refine m54 ?_ | refine m55 ?_ | refine v_neP ?_ | refine m47 ?_ | refine m48 ?_ | refine m49 ?_ | refine m50 ?_ | refine v_k ?_ | refine m51 ?_ | fail)) | refine b_cnvF (by (conv => {lhs; whnf}); done) (by exact rfl) ?_ | refine b_cnvIF (by (conv => {lhs; whnf}); done) ?_ | refine b_bslZ (by exact rfl) (by exact rfl) (by decide) ?_ | fail))
    | (refine gateD ?_; (first | refine m36 ?_ | refine d_nil ?_ | refine m32 ?_ | refine m31 ?_ | refine m30 ?_ | (refine m28 ?_; (first | refine dg_TT ?_ | refine dg_FF ?_ | refine dg_TF ?_ | refine dg_FT ?_ | refine dg_PT ?_ ?_ | refine dg_PF ?_ ?_ | refine dg_BT ?_ ?_ | refine dg_BF ?_ ?_ | fail)) | (refine m29 ?_; (first | refine dg_TT ?_ | refine dg_FF ?_ | refine dg_TF ?_ | refine dg_FT ?_ | refine dg_PT ?_ ?_ | refine dg_PF ?_ ?_ | refine dg_BT ?_ ?_ | refine dg_BF ?_ ?_ | fail)) | refine m37 ?_ | fail))
    | (refine gateC ?_; (first | refine k_lt ?_ | refine k_fz ?_ | refine k_lb (by (conv => {lhs; whnf}); done) ?_ | refine k_ms ?_ | refine k_bx (by exact rfl) (by exact rfl) ?_ | refine m34 ?_ | refine m35 ?_ | refine m33 ?_ | refine k_mn ?_ | refine m56 ?_ | refine k_mnF ?_ | refine k_mnL (by exact rfl) ?_ | fail))
    | (refine gateT ?_; (first | refine b_thn ?_ | refine b_thr ?_ | refine b_the ?_ | fail))
    | (refine gateX ?_; (first | refine b_seq ?_ | refine b_region ?_ | (refine m06 ?_; (first | refine c_T ?_ | refine c_F ?_ | refine c_P ?_ ?_ | refine c_B ?_ ?_ | fail)) | refine b_ret ?_ | refine b_skip ?_ | refine b_block ?_ | refine b_exit ?_ | refine b_draw (id := 42) [] [] [(0, .lt), (1, .lt), (2, .lt), (3, .ld true), (5, .lt), (6, .lt), (7, .lt), (8, .lt), (9, .ld true), (10, .lt), (11, .ld true), (4, .mn true), (12, .mn true), (13, .ld true), (14, .lt), (15, .lt), (16, .lt), (17, .lt), (18, .ld true), (19, .lt), (20, .lt)] (by kernel_rfl) ?_ | (refine b_loop [0, 7, 8] n (fun k => ⟨[(0, .val (mP mid)), (7, .val (gV H.length 0 k)), (8, .val (.int .i64 ((k : Nat) : Int)))], [], H.set mid (mDc (n : Int) 0 est V S (j : Int) (ct : Int)) ++ ([] ++ gN (fl (rml (yB n) k)))⟩) (by exact rfl) ?_ ?_ <;> (first | intro k hk K hK | intro K) <;> (try dsimp only at *)) | fail))
    | refine m43 ?_
    | refine a_consI ?_
    | refine m21 ?_
    | refine a_nil ?_
    | (refine gateK ?_; (first | refine c_call (rasum_c _ .slnil [] (FL.nil _) (by simp)) (OldOk.app (by simp)) ?_ | refine c_call (rover_c _ _ _) (OldOk.app (by simp)) ?_ | fail))
    | refine m44 ?_
    | refine m40 ?_
    | (refine gk_nilN (by (conv => {lhs; simp only [List.nil_append, List.cons_append]}); done) ?_; first | refine ⟨by exact rfl, ?_⟩ | skip)
    | refine gk_nil ?_
    | (intro N' hN'; simp only [List.nil_append, List.cons_append] at hN'; subst hN')
    | (refine gateB ?_; (first | refine b_bln ?_ | refine b_blr ?_ | refine b_ble ?_ | refine m57 ?_ | fail))
    | (refine gateL ?_; (first | refine lp_n ?_ | refine lp_r ?_ | refine lp_e ?_ | fail))
    | (refine pr_k (by exact rfl) ?_; first | exact hK | fail | (exfalso; first | omega | (simp_all; done) | (simp_all; omega)))
    | (refine gateQ ?_; refine m05 ?_)
    | (refine gateR ?_; (first | refine m04 ?_ | refine m02 ?_ | refine m03 ?_ | refine rk_nil ?_ | fail))
    | intro _)
  all_goals first
    | (exfalso; omega)
    | (refine rv_fr (by simp) ?_; simp only [List.length_set]; exact Fr.tup (Frs.cons (gV_fr (i := 0) (N₀ := []) (by simp) rfl (by simp) (by rw [mxL_fl]; exact Nat.zero_le _)) (Frs.cons (Fr.old (by simp [mx])) Frs.nil)))

set_option maxHeartbeats 4000000 in
theorem rx_1p (H : List (List AV)) (mid : Nat) (hb : mid < H.length) (n : Nat) (hn1 : 1 ≤ n) (hn : n ≤ 64) (est : Nat) (V S : AV) (hV : mx V = 0) (hS : mx S = 0) (j ct : Nat) (X : AV) (x : List Nat) (hX : ∀ H', FL H' X x) (hx : x.length = n) (hn2 : 1 < n) (H0 H' : List (List AV)) (h0 : H.set mid (mDc (n : Int) 1 est V S (j : Int) (ct : Int)) = H0) (h' : H.set mid (mDc (n : Int) 2 (asumF x) (.sl none n (fl x)) (.sl none n (fl (sgL x))) (j : Int) (ct : Int)) = H') :
    CSpec Tryz.prog 57 [mP mid, X] H0 (.tup [.sl none n (fl (sgL x)), .int .i64 2]) H' := by
  subst h0 h'
  have hXl : slen X = some n := by have h9 := (hX []).len; rw [hx] at h9; exact h9
  refine .mk (fun args w => Tryz.call57 args w) (Spec.intro' (fn := Tryz.f57) Tryz.func57 rfl (by kernel_rfl) (by simp) false [54] (draw := drawX Tryz.prog ⟨false, _, [54]⟩) dOk ?_)
  simp only [argE, Nat.reduceAdd]
  repeat' (first
    | (refine gateE ?_; (first | refine b_c0 ?_ | refine b_nil ?_ | refine m13 ?_ | refine m12 ?_ | refine m11 ?_ | (refine m10 ?_; (first | refine g_TT ?_ | refine g_FF ?_ | refine g_TF ?_ | refine g_FT ?_ | refine g_PT ?_ ?_ | refine g_PF ?_ ?_ | refine g_BT ?_ ?_ | refine g_BF ?_ ?_ | fail)) | (refine m09 ?_; (first | refine g_TT ?_ | refine g_FF ?_ | refine g_TF ?_ | refine g_FT ?_ | refine g_PT ?_ ?_ | refine g_PF ?_ ?_ | refine g_BT ?_ ?_ | refine g_BF ?_ ?_ | fail)) | refine m38 ?_ | fail))
    | (refine gateO ?_; (first | refine m14 ?_ | (refine m17 ?_; first | refine m19 ?_ | refine m18 ?_) | (refine m07 ?_; (first | refine m15 ?_ | refine m16 ?_ | refine l_mM hb (by exact rfl) (by exact rfl) ?_ | fail)) | refine b_nilC (by (conv => {lhs; whnf}); done) ?_ | refine b_stM (by (conv => {lhs; whnf}); done) (by (conv => {lhs; whnf}); done) (by exact rfl) hb (by exact rfl) (by decide) (by first | exact (by exact rfl) | simp only [mx, mxL_fl]) (by exact rfl) ?_ | refine b_lenA (by (conv => {lhs; whnf}); done) (by exact hXl) ?_ | (refine m45 ?_; (first | refine v_bbT (by exact rfl) ?_ | refine v_k ?_ | fail)) | (refine m00 ?_; (first | refine m52 ?_ | refine m53 ?_ | refine v_eP ?_ | refine m54 ?_ | refine m55 ?_ | refine v_neP ?_ | refine m47 ?_ | refine m48 ?_ | refine m49 ?_ | refine m50 ?_ | refine v_k ?_ | refine m51 ?_ | fail)) | (refine m22 ?_; (first | refine m26 ?_ | refine m27 ?_ | fail)) | refine m42 ?_ | refine b_assignI ?_ | refine b_assignN ?_ | refine m08 ?_ | refine b_callB ?_ | refine b_lenA (by (conv => {lhs; whnf}); done) (by first | rfl | assumption) ?_ | refine m23 ?_ | refine m25 ?_ | (refine m46 ?_; (first | refine m52 ?_ | refine m53 ?_ | refine v_eP ?_ | refine m54 ?_ | refine m55 ?_ | refine v_neP ?_ | refine m47 ?_ | refine m48 ?_ | refine m49 ?_ | refine m50 ?_ | refine v_k ?_ | refine m51 ?_ | fail)) | refine b_cnvF (by (conv => {lhs; whnf}); done) (by exact rfl) ?_ | refine b_cnvIF (by (conv => {lhs; whnf}); done) ?_ | refine b_bslZ (by exact rfl) (by exact rfl) (by decide) ?_ | fail))
    | (refine gateD ?_; (first | refine m36 ?_ | refine d_nil ?_ | refine m32 ?_ | refine m31 ?_ | refine m30 ?_ | (refine m28 ?_; (first | refine dg_TT ?_ | refine dg_FF ?_ | refine dg_TF ?_ | refine dg_FT ?_ | refine dg_PT ?_ ?_ | refine dg_PF ?_ ?_ | refine dg_BT ?_ ?_ | refine dg_BF ?_ ?_ | fail)) | (refine m29 ?_; (first | refine dg_TT ?_ | refine dg_FF ?_ | refine dg_TF ?_ | refine dg_FT ?_ | refine dg_PT ?_ ?_ | refine dg_PF ?_ ?_ | refine dg_BT ?_ ?_ | refine dg_BF ?_ ?_ | fail)) | refine m37 ?_ | fail))
    | (refine gateC ?_; (first | refine k_lt ?_ | refine k_fz ?_ | refine k_lb (by (conv => {lhs; whnf}); done) ?_ | refine k_ms ?_ | refine k_bx (by exact rfl) (by exact rfl) ?_ | refine m34 ?_ | refine m35 ?_ | refine m33 ?_ | refine k_mn ?_ | refine m56 ?_ | refine k_mnF ?_ | refine k_mnL (by exact rfl) ?_ | fail))
    | (refine gateT ?_; (first | refine b_thn ?_ | refine b_thr ?_ | refine b_the ?_ | fail))
    | (refine gateX ?_; (first | refine b_seq ?_ | refine b_region ?_ | (refine m06 ?_; (first | refine c_T ?_ | refine c_F ?_ | refine c_P ?_ ?_ | refine c_B ?_ ?_ | fail)) | refine b_ret ?_ | refine b_skip ?_ | refine b_block ?_ | refine b_exit ?_ | refine b_draw (id := 42) [] [] [(0, .lt), (1, .lt), (2, .lt), (3, .ld true), (5, .lt), (6, .lt), (7, .lt), (8, .lt), (9, .ld true), (10, .lt), (11, .ld true), (4, .mn true), (12, .mn true), (13, .ld true), (14, .lt), (15, .lt), (16, .lt), (17, .lt), (18, .ld true), (19, .lt), (20, .lt)] (by kernel_rfl) ?_ | fail))
    | refine m43 ?_
    | refine a_consI ?_
    | refine m21 ?_
    | refine a_nil ?_
    | (refine gateK ?_; (first | refine c_call (rasum_c _ X x (hX _) (by omega)) (OldOk.app (by simp)) ?_ | refine c_call (copy_z _ X x (hX _) n hx hn) (OldOk.app (by simp)) ?_ | refine c_call (copy_z _ (.sl none n (fl (sgL x))) (sgL x) (FLz _ _ _ (by simp [hx])) n (by simp [hx]) hn) (OldOk.app (by simp)) ?_ | refine c_call (rsign_n _ X x (hX _) n hx hn) (OldOk.app (by simp)) ?_ | fail))
    | refine m44 ?_
    | refine m40 ?_
    | (refine gk_nilN (by (conv => {lhs; simp only [List.nil_append, List.cons_append]}); done) ?_; first | refine ⟨by exact rfl, ?_⟩ | skip)
    | refine gk_nil ?_
    | (intro N' hN'; simp only [List.nil_append, List.cons_append] at hN'; subst hN')
    | (refine gateB ?_; (first | refine b_bln ?_ | refine b_blr ?_ | refine b_ble ?_ | refine m57 ?_ | fail))
    | (refine gateL ?_; (first | refine lp_n ?_ | refine lp_r ?_ | refine lp_e ?_ | fail))
    | (refine pr_k (by exact rfl) ?_; first | exact hK | (exfalso; first | omega | (simp_all; done) | (simp_all; omega)))
    | (refine gateQ ?_; refine m05 ?_)
    | (refine gateR ?_; (first | refine m04 ?_ | refine m02 ?_ | refine m03 ?_ | refine rk_nil ?_ | fail))
    | intro _)
  all_goals first
    | (exfalso; contradiction)
    | (exfalso; omega)
    | (refine rv_old (by simp) (by simp [mx, mxL, mxL_fl, resOne]) ?_; exact rfl)
    | (exfalso; simp_all; done)
    | (exfalso; simp_all; omega)

set_option maxHeartbeats 4000000 in
theorem rx_1d (H : List (List AV)) (mid : Nat) (hb : mid < H.length) (n : Nat) (hn1 : 1 ≤ n) (hn : n ≤ 64) (est : Nat) (V S : AV) (hV : mx V = 0) (hS : mx S = 0) (j ct : Nat) (X : AV) (x : List Nat) (hX : ∀ H', FL H' X x) (hx : x.length = n) (hn2 : n = 1) (H0 H' : List (List AV)) (h0 : H.set mid (mDc (n : Int) 1 est V S (j : Int) (ct : Int)) = H0) (h' : H.set mid (mDc (n : Int) 6 (asumF x) (.sl none n (fl x)) S (j : Int) (ct : Int)) = H') :
    CSpec Tryz.prog 57 [mP mid, X] H0 (.tup [.slnil, .int .i64 0]) H' := by
  subst h0 h'
  have hXl : slen X = some n := by have h9 := (hX []).len; rw [hx] at h9; exact h9
  refine .mk (fun args w => Tryz.call57 args w) (Spec.intro' (fn := Tryz.f57) Tryz.func57 rfl (by kernel_rfl) (by simp) false [54] (draw := drawX Tryz.prog ⟨false, _, [54]⟩) dOk ?_)
  simp only [argE, Nat.reduceAdd]
  repeat' (first
    | (refine gateE ?_; (first | refine b_c0 ?_ | refine b_nil ?_ | refine m13 ?_ | refine m12 ?_ | refine m11 ?_ | (refine m10 ?_; (first | refine g_TT ?_ | refine g_FF ?_ | refine g_TF ?_ | refine g_FT ?_ | refine g_PT ?_ ?_ | refine g_PF ?_ ?_ | refine g_BT ?_ ?_ | refine g_BF ?_ ?_ | fail)) | (refine m09 ?_; (first | refine g_TT ?_ | refine g_FF ?_ | refine g_TF ?_ | refine g_FT ?_ | refine g_PT ?_ ?_ | refine g_PF ?_ ?_ | refine g_BT ?_ ?_ | refine g_BF ?_ ?_ | fail)) | refine m38 ?_ | fail))
    | (refine gateO ?_; (first | refine m14 ?_ | (refine m17 ?_; first | refine m19 ?_ | refine m18 ?_) | (refine m07 ?_; (first | refine m15 ?_ | refine m16 ?_ | refine l_mM hb (by exact rfl) (by exact rfl) ?_ | fail)) | refine b_nilC (by (conv => {lhs; whnf}); done) ?_ | refine b_stM (by (conv => {lhs; whnf}); done) (by (conv => {lhs; whnf}); done) (by exact rfl) hb (by exact rfl) (by decide) (by first | exact (by exact rfl) | simp only [mx, mxL_fl]) (by exact rfl) ?_ | refine b_lenA (by (conv => {lhs; whnf}); done) (by exact hXl) ?_ | (refine m45 ?_; (first | refine v_bbT (by exact rfl) ?_ | refine v_k ?_ | fail)) | (refine m00 ?_; (first | refine m52 ?_ | refine m53 ?_ | refine v_eP ?_ | refine m54 ?_ | refine m55 ?_ | refine v_neP ?_ | refine m47 ?_ | refine m48 ?_ | refine m49 ?_ | refine m50 ?_ | refine v_k ?_ | refine m51 ?_ | fail)) | (refine m22 ?_; (first | refine m26 ?_ | refine m27 ?_ | fail)) | refine m42 ?_ | refine b_assignI ?_ | refine b_assignN ?_ | refine m08 ?_ | refine b_callB ?_ | refine b_lenA (by (conv => {lhs; whnf}); done) (by first | rfl | assumption) ?_ | refine m23 ?_ | refine m25 ?_ | (refine m46 ?_; (first | refine m52 ?_ | refine m53 ?_ | refine v_eP ?_ | refine m54 ?_ | refine m55 ?_ | refine v_neP ?_ | refine m47 ?_ | refine m48 ?_ | refine m49 ?_ | refine m50 ?_ | refine v_k ?_ | refine m51 ?_ | fail)) | refine b_cnvF (by (conv => {lhs; whnf}); done) (by exact rfl) ?_ | refine b_cnvIF (by (conv => {lhs; whnf}); done) ?_ | refine b_bslZ (by exact rfl) (by exact rfl) (by decide) ?_ | fail))
    | (refine gateD ?_; (first | refine m36 ?_ | refine d_nil ?_ | refine m32 ?_ | refine m31 ?_ | refine m30 ?_ | (refine m28 ?_; (first | refine dg_TT ?_ | refine dg_FF ?_ | refine dg_TF ?_ | refine dg_FT ?_ | refine dg_PT ?_ ?_ | refine dg_PF ?_ ?_ | refine dg_BT ?_ ?_ | refine dg_BF ?_ ?_ | fail)) | (refine m29 ?_; (first | refine dg_TT ?_ | refine dg_FF ?_ | refine dg_TF ?_ | refine dg_FT ?_ | refine dg_PT ?_ ?_ | refine dg_PF ?_ ?_ | refine dg_BT ?_ ?_ | refine dg_BF ?_ ?_ | fail)) | refine m37 ?_ | fail))
    | (refine gateC ?_; (first | refine k_lt ?_ | refine k_fz ?_ | refine k_lb (by (conv => {lhs; whnf}); done) ?_ | refine k_ms ?_ | refine k_bx (by exact rfl) (by exact rfl) ?_ | refine m34 ?_ | refine m35 ?_ | refine m33 ?_ | refine k_mn ?_ | refine m56 ?_ | refine k_mnF ?_ | refine k_mnL (by exact rfl) ?_ | fail))
    | (refine gateT ?_; (first | refine b_thn ?_ | refine b_thr ?_ | refine b_the ?_ | fail))
    | (refine gateX ?_; (first | refine b_seq ?_ | refine b_region ?_ | (refine m06 ?_; (first | refine c_T ?_ | refine c_F ?_ | refine c_P ?_ ?_ | refine c_B ?_ ?_ | fail)) | refine b_ret ?_ | refine b_skip ?_ | refine b_block ?_ | refine b_exit ?_ | refine b_draw (id := 42) [] [] [(0, .lt), (1, .lt), (2, .lt), (3, .ld true), (5, .lt), (6, .lt), (7, .lt), (8, .lt), (9, .ld true), (10, .lt), (11, .ld true), (4, .mn true), (12, .mn true), (13, .ld true), (14, .lt), (15, .lt), (16, .lt), (17, .lt), (18, .ld true), (19, .lt), (20, .lt)] (by kernel_rfl) ?_ | fail))
    | refine m43 ?_
    | refine a_consI ?_
    | refine m21 ?_
    | refine a_nil ?_
    | (refine gateK ?_; (first | refine c_call (rasum_c _ X x (hX _) (by omega)) (OldOk.app (by simp)) ?_ | refine c_call (copy_z _ X x (hX _) n hx hn) (OldOk.app (by simp)) ?_ | fail))
    | refine m44 ?_
    | refine m40 ?_
    | (refine gk_nilN (by (conv => {lhs; simp only [List.nil_append, List.cons_append]}); done) ?_; first | refine ⟨by exact rfl, ?_⟩ | skip)
    | refine gk_nil ?_
    | (intro N' hN'; simp only [List.nil_append, List.cons_append] at hN'; subst hN')
    | (refine gateB ?_; (first | refine b_bln ?_ | refine b_blr ?_ | refine b_ble ?_ | refine m57 ?_ | fail))
    | (refine gateL ?_; (first | refine lp_n ?_ | refine lp_r ?_ | refine lp_e ?_ | fail))
    | (refine pr_k (by exact rfl) ?_; first | exact hK | (exfalso; first | omega | (simp_all; done) | (simp_all; omega)))
    | (refine gateQ ?_; refine m05 ?_)
    | (refine gateR ?_; (first | refine m04 ?_ | refine m02 ?_ | refine m03 ?_ | refine rk_nil ?_ | fail))
    | intro _)
  all_goals first
    | (exfalso; contradiction)
    | (exfalso; omega)
    | (refine rv_old (by simp) (by simp [mx, mxL, mxL_fl, resOne]) ?_; exact rfl)
    | (exfalso; simp_all; done)
    | (exfalso; simp_all; omega)

set_option maxHeartbeats 4000000 in
theorem rx_2 (H : List (List AV)) (mid : Nat) (hb : mid < H.length) (n : Nat) (hn1 : 1 ≤ n) (hn : n ≤ 64) (est : Nat) (V S : AV) (hV : mx V = 0) (hS : mx S = 0) (j ct : Nat) (X : AV) (x : List Nat) (hX : ∀ H', FL H' X x) (hx : x.length = n) (H0 H' : List (List AV)) (h0 : H.set mid (mDc (n : Int) 2 est V S (j : Int) (ct : Int)) = H0) (h' : H.set mid (mDc (n : Int) 3 est V S (moN x n : Int) ((2 : Nat) : Int)) = H') :
    CSpec Tryz.prog 57 [mP mid, X] H0 (.tup [.sl none n (fl (rml (yU (moN x n)) n)), .int .i64 1]) H' := by
  subst h0 h'
  have hXl : slen X = some n := by have h9 := (hX []).len; rw [hx] at h9; exact h9
  have hmo : moN x n < n := by have h9 := moN_lt x n (by omega); exact h9
  refine .mk (fun args w => Tryz.call57 args w) (Spec.intro' (fn := Tryz.f57) Tryz.func57 rfl (by kernel_rfl) (by simp) false [54] (draw := drawX Tryz.prog ⟨false, _, [54]⟩) dOk ?_)
  simp only [argE, Nat.reduceAdd]
  repeat' (first
    | (refine gateE ?_; (first | refine b_c0 ?_ | refine b_nil ?_ | refine m13 ?_ | refine m12 ?_ | refine m11 ?_ | (refine m10 ?_; (first | refine g_TT ?_ | refine g_FF ?_ | refine g_TF ?_ | refine g_FT ?_ | refine g_PT ?_ ?_ | refine g_PF ?_ ?_ | refine g_BT ?_ ?_ | refine g_BF ?_ ?_ | fail)) | (refine m09 ?_; (first | refine g_TT ?_ | refine g_FF ?_ | refine g_TF ?_ | refine g_FT ?_ | refine g_PT ?_ ?_ | refine g_PF ?_ ?_ | refine g_BT ?_ ?_ | refine g_BF ?_ ?_ | fail)) | refine m38 ?_ | fail))
    | (refine gateO ?_; (first | refine m14 ?_ | (refine m17 ?_; first | refine m19 ?_ | refine m18 ?_) | (refine m07 ?_; (first | refine m15 ?_ | refine m16 ?_ | refine l_mM hb (by exact rfl) (by exact rfl) ?_ | fail)) | refine b_nilC (by (conv => {lhs; whnf}); done) ?_ | refine b_stM (by (conv => {lhs; whnf}); done) (by (conv => {lhs; whnf}); done) (by exact rfl) hb (by exact rfl) (by decide) (by first | exact (by exact rfl) | simp only [mx, mxL_fl]) (by exact rfl) ?_ | refine b_lenA (by (conv => {lhs; whnf}); done) (by exact hXl) ?_ | (refine m45 ?_; (first | refine v_bbT (by exact rfl) ?_ | refine v_k ?_ | fail)) | (refine m00 ?_; (first | refine m52 ?_ | refine m53 ?_ | refine v_eP ?_ | refine m54 ?_ | refine m55 ?_ | refine v_neP ?_ | refine m47 ?_ | refine m48 ?_ | refine m49 ?_ | refine m50 ?_ | refine v_k ?_ | refine m51 ?_ | fail)) | (refine m22 ?_; (first | refine m26 ?_ | refine m27 ?_ | fail)) | refine m42 ?_ | refine b_assignI ?_ | refine b_assignN ?_ | refine m08 ?_ | refine b_callB ?_ | refine b_lenA (by (conv => {lhs; whnf}); done) (by first | rfl | assumption) ?_ | refine m23 ?_ | refine m25 ?_ | (refine m46 ?_; (first | refine m52 ?_ | refine m53 ?_ | refine v_eP ?_ | refine m54 ?_ | refine m55 ?_ | refine v_neP ?_ | refine m47 ?_ | refine m48 ?_ | refine m49 ?_ | refine m50 ?_ | refine v_k ?_ | refine m51 ?_ | fail)) | refine b_cnvF (by (conv => {lhs; whnf}); done) (by exact rfl) ?_ | refine b_cnvIF (by (conv => {lhs; whnf}); done) ?_ | refine b_bslZ (by exact rfl) (by exact rfl) (by decide) ?_ | fail))
    | (refine gateD ?_; (first | refine m36 ?_ | refine d_nil ?_ | refine m32 ?_ | refine m31 ?_ | refine m30 ?_ | (refine m28 ?_; (first | refine dg_TT ?_ | refine dg_FF ?_ | refine dg_TF ?_ | refine dg_FT ?_ | refine dg_PT ?_ ?_ | refine dg_PF ?_ ?_ | refine dg_BT ?_ ?_ | refine dg_BF ?_ ?_ | fail)) | (refine m29 ?_; (first | refine dg_TT ?_ | refine dg_FF ?_ | refine dg_TF ?_ | refine dg_FT ?_ | refine dg_PT ?_ ?_ | refine dg_PF ?_ ?_ | refine dg_BT ?_ ?_ | refine dg_BF ?_ ?_ | fail)) | refine m37 ?_ | fail))
    | (refine gateC ?_; (first | refine k_lt ?_ | refine k_fz ?_ | refine k_lb (by (conv => {lhs; whnf}); done) ?_ | refine k_ms ?_ | refine k_bx (by exact rfl) (by exact rfl) ?_ | refine m34 ?_ | refine m35 ?_ | refine m33 ?_ | refine k_mn ?_ | refine m56 ?_ | refine k_mnF ?_ | refine k_mnL (by exact rfl) ?_ | fail))
    | (refine gateT ?_; (first | refine b_thn ?_ | refine b_thr ?_ | refine b_the ?_ | fail))
    | (refine gateX ?_; (first | refine b_seq ?_ | refine b_region ?_ | (refine m06 ?_; (first | refine c_T ?_ | refine c_F ?_ | refine c_P ?_ ?_ | refine c_B ?_ ?_ | fail)) | refine b_ret ?_ | refine b_skip ?_ | refine b_block ?_ | refine b_exit ?_ | refine b_draw (id := 42) [] [] [(0, .lt), (1, .lt), (2, .lt), (3, .ld true), (5, .lt), (6, .lt), (7, .lt), (8, .lt), (9, .ld true), (10, .lt), (11, .ld true), (4, .mn true), (12, .mn true), (13, .ld true), (14, .lt), (15, .lt), (16, .lt), (17, .lt), (18, .ld true), (19, .lt), (20, .lt)] (by kernel_rfl) ?_ | fail))
    | refine m43 ?_
    | refine a_consI ?_
    | refine m21 ?_
    | refine a_nil ?_
    | (refine gateK ?_; (first | refine c_call (rasum_c _ X x (hX _) (by omega)) (OldOk.app (by simp)) ?_ | refine c_call (rmost_n _ X x (hX _) n hx hn1 hn) (OldOk.app (by simp)) ?_ | refine c_call (runit_c (H ++ []) mid (by simpa using hb) n hn1 hn _ _ _ _ (by first | assumption | simp only [mx, mxL_fl]) (by first | assumption | simp only [mx, mxL_fl]) _ _ hmo _ _ (set_app0 hb _) (set_app0 hb _)) (OldOk.mdl (by simp) (mDc_mx (by first | assumption | simp only [mx, mxL_fl]) (by first | assumption | simp only [mx, mxL_fl]))) ?_ | fail))
    | refine m44 ?_
    | refine m40 ?_
    | (refine gk_nilN (by (conv => {lhs; simp only [List.nil_append, List.cons_append]}); done) ?_; first | refine ⟨by exact rfl, ?_⟩ | skip)
    | refine gk_nil ?_
    | (intro N' hN'; simp only [List.nil_append, List.cons_append] at hN'; subst hN')
    | (refine gateB ?_; (first | refine b_bln ?_ | refine b_blr ?_ | refine b_ble ?_ | refine m57 ?_ | fail))
    | (refine gateL ?_; (first | refine lp_n ?_ | refine lp_r ?_ | refine lp_e ?_ | fail))
    | (refine pr_k (by exact rfl) ?_; first | exact hK | (exfalso; first | omega | (simp_all; done) | (simp_all; omega)))
    | (refine gateQ ?_; refine m05 ?_)
    | (refine gateR ?_; (first | refine m04 ?_ | refine m02 ?_ | refine m03 ?_ | refine rk_nil ?_ | fail))
    | intro _)
  all_goals first
    | (exfalso; contradiction)
    | (exfalso; omega)
    | (refine rv_old (by simp) (by simp [mx, mxL, mxL_fl, resOne]) ?_; exact rfl)
    | (exfalso; simp_all; done)
    | (exfalso; simp_all; omega)

set_option maxHeartbeats 4000000 in
theorem rx_3ft (H : List (List AV)) (mid : Nat) (hb : mid < H.length) (n : Nat) (hn1 : 1 ≤ n) (hn : n ≤ 64) (est : Nat) (V S : AV) (hV : mx V = 0) (hS : mx S = 0) (j ct : Nat) (X : AV) (x : List Nat) (hX : ∀ H', FL H' X x) (hx : x.length = n) (s : List Nat) (hSs : ∀ H, FL H S s) (hsl : s.length ≤ 2 ^ 30) (ht : flt est (asumF x) = true) (hc : (sgL x = s ∨ (flt (asumF x) est || feq (asumF x) est) = true)) (H0 H' : List (List AV)) (h0 : H.set mid (mDc (n : Int) 3 est V S (j : Int) (ct : Int)) = H0) (h' : H.set mid (mDc (n : Int) 5 (asumF x) (.sl none n (fl x)) S (j : Int) (ct : Int)) = H') :
    CSpec Tryz.prog 57 [mP mid, X] H0 (.tup [.sl none n (fl (rml (yL n) n)), .int .i64 1]) H' := by
  subst h0 h'
  have hXl : slen X = some n := by have h9 := (hX []).len; rw [hx] at h9; exact h9
  refine .mk (fun args w => Tryz.call57 args w) (Spec.intro' (fn := Tryz.f57) Tryz.func57 rfl (by kernel_rfl) (by simp) false [54] (draw := drawX Tryz.prog ⟨false, _, [54]⟩) dOk ?_)
  simp only [argE, Nat.reduceAdd]
  repeat' (first
    | (refine gateE ?_; (first | refine b_c0 ?_ | refine b_nil ?_ | refine m13 ?_ | refine m12 ?_ | refine m11 ?_ | (refine m10 ?_; (first | refine g_TT ?_ | refine g_FF ?_ | refine g_TF ?_ | refine g_FT ?_ | refine g_PT ?_ ?_ | refine g_PF ?_ ?_ | refine g_BT ?_ ?_ | refine g_BF ?_ ?_ | fail)) | (refine m09 ?_; (first | refine g_TT ?_ | refine g_FF ?_ | refine g_TF ?_ | refine g_FT ?_ | refine g_PT ?_ ?_ | refine g_PF ?_ ?_ | refine g_BT ?_ ?_ | refine g_BF ?_ ?_ | fail)) | refine m38 ?_ | fail))
    | (refine gateO ?_; (first | refine m14 ?_ | (refine m17 ?_; first | refine m19 ?_ | refine m18 ?_) | (refine m07 ?_; (first | refine m15 ?_ | refine m16 ?_ | refine l_mM hb (by exact rfl) (by exact rfl) ?_ | fail)) | refine b_nilC (by (conv => {lhs; whnf}); done) ?_ | refine b_stM (by (conv => {lhs; whnf}); done) (by (conv => {lhs; whnf}); done) (by exact rfl) hb (by exact rfl) (by decide) (by first | exact (by exact rfl) | simp only [mx, mxL_fl]) (by exact rfl) ?_ | refine b_lenA (by (conv => {lhs; whnf}); done) (by exact hXl) ?_ | (refine m45 ?_; (first | refine v_bbT (by exact rfl) ?_ | refine v_k ?_ | fail)) | (refine m00 ?_; (first | refine m52 ?_ | refine m53 ?_ | refine v_eP ?_ | refine m54 ?_ | refine m55 ?_ | refine v_neP ?_ | refine m47 ?_ | refine m48 ?_ | refine m49 ?_ | refine m50 ?_ | refine v_k ?_ | refine m51 ?_ | fail)) | (refine m22 ?_; (first | refine m26 ?_ | refine m27 ?_ | fail)) | refine m42 ?_ | refine b_assignI ?_ | refine b_assignN ?_ | refine m08 ?_ | refine b_callB ?_ | refine b_lenA (by (conv => {lhs; whnf}); done) (by first | rfl | assumption) ?_ | refine m23 ?_ | refine m25 ?_ | (refine m46 ?_; (first | refine m52 ?_ | refine m53 ?_ | refine v_eP ?_ | refine m54 ?_ | refine m55 ?_ | refine v_neP ?_ | refine m47 ?_ | refine m48 ?_ | refine m49 ?_ | refine m50 ?_ | refine v_k ?_ | refine m51 ?_ | fail)) | refine b_cnvF (by (conv => {lhs; whnf}); done) (by exact rfl) ?_ | refine b_cnvIF (by (conv => {lhs; whnf}); done) ?_ | refine b_bslZ (by exact rfl) (by exact rfl) (by decide) ?_ | fail))
    | (refine gateD ?_; (first | refine m36 ?_ | refine d_nil ?_ | refine m32 ?_ | refine m31 ?_ | refine m30 ?_ | (refine m28 ?_; (first | refine dg_TT ?_ | refine dg_FF ?_ | refine dg_TF ?_ | refine dg_FT ?_ | refine dg_PT ?_ ?_ | refine dg_PF ?_ ?_ | refine dg_BT ?_ ?_ | refine dg_BF ?_ ?_ | fail)) | (refine m29 ?_; (first | refine dg_TT ?_ | refine dg_FF ?_ | refine dg_TF ?_ | refine dg_FT ?_ | refine dg_PT ?_ ?_ | refine dg_PF ?_ ?_ | refine dg_BT ?_ ?_ | refine dg_BF ?_ ?_ | fail)) | refine m37 ?_ | fail))
    | (refine gateC ?_; (first | refine k_lt ?_ | refine k_fz ?_ | refine k_lb (by (conv => {lhs; whnf}); done) ?_ | refine k_ms ?_ | refine k_bx (by exact rfl) (by exact rfl) ?_ | refine m34 ?_ | refine m35 ?_ | refine m33 ?_ | refine k_mn ?_ | refine m56 ?_ | refine k_mnF ?_ | refine k_mnL (by exact rfl) ?_ | fail))
    | (refine gateT ?_; (first | refine b_thn ?_ | refine b_thr ?_ | refine b_the ?_ | fail))
    | (refine gateX ?_; (first | refine b_seq ?_ | refine b_region ?_ | (refine m06 ?_; (first | refine c_T ?_ | refine c_F ?_ | refine c_P ?_ ?_ | refine c_B ?_ ?_ | fail)) | refine b_ret ?_ | refine b_skip ?_ | refine b_block ?_ | refine b_exit ?_ | refine b_draw (id := 42) [] [] [(0, .lt), (1, .lt), (2, .lt), (3, .ld true), (5, .lt), (6, .lt), (7, .lt), (8, .lt), (9, .ld true), (10, .lt), (11, .ld true), (4, .mn true), (12, .mn true), (13, .ld true), (14, .lt), (15, .lt), (16, .lt), (17, .lt), (18, .ld true), (19, .lt), (20, .lt)] (by kernel_rfl) ?_ | fail))
    | refine m43 ?_
    | refine a_consI ?_
    | refine m21 ?_
    | refine a_nil ?_
    | (refine gateK ?_; (first | refine c_call (rasum_c _ X x (hX _) (by omega)) (OldOk.app (by simp)) ?_ | refine c_call (copy_z _ X x (hX _) n hx hn) (OldOk.app (by simp)) ?_ | refine c_call (rsign_n _ X x (hX _) n hx hn) (OldOk.app (by simp)) ?_ | refine c_call (all_c _ _ (sgL x) (FLz _ _ _ (by simp [hx])) (by simp; omega) _ s (hSs _) (by omega)) (OldOk.app (by simp)) ?_ | refine c_call (rfinal_c (H ++ []) mid (by simpa using hb) n hn1 hn _ _ _ _ (by first | assumption | simp only [mx, mxL_fl]) (by first | assumption | simp only [mx, mxL_fl]) _ _  _ _ (set_app0 hb _) (set_app0 hb _)) (OldOk.mdl (by simp) (mDc_mx (by first | assumption | simp only [mx, mxL_fl]) (by first | assumption | simp only [mx, mxL_fl]))) ?_ | fail))
    | refine m44 ?_
    | refine m40 ?_
    | (refine gk_nilN (by (conv => {lhs; simp only [List.nil_append, List.cons_append]}); done) ?_; first | refine ⟨by exact rfl, ?_⟩ | skip)
    | refine gk_nil ?_
    | (intro N' hN'; simp only [List.nil_append, List.cons_append] at hN'; subst hN')
    | (refine gateB ?_; (first | refine b_bln ?_ | refine b_blr ?_ | refine b_ble ?_ | refine m57 ?_ | fail))
    | (refine gateL ?_; (first | refine lp_n ?_ | refine lp_r ?_ | refine lp_e ?_ | fail))
    | (refine pr_k (by exact rfl) ?_; first | exact hK | (exfalso; first | omega | (simp_all; done) | (simp_all; omega)))
    | (refine gateQ ?_; refine m05 ?_)
    | (refine gateR ?_; (first | refine m04 ?_ | refine m02 ?_ | refine m03 ?_ | refine rk_nil ?_ | fail))
    | intro _)
  all_goals first
    | (exfalso; contradiction)
    | (exfalso; omega)
    | (refine rv_old (by simp) (by simp [mx, mxL, mxL_fl, resOne]) ?_; exact rfl)
    | (exfalso; simp_all; done)
    | (exfalso; simp_all; omega)

set_option maxHeartbeats 4000000 in
theorem rx_3st (H : List (List AV)) (mid : Nat) (hb : mid < H.length) (n : Nat) (hn1 : 1 ≤ n) (hn : n ≤ 64) (est : Nat) (V S : AV) (hV : mx V = 0) (hS : mx S = 0) (j ct : Nat) (X : AV) (x : List Nat) (hX : ∀ H', FL H' X x) (hx : x.length = n) (s : List Nat) (hSs : ∀ H, FL H S s) (hsl : s.length ≤ 2 ^ 30) (ht : flt est (asumF x) = true) (hc : ¬ (sgL x = s ∨ (flt (asumF x) est || feq (asumF x) est) = true)) (H0 H' : List (List AV)) (h0 : H.set mid (mDc (n : Int) 3 est V S (j : Int) (ct : Int)) = H0) (h' : H.set mid (mDc (n : Int) 4 (asumF x) (.sl none n (fl x)) (.sl none n (fl (sgL x))) (j : Int) (ct : Int)) = H') :
    CSpec Tryz.prog 57 [mP mid, X] H0 (.tup [.sl none n (fl (sgL x)), .int .i64 2]) H' := by
  subst h0 h'
  have hXl : slen X = some n := by have h9 := (hX []).len; rw [hx] at h9; exact h9
  refine .mk (fun args w => Tryz.call57 args w) (Spec.intro' (fn := Tryz.f57) Tryz.func57 rfl (by kernel_rfl) (by simp) false [54] (draw := drawX Tryz.prog ⟨false, _, [54]⟩) dOk ?_)
  simp only [argE, Nat.reduceAdd]
  repeat' (first
    | (refine gateE ?_; (first | refine b_c0 ?_ | refine b_nil ?_ | refine m13 ?_ | refine m12 ?_ | refine m11 ?_ | (refine m10 ?_; (first | refine g_TT ?_ | refine g_FF ?_ | refine g_TF ?_ | refine g_FT ?_ | refine g_PT ?_ ?_ | refine g_PF ?_ ?_ | refine g_BT ?_ ?_ | refine g_BF ?_ ?_ | fail)) | (refine m09 ?_; (first | refine g_TT ?_ | refine g_FF ?_ | refine g_TF ?_ | refine g_FT ?_ | refine g_PT ?_ ?_ | refine g_PF ?_ ?_ | refine g_BT ?_ ?_ | refine g_BF ?_ ?_ | fail)) | refine m38 ?_ | fail))
    | (refine gateO ?_; (first | refine m14 ?_ | (refine m17 ?_; first | refine m19 ?_ | refine m18 ?_) | (refine m07 ?_; (first | refine m15 ?_ | refine m16 ?_ | refine l_mM hb (by exact rfl) (by exact rfl) ?_ | fail)) | refine b_nilC (by (conv => {lhs; whnf}); done) ?_ | refine b_stM (by (conv => {lhs; whnf}); done) (by (conv => {lhs; whnf}); done) (by exact rfl) hb (by exact rfl) (by decide) (by first | exact (by exact rfl) | simp only [mx, mxL_fl]) (by exact rfl) ?_ | refine b_lenA (by (conv => {lhs; whnf}); done) (by exact hXl) ?_ | (refine m45 ?_; (first | refine v_bbT (by exact rfl) ?_ | refine v_k ?_ | fail)) | (refine m00 ?_; (first | refine m52 ?_ | refine m53 ?_ | refine v_eP ?_ | refine m54 ?_ | refine m55 ?_ | refine v_neP ?_ | refine m47 ?_ | refine m48 ?_ | refine m49 ?_ | refine m50 ?_ | refine v_k ?_ | refine m51 ?_ | fail)) | (refine m22 ?_; (first | refine m26 ?_ | refine m27 ?_ | fail)) | refine m42 ?_ | refine b_assignI ?_ | refine b_assignN ?_ | refine m08 ?_ | refine b_callB ?_ | refine b_lenA (by (conv => {lhs; whnf}); done) (by first | rfl | assumption) ?_ | refine m23 ?_ | refine m25 ?_ | (refine m46 ?_; (first | refine m52 ?_ | refine m53 ?_ | refine v_eP ?_ | refine m54 ?_ | refine m55 ?_ | refine v_neP ?_ | refine m47 ?_ | refine m48 ?_ | refine m49 ?_ | refine m50 ?_ | refine v_k ?_ | refine m51 ?_ | fail)) | refine b_cnvF (by (conv => {lhs; whnf}); done) (by exact rfl) ?_ | refine b_cnvIF (by (conv => {lhs; whnf}); done) ?_ | refine b_bslZ (by exact rfl) (by exact rfl) (by decide) ?_ | fail))
    | (refine gateD ?_; (first | refine m36 ?_ | refine d_nil ?_ | refine m32 ?_ | refine m31 ?_ | refine m30 ?_ | (refine m28 ?_; (first | refine dg_TT ?_ | refine dg_FF ?_ | refine dg_TF ?_ | refine dg_FT ?_ | refine dg_PT ?_ ?_ | refine dg_PF ?_ ?_ | refine dg_BT ?_ ?_ | refine dg_BF ?_ ?_ | fail)) | (refine m29 ?_; (first | refine dg_TT ?_ | refine dg_FF ?_ | refine dg_TF ?_ | refine dg_FT ?_ | refine dg_PT ?_ ?_ | refine dg_PF ?_ ?_ | refine dg_BT ?_ ?_ | refine dg_BF ?_ ?_ | fail)) | refine m37 ?_ | fail))
    | (refine gateC ?_; (first | refine k_lt ?_ | refine k_fz ?_ | refine k_lb (by (conv => {lhs; whnf}); done) ?_ | refine k_ms ?_ | refine k_bx (by exact rfl) (by exact rfl) ?_ | refine m34 ?_ | refine m35 ?_ | refine m33 ?_ | refine k_mn ?_ | refine m56 ?_ | refine k_mnF ?_ | refine k_mnL (by exact rfl) ?_ | fail))
    | (refine gateT ?_; (first | refine b_thn ?_ | refine b_thr ?_ | refine b_the ?_ | fail))
    | (refine gateX ?_; (first | refine b_seq ?_ | refine b_region ?_ | (refine m06 ?_; (first | refine c_T ?_ | refine c_F ?_ | refine c_P ?_ ?_ | refine c_B ?_ ?_ | fail)) | refine b_ret ?_ | refine b_skip ?_ | refine b_block ?_ | refine b_exit ?_ | refine b_draw (id := 42) [] [] [(0, .lt), (1, .lt), (2, .lt), (3, .ld true), (5, .lt), (6, .lt), (7, .lt), (8, .lt), (9, .ld true), (10, .lt), (11, .ld true), (4, .mn true), (12, .mn true), (13, .ld true), (14, .lt), (15, .lt), (16, .lt), (17, .lt), (18, .ld true), (19, .lt), (20, .lt)] (by kernel_rfl) ?_ | fail))
    | refine m43 ?_
    | refine a_consI ?_
    | refine m21 ?_
    | refine a_nil ?_
    | (refine gateK ?_; (first | refine c_call (rasum_c _ X x (hX _) (by omega)) (OldOk.app (by simp)) ?_ | refine c_call (copy_z _ X x (hX _) n hx hn) (OldOk.app (by simp)) ?_ | refine c_call (copy_z _ (.sl none n (fl (sgL x))) (sgL x) (FLz _ _ _ (by simp [hx])) n (by simp [hx]) hn) (OldOk.app (by simp)) ?_ | refine c_call (rsign_n _ X x (hX _) n hx hn) (OldOk.app (by simp)) ?_ | refine c_call (all_c _ _ (sgL x) (FLz _ _ _ (by simp [hx])) (by simp; omega) _ s (hSs _) (by omega)) (OldOk.app (by simp)) ?_ | fail))
    | refine m44 ?_
    | refine m40 ?_
    | (refine gk_nilN (by (conv => {lhs; simp only [List.nil_append, List.cons_append]}); done) ?_; first | refine ⟨by exact rfl, ?_⟩ | skip)
    | refine gk_nil ?_
    | (intro N' hN'; simp only [List.nil_append, List.cons_append] at hN'; subst hN')
    | (refine gateB ?_; (first | refine b_bln ?_ | refine b_blr ?_ | refine b_ble ?_ | refine m57 ?_ | fail))
    | (refine gateL ?_; (first | refine lp_n ?_ | refine lp_r ?_ | refine lp_e ?_ | fail))
    | (refine pr_k (by exact rfl) ?_; first | exact hK | (exfalso; first | omega | (simp_all; done) | (simp_all; omega)))
    | (refine gateQ ?_; refine m05 ?_)
    | (refine gateR ?_; (first | refine m04 ?_ | refine m02 ?_ | refine m03 ?_ | refine rk_nil ?_ | fail))
    | intro _)
  all_goals first
    | (exfalso; contradiction)
    | (exfalso; omega)
    | (refine rv_old (by simp) (by simp [mx, mxL, mxL_fl, resOne]) ?_; exact rfl)
    | (exfalso; simp_all; done)
    | (exfalso; simp_all; omega)

set_option maxHeartbeats 4000000 in
theorem rx_3ff (H : List (List AV)) (mid : Nat) (hb : mid < H.length) (n : Nat) (hn1 : 1 ≤ n) (hn : n ≤ 64) (est : Nat) (V S : AV) (hV : mx V = 0) (hS : mx S = 0) (j ct : Nat) (X : AV) (x : List Nat) (hX : ∀ H', FL H' X x) (hx : x.length = n) (s : List Nat) (hSs : ∀ H, FL H S s) (hsl : s.length ≤ 2 ^ 30) (ht : flt est (asumF x) = false) (hc : (sgL x = s ∨ (flt (asumF x) est || feq (asumF x) est) = true)) (H0 H' : List (List AV)) (h0 : H.set mid (mDc (n : Int) 3 est V S (j : Int) (ct : Int)) = H0) (h' : H.set mid (mDc (n : Int) 5 est V S (j : Int) (ct : Int)) = H') :
    CSpec Tryz.prog 57 [mP mid, X] H0 (.tup [.sl none n (fl (rml (yL n) n)), .int .i64 1]) H' := by
  subst h0 h'
  have hXl : slen X = some n := by have h9 := (hX []).len; rw [hx] at h9; exact h9
  refine .mk (fun args w => Tryz.call57 args w) (Spec.intro' (fn := Tryz.f57) Tryz.func57 rfl (by kernel_rfl) (by simp) false [54] (draw := drawX Tryz.prog ⟨false, _, [54]⟩) dOk ?_)
  simp only [argE, Nat.reduceAdd]
  repeat' (first
    | (refine gateE ?_; (first | refine b_c0 ?_ | refine b_nil ?_ | refine m13 ?_ | refine m12 ?_ | refine m11 ?_ | (refine m10 ?_; (first | refine g_TT ?_ | refine g_FF ?_ | refine g_TF ?_ | refine g_FT ?_ | refine g_PT ?_ ?_ | refine g_PF ?_ ?_ | refine g_BT ?_ ?_ | refine g_BF ?_ ?_ | fail)) | (refine m09 ?_; (first | refine g_TT ?_ | refine g_FF ?_ | refine g_TF ?_ | refine g_FT ?_ | refine g_PT ?_ ?_ | refine g_PF ?_ ?_ | refine g_BT ?_ ?_ | refine g_BF ?_ ?_ | fail)) | refine m38 ?_ | fail))
    | (refine gateO ?_; (first | refine m14 ?_ | (refine m17 ?_; first | refine m19 ?_ | refine m18 ?_) | (refine m07 ?_; (first | refine m15 ?_ | refine m16 ?_ | refine l_mM hb (by exact rfl) (by exact rfl) ?_ | fail)) | refine b_nilC (by (conv => {lhs; whnf}); done) ?_ | refine b_stM (by (conv => {lhs; whnf}); done) (by (conv => {lhs; whnf}); done) (by exact rfl) hb (by exact rfl) (by decide) (by first | exact (by exact rfl) | simp only [mx, mxL_fl]) (by exact rfl) ?_ | refine b_lenA (by (conv => {lhs; whnf}); done) (by exact hXl) ?_ | (refine m45 ?_; (first | refine v_bbT (by exact rfl) ?_ | refine v_k ?_ | fail)) | (refine m00 ?_; (first | refine m52 ?_ | refine m53 ?_ | refine v_eP ?_ | refine m54 ?_ | refine m55 ?_ | refine v_neP ?_ | refine m47 ?_ | refine m48 ?_ | refine m49 ?_ | refine m50 ?_ | refine v_k ?_ | refine m51 ?_ | fail)) | (refine m22 ?_; (first | refine m26 ?_ | refine m27 ?_ | fail)) | refine m42 ?_ | refine b_assignI ?_ | refine b_assignN ?_ | refine m08 ?_ | refine b_callB ?_ | refine b_lenA (by (conv => {lhs; whnf}); done) (by first | rfl | assumption) ?_ | refine m23 ?_ | refine m25 ?_ | (refine m46 ?_; (first | refine m52 ?_ | refine m53 ?_ | refine v_eP ?_ | refine m54 ?_ | refine m55 ?_ | refine v_neP ?_ | refine m47 ?_ | refine m48 ?_ | refine m49 ?_ | refine m50 ?_ | refine v_k ?_ | refine m51 ?_ | fail)) | refine b_cnvF (by (conv => {lhs; whnf}); done) (by exact rfl) ?_ | refine b_cnvIF (by (conv => {lhs; whnf}); done) ?_ | refine b_bslZ (by exact rfl) (by exact rfl) (by decide) ?_ | fail))
    | (refine gateD ?_; (first | refine m36 ?_ | refine d_nil ?_ | refine m32 ?_ | refine m31 ?_ | refine m30 ?_ | (refine m28 ?_; (first | refine dg_TT ?_ | refine dg_FF ?_ | refine dg_TF ?_ | refine dg_FT ?_ | refine dg_PT ?_ ?_ | refine dg_PF ?_ ?_ | refine dg_BT ?_ ?_ | refine dg_BF ?_ ?_ | fail)) | (refine m29 ?_; (first | refine dg_TT ?_ | refine dg_FF ?_ | refine dg_TF ?_ | refine dg_FT ?_ | refine dg_PT ?_ ?_ | refine dg_PF ?_ ?_ | refine dg_BT ?_ ?_ | refine dg_BF ?_ ?_ | fail)) | refine m37 ?_ | fail))
    | (refine gateC ?_; (first | refine k_lt ?_ | refine k_fz ?_ | refine k_lb (by (conv => {lhs; whnf}); done) ?_ | refine k_ms ?_ | refine k_bx (by exact rfl) (by exact rfl) ?_ | refine m34 ?_ | refine m35 ?_ | refine m33 ?_ | refine k_mn ?_ | refine m56 ?_ | refine k_mnF ?_ | refine k_mnL (by exact rfl) ?_ | fail))
    | (refine gateT ?_; (first | refine b_thn ?_ | refine b_thr ?_ | refine b_the ?_ | fail))
    | (refine gateX ?_; (first | refine b_seq ?_ | refine b_region ?_ | (refine m06 ?_; (first | refine c_T ?_ | refine c_F ?_ | refine c_P ?_ ?_ | refine c_B ?_ ?_ | fail)) | refine b_ret ?_ | refine b_skip ?_ | refine b_block ?_ | refine b_exit ?_ | refine b_draw (id := 42) [] [] [(0, .lt), (1, .lt), (2, .lt), (3, .ld true), (5, .lt), (6, .lt), (7, .lt), (8, .lt), (9, .ld true), (10, .lt), (11, .ld true), (4, .mn true), (12, .mn true), (13, .ld true), (14, .lt), (15, .lt), (16, .lt), (17, .lt), (18, .ld true), (19, .lt), (20, .lt)] (by kernel_rfl) ?_ | fail))
    | refine m43 ?_
    | refine a_consI ?_
    | refine m21 ?_
    | refine a_nil ?_
    | (refine gateK ?_; (first | refine c_call (rasum_c _ X x (hX _) (by omega)) (OldOk.app (by simp)) ?_ | refine c_call (copy_z _ X x (hX _) n hx hn) (OldOk.app (by simp)) ?_ | refine c_call (rsign_n _ X x (hX _) n hx hn) (OldOk.app (by simp)) ?_ | refine c_call (all_c _ _ (sgL x) (FLz _ _ _ (by simp [hx])) (by simp; omega) _ s (hSs _) (by omega)) (OldOk.app (by simp)) ?_ | refine c_call (rfinal_c (H ++ []) mid (by simpa using hb) n hn1 hn _ _ _ _ (by first | assumption | simp only [mx, mxL_fl]) (by first | assumption | simp only [mx, mxL_fl]) _ _  _ _ (set_app0 hb _) (set_app0 hb _)) (OldOk.mdl (by simp) (mDc_mx (by first | assumption | simp only [mx, mxL_fl]) (by first | assumption | simp only [mx, mxL_fl]))) ?_ | fail))
    | refine m44 ?_
    | refine m40 ?_
    | (refine gk_nilN (by (conv => {lhs; simp only [List.nil_append, List.cons_append]}); done) ?_; first | refine ⟨by exact rfl, ?_⟩ | skip)
    | refine gk_nil ?_
    | (intro N' hN'; simp only [List.nil_append, List.cons_append] at hN'; subst hN')
    | (refine gateB ?_; (first | refine b_bln ?_ | refine b_blr ?_ | refine b_ble ?_ | refine m57 ?_ | fail))
    | (refine gateL ?_; (first | refine lp_n ?_ | refine lp_r ?_ | refine lp_e ?_ | fail))
    | (refine pr_k (by exact rfl) ?_; first | exact hK | (exfalso; first | omega | (simp_all; done) | (simp_all; omega)))
    | (refine gateQ ?_; refine m05 ?_)
    | (refine gateR ?_; (first | refine m04 ?_ | refine m02 ?_ | refine m03 ?_ | refine rk_nil ?_ | fail))
    | intro _)
  all_goals first
    | (exfalso; contradiction)
    | (exfalso; omega)
    | (refine rv_old (by simp) (by simp [mx, mxL, mxL_fl, resOne]) ?_; exact rfl)
    | (exfalso; simp_all; done)
    | (exfalso; simp_all; omega)

set_option maxHeartbeats 4000000 in
theorem rx_3sf (H : List (List AV)) (mid : Nat) (hb : mid < H.length) (n : Nat) (hn1 : 1 ≤ n) (hn : n ≤ 64) (est : Nat) (V S : AV) (hV : mx V = 0) (hS : mx S = 0) (j ct : Nat) (X : AV) (x : List Nat) (hX : ∀ H', FL H' X x) (hx : x.length = n) (s : List Nat) (hSs : ∀ H, FL H S s) (hsl : s.length ≤ 2 ^ 30) (ht : flt est (asumF x) = false) (hc : ¬ (sgL x = s ∨ (flt (asumF x) est || feq (asumF x) est) = true)) (H0 H' : List (List AV)) (h0 : H.set mid (mDc (n : Int) 3 est V S (j : Int) (ct : Int)) = H0) (h' : H.set mid (mDc (n : Int) 4 est V (.sl none n (fl (sgL x))) (j : Int) (ct : Int)) = H') :
    CSpec Tryz.prog 57 [mP mid, X] H0 (.tup [.sl none n (fl (sgL x)), .int .i64 2]) H' := by
  subst h0 h'
  have hXl : slen X = some n := by have h9 := (hX []).len; rw [hx] at h9; exact h9
  refine .mk (fun args w => Tryz.call57 args w) (Spec.intro' (fn := Tryz.f57) Tryz.func57 rfl (by kernel_rfl) (by simp) false [54] (draw := drawX Tryz.prog ⟨false, _, [54]⟩) dOk ?_)
  simp only [argE, Nat.reduceAdd]
  repeat' (first
    | (refine gateE ?_; (first | refine b_c0 ?_ | refine b_nil ?_ | refine m13 ?_ | refine m12 ?_ | refine m11 ?_ | (refine m10 ?_; (first | refine g_TT ?_ | refine g_FF ?_ | refine g_TF ?_ | refine g_FT ?_ | refine g_PT ?_ ?_ | refine g_PF ?_ ?_ | refine g_BT ?_ ?_ | refine g_BF ?_ ?_ | fail)) | (refine m09 ?_; (first | refine g_TT ?_ | refine g_FF ?_ | refine g_TF ?_ | refine g_FT ?_ | refine g_PT ?_ ?_ | refine g_PF ?_ ?_ | refine g_BT ?_ ?_ | refine g_BF ?_ ?_ | fail)) | refine m38 ?_ | fail))
    | (refine gateO ?_; (first | refine m14 ?_ | (refine m17 ?_; first | refine m19 ?_ | refine m18 ?_) | (refine m07 ?_; (first | refine m15 ?_ | refine m16 ?_ | refine l_mM hb (by exact rfl) (by exact rfl) ?_ | fail)) | refine b_nilC (by (conv => {lhs; whnf}); done) ?_ | refine b_stM (by (conv => {lhs; whnf}); done) (by (conv => {lhs; whnf}); done) (by exact rfl) hb (by exact rfl) (by decide) (by first | exact (by exact rfl) | simp only [mx, mxL_fl]) (by exact rfl) ?_ | refine b_lenA (by (conv => {lhs; whnf}); done) (by exact hXl) ?_ | (refine m45 ?_; (first | refine v_bbT (by exact rfl) ?_ | refine v_k ?_ | fail)) | (refine m00 ?_; (first | refine m52 ?_ | refine m53 ?_ | refine v_eP ?_ | refine m54 ?_ | refine m55 ?_ | refine v_neP ?_ | refine m47 ?_ | refine m48 ?_ | refine m49 ?_ | refine m50 ?_ | refine v_k ?_ | refine m51 ?_ | fail)) | (refine m22 ?_; (first | refine m26 ?_ | refine m27 ?_ | fail)) | refine m42 ?_ | refine b_assignI ?_ | refine b_assignN ?_ | refine m08 ?_ | refine b_callB ?_ | refine b_lenA (by (conv => {lhs; whnf}); done) (by first | rfl | assumption) ?_ | refine m23 ?_ | refine m25 ?_ | (refine m46 ?_; (first | refine m52 ?_ | refine m53 ?_ | refine v_eP ?_ | refine m54 ?_ | refine m55 ?_ | refine v_neP ?_ | refine m47 ?_ | refine m48 ?_ | refine m49 ?_ | refine m50 ?_ | refine v_k ?_ | refine m51 ?_ | fail)) | refine b_cnvF (by (conv => {lhs; whnf}); done) (by exact rfl) ?_ | refine b_cnvIF (by (conv => {lhs; whnf}); done) ?_ | refine b_bslZ (by exact rfl) (by exact rfl) (by decide) ?_ | fail))
    | (refine gateD ?_; (first | refine m36 ?_ | refine d_nil ?_ | refine m32 ?_ | refine m31 ?_ | refine m30 ?_ | (refine m28 ?_; (first | refine dg_TT ?_ | refine dg_FF ?_ | refine dg_TF ?_ | refine dg_FT ?_ | refine dg_PT ?_ ?_ | refine dg_PF ?_ ?_ | refine dg_BT ?_ ?_ | refine dg_BF ?_ ?_ | fail)) | (refine m29 ?_; (first | refine dg_TT ?_ | refine dg_FF ?_ | refine dg_TF ?_ | refine dg_FT ?_ | refine dg_PT ?_ ?_ | refine dg_PF ?_ ?_ | refine dg_BT ?_ ?_ | refine dg_BF ?_ ?_ | fail)) | refine m37 ?_ | fail))
    | (refine gateC ?_; (first | refine k_lt ?_ | refine k_fz ?_ | refine k_lb (by (conv => {lhs; whnf}); done) ?_ | refine k_ms ?_ | refine k_bx (by exact rfl) (by exact rfl) ?_ | refine m34 ?_ | refine m35 ?_ | refine m33 ?_ | refine k_mn ?_ | refine m56 ?_ | refine k_mnF ?_ | refine k_mnL (by exact rfl) ?_ | fail))
    | (refine gateT ?_; (first | refine b_thn ?_ | refine b_thr ?_ | refine b_the ?_ | fail))
    | (refine gateX ?_; (first | refine b_seq ?_ | refine b_region ?_ | (refine m06 ?_; (first | refine c_T ?_ | refine c_F ?_ | refine c_P ?_ ?_ | refine c_B ?_ ?_ | fail)) | refine b_ret ?_ | refine b_skip ?_ | refine b_block ?_ | refine b_exit ?_ | refine b_draw (id := 42) [] [] [(0, .lt), (1, .lt), (2, .lt), (3, .ld true), (5, .lt), (6, .lt), (7, .lt), (8, .lt), (9, .ld true), (10, .lt), (11, .ld true), (4, .mn true), (12, .mn true), (13, .ld true), (14, .lt), (15, .lt), (16, .lt), (17, .lt), (18, .ld true), (19, .lt), (20, .lt)] (by kernel_rfl) ?_ | fail))
    | refine m43 ?_
    | refine a_consI ?_
    | refine m21 ?_
    | refine a_nil ?_
    | (refine gateK ?_; (first | refine c_call (rasum_c _ X x (hX _) (by omega)) (OldOk.app (by simp)) ?_ | refine c_call (copy_z _ X x (hX _) n hx hn) (OldOk.app (by simp)) ?_ | refine c_call (copy_z _ (.sl none n (fl (sgL x))) (sgL x) (FLz _ _ _ (by simp [hx])) n (by simp [hx]) hn) (OldOk.app (by simp)) ?_ | refine c_call (rsign_n _ X x (hX _) n hx hn) (OldOk.app (by simp)) ?_ | refine c_call (all_c _ _ (sgL x) (FLz _ _ _ (by simp [hx])) (by simp; omega) _ s (hSs _) (by omega)) (OldOk.app (by simp)) ?_ | fail))
    | refine m44 ?_
    | refine m40 ?_
    | (refine gk_nilN (by (conv => {lhs; simp only [List.nil_append, List.cons_append]}); done) ?_; first | refine ⟨by exact rfl, ?_⟩ | skip)
    | refine gk_nil ?_
    | (intro N' hN'; simp only [List.nil_append, List.cons_append] at hN'; subst hN')
    | (refine gateB ?_; (first | refine b_bln ?_ | refine b_blr ?_ | refine b_ble ?_ | refine m57 ?_ | fail))
    | (refine gateL ?_; (first | refine lp_n ?_ | refine lp_r ?_ | refine lp_e ?_ | fail))
    | (refine pr_k (by exact rfl) ?_; first | exact hK | (exfalso; first | omega | (simp_all; done) | (simp_all; omega)))
    | (refine gateQ ?_; refine m05 ?_)
    | (refine gateR ?_; (first | refine m04 ?_ | refine m02 ?_ | refine m03 ?_ | refine rk_nil ?_ | fail))
    | intro _)
  all_goals first
    | (exfalso; contradiction)
    | (exfalso; omega)
    | (refine rv_old (by simp) (by simp [mx, mxL, mxL_fl, resOne]) ?_; exact rfl)
    | (exfalso; simp_all; done)
    | (exfalso; simp_all; omega)

set_option maxHeartbeats 4000000 in
theorem rx_4u (H : List (List AV)) (mid : Nat) (hb : mid < H.length) (n : Nat) (hn1 : 1 ≤ n) (hn : n ≤ 64) (est : Nat) (V S : AV) (hV : mx V = 0) (hS : mx S = 0) (j ct : Nat) (X : AV) (x : List Nat) (hX : ∀ H', FL H' X x) (hx : x.length = n) (hj : j < n) (hc : (feq (absF (x.getD j 0)) (absF (x.getD (moN x n) 0)) = false ∧ ct < 5)) (H0 H' : List (List AV)) (h0 : H.set mid (mDc (n : Int) 4 est V S (j : Int) (ct : Int)) = H0) (h' : H.set mid (mDc (n : Int) 3 est V S (moN x n : Int) ((ct + 1 : Nat) : Int)) = H') :
    CSpec Tryz.prog 57 [mP mid, X] H0 (.tup [.sl none n (fl (rml (yU (moN x n)) n)), .int .i64 1]) H' := by
  subst h0 h'
  have hXl : slen X = some n := by have h9 := (hX []).len; rw [hx] at h9; exact h9
  have hmo : moN x n < n := by have h9 := moN_lt x n (by omega); exact h9
  refine .mk (fun args w => Tryz.call57 args w) (Spec.intro' (fn := Tryz.f57) Tryz.func57 rfl (by kernel_rfl) (by simp) false [54] (draw := drawX Tryz.prog ⟨false, _, [54]⟩) dOk ?_)
  simp only [argE, Nat.reduceAdd]
  repeat' (first
    | (refine gateE ?_; (first | refine b_c0 ?_ | refine b_nil ?_ | refine m13 ?_ | refine m12 ?_ | refine m11 ?_ | (refine m10 ?_; (first | refine g_TT ?_ | refine g_FF ?_ | refine g_TF ?_ | refine g_FT ?_ | refine g_PT ?_ ?_ | refine g_PF ?_ ?_ | refine g_BT ?_ ?_ | refine g_BF ?_ ?_ | fail)) | (refine m09 ?_; (first | refine g_TT ?_ | refine g_FF ?_ | refine g_TF ?_ | refine g_FT ?_ | refine g_PT ?_ ?_ | refine g_PF ?_ ?_ | refine g_BT ?_ ?_ | refine g_BF ?_ ?_ | fail)) | refine m38 ?_ | fail))
    | (refine gateO ?_; (first | refine m14 ?_ | (refine m17 ?_; first | refine m19 ?_ | refine m18 ?_) | (refine m07 ?_; (first | refine m15 ?_ | refine m16 ?_ | refine l_mM hb (by exact rfl) (by exact rfl) ?_ | refine l_FL (hX _) (by omega) ?_ | fail)) | refine b_nilC (by (conv => {lhs; whnf}); done) ?_ | refine b_stM (by (conv => {lhs; whnf}); done) (by (conv => {lhs; whnf}); done) (by exact rfl) hb (by exact rfl) (by decide) (by first | exact (by exact rfl) | simp only [mx, mxL_fl]) (by exact rfl) ?_ | refine b_lenA (by (conv => {lhs; whnf}); done) (by exact hXl) ?_ | refine b_iaN (by (conv => {lhs; whnf}); done) (by (conv => {lhs; whnf}); done) (by exact hXl) (by omega) ?_ | (refine m45 ?_; (first | refine v_bbT (by exact rfl) ?_ | refine v_k ?_ | fail)) | (refine m00 ?_; (first | refine m52 ?_ | refine m53 ?_ | refine v_eP ?_ | refine m54 ?_ | refine m55 ?_ | refine v_neP ?_ | refine m47 ?_ | refine m48 ?_ | refine m49 ?_ | refine m50 ?_ | refine v_k ?_ | refine m51 ?_ | fail)) | (refine m22 ?_; (first | refine m26 ?_ | refine m27 ?_ | fail)) | refine m42 ?_ | refine b_assignI ?_ | refine b_assignN ?_ | refine m08 ?_ | refine b_callB ?_ | refine b_lenA (by (conv => {lhs; whnf}); done) (by first | rfl | assumption) ?_ | refine m23 ?_ | refine m25 ?_ | (refine m46 ?_; (first | refine m52 ?_ | refine m53 ?_ | refine v_eP ?_ | refine m54 ?_ | refine m55 ?_ | refine v_neP ?_ | refine m47 ?_ | refine m48 ?_ | refine m49 ?_ | refine m50 ?_ | refine v_k ?_ | refine m51 ?_ | fail)) | refine b_cnvF (by (conv => {lhs; whnf}); done) (by exact rfl) ?_ | refine b_cnvIF (by (conv => {lhs; whnf}); done) ?_ | refine b_bslZ (by exact rfl) (by exact rfl) (by decide) ?_ | fail))
    | (refine gateD ?_; (first | refine m36 ?_ | refine d_nil ?_ | refine m32 ?_ | refine m31 ?_ | refine m30 ?_ | (refine m28 ?_; (first | refine dg_TT ?_ | refine dg_FF ?_ | refine dg_TF ?_ | refine dg_FT ?_ | refine dg_PT ?_ ?_ | refine dg_PF ?_ ?_ | refine dg_BT ?_ ?_ | refine dg_BF ?_ ?_ | fail)) | (refine m29 ?_; (first | refine dg_TT ?_ | refine dg_FF ?_ | refine dg_TF ?_ | refine dg_FT ?_ | refine dg_PT ?_ ?_ | refine dg_PF ?_ ?_ | refine dg_BT ?_ ?_ | refine dg_BF ?_ ?_ | fail)) | refine m37 ?_ | fail))
    | (refine gateC ?_; (first | refine k_lt ?_ | refine k_fz ?_ | refine k_lb (by (conv => {lhs; whnf}); done) ?_ | refine k_ms ?_ | refine k_bx (by exact rfl) (by exact rfl) ?_ | refine m34 ?_ | refine m35 ?_ | refine m33 ?_ | refine k_mn ?_ | refine m56 ?_ | refine k_mnF ?_ | refine k_mnL (by exact rfl) ?_ | fail))
    | (refine gateT ?_; (first | refine b_thn ?_ | refine b_thr ?_ | refine b_the ?_ | fail))
    | (refine gateX ?_; (first | refine b_seq ?_ | refine b_region ?_ | (refine m06 ?_; (first | refine c_T ?_ | refine c_F ?_ | refine c_P ?_ ?_ | refine c_B ?_ ?_ | fail)) | refine b_ret ?_ | refine b_skip ?_ | refine b_block ?_ | refine b_exit ?_ | refine b_draw (id := 42) [] [] [(0, .lt), (1, .lt), (2, .lt), (3, .ld true), (5, .lt), (6, .lt), (7, .lt), (8, .lt), (9, .ld true), (10, .lt), (11, .ld true), (4, .mn true), (12, .mn true), (13, .ld true), (14, .lt), (15, .lt), (16, .lt), (17, .lt), (18, .ld true), (19, .lt), (20, .lt)] (by kernel_rfl) ?_ | fail))
    | refine m43 ?_
    | refine a_consI ?_
    | refine m21 ?_
    | refine a_nil ?_
    | (refine gateK ?_; (first | refine c_call (rasum_c _ X x (hX _) (by omega)) (OldOk.app (by simp)) ?_ | refine c_call (rmost_n _ X x (hX _) n hx hn1 hn) (OldOk.app (by simp)) ?_ | refine c_call (rabs_c _ _) (OldOk.app (by simp)) ?_ | refine c_call (runit_c (H ++ []) mid (by simpa using hb) n hn1 hn _ _ _ _ (by first | assumption | simp only [mx, mxL_fl]) (by first | assumption | simp only [mx, mxL_fl]) _ _ hmo _ _ (set_app0 hb _) (set_app0 hb _)) (OldOk.mdl (by simp) (mDc_mx (by first | assumption | simp only [mx, mxL_fl]) (by first | assumption | simp only [mx, mxL_fl]))) ?_ | fail))
    | refine m44 ?_
    | refine m40 ?_
    | (refine gk_nilN (by (conv => {lhs; simp only [List.nil_append, List.cons_append]}); done) ?_; first | refine ⟨by exact rfl, ?_⟩ | skip)
    | refine gk_nil ?_
    | (intro N' hN'; simp only [List.nil_append, List.cons_append] at hN'; subst hN')
    | (refine gateB ?_; (first | refine b_bln ?_ | refine b_blr ?_ | refine b_ble ?_ | refine m57 ?_ | fail))
    | (refine gateL ?_; (first | refine lp_n ?_ | refine lp_r ?_ | refine lp_e ?_ | fail))
    | (refine pr_k (by exact rfl) ?_; first | exact hK | (exfalso; first | omega | (simp_all; done) | (simp_all; omega)))
    | (refine gateQ ?_; refine m05 ?_)
    | (refine gateR ?_; (first | refine m04 ?_ | refine m02 ?_ | refine m03 ?_ | refine rk_nil ?_ | fail))
    | intro _)
  all_goals first
    | (exfalso; contradiction)
    | (exfalso; omega)
    | (refine rv_old (by simp) (by simp [mx, mxL, mxL_fl, resOne]) ?_; exact rfl)
    | (exfalso; simp_all; done)
    | (exfalso; simp_all; omega)

set_option maxHeartbeats 4000000 in
theorem rx_4f (H : List (List AV)) (mid : Nat) (hb : mid < H.length) (n : Nat) (hn1 : 1 ≤ n) (hn : n ≤ 64) (est : Nat) (V S : AV) (hV : mx V = 0) (hS : mx S = 0) (j ct : Nat) (X : AV) (x : List Nat) (hX : ∀ H', FL H' X x) (hx : x.length = n) (hj : j < n) (hc : ¬ (feq (absF (x.getD j 0)) (absF (x.getD (moN x n) 0)) = false ∧ ct < 5)) (H0 H' : List (List AV)) (h0 : H.set mid (mDc (n : Int) 4 est V S (j : Int) (ct : Int)) = H0) (h' : H.set mid (mDc (n : Int) 5 est V S (moN x n : Int) (ct : Int)) = H') :
    CSpec Tryz.prog 57 [mP mid, X] H0 (.tup [.sl none n (fl (rml (yL n) n)), .int .i64 1]) H' := by
  subst h0 h'
  have hXl : slen X = some n := by have h9 := (hX []).len; rw [hx] at h9; exact h9
  have hmo : moN x n < n := by have h9 := moN_lt x n (by omega); exact h9
  refine .mk (fun args w => Tryz.call57 args w) (Spec.intro' (fn := Tryz.f57) Tryz.func57 rfl (by kernel_rfl) (by simp) false [54] (draw := drawX Tryz.prog ⟨false, _, [54]⟩) dOk ?_)
  simp only [argE, Nat.reduceAdd]
  repeat' (first
    | (refine gateE ?_; (first | refine b_c0 ?_ | refine b_nil ?_ | refine m13 ?_ | refine m12 ?_ | refine m11 ?_ | (refine m10 ?_; (first | refine g_TT ?_ | refine g_FF ?_ | refine g_TF ?_ | refine g_FT ?_ | refine g_PT ?_ ?_ | refine g_PF ?_ ?_ | refine g_BT ?_ ?_ | refine g_BF ?_ ?_ | fail)) | (refine m09 ?_; (first | refine g_TT ?_ | refine g_FF ?_ | refine g_TF ?_ | refine g_FT ?_ | refine g_PT ?_ ?_ | refine g_PF ?_ ?_ | refine g_BT ?_ ?_ | refine g_BF ?_ ?_ | fail)) | refine m38 ?_ | fail))
    | (refine gateO ?_; (first | refine m14 ?_ | (refine m17 ?_; first | refine m19 ?_ | refine m18 ?_) | (refine m07 ?_; (first | refine m15 ?_ | refine m16 ?_ | refine l_mM hb (by exact rfl) (by exact rfl) ?_ | refine l_FL (hX _) (by omega) ?_ | fail)) | refine b_nilC (by (conv => {lhs; whnf}); done) ?_ | refine b_stM (by (conv => {lhs; whnf}); done) (by (conv => {lhs; whnf}); done) (by exact rfl) hb (by exact rfl) (by decide) (by first | exact (by exact rfl) | simp only [mx, mxL_fl]) (by exact rfl) ?_ | refine b_lenA (by (conv => {lhs; whnf}); done) (by exact hXl) ?_ | refine b_iaN (by (conv => {lhs; whnf}); done) (by (conv => {lhs; whnf}); done) (by exact hXl) (by omega) ?_ | (refine m45 ?_; (first | refine v_bbT (by exact rfl) ?_ | refine v_k ?_ | fail)) | (refine m00 ?_; (first | refine m52 ?_ | refine m53 ?_ | refine v_eP ?_ | refine m54 ?_ | refine m55 ?_ | refine v_neP ?_ | refine m47 ?_ | refine m48 ?_ | refine m49 ?_ | refine m50 ?_ | refine v_k ?_ | refine m51 ?_ | fail)) | (refine m22 ?_; (first | refine m26 ?_ | refine m27 ?_ | fail)) | refine m42 ?_ | refine b_assignI ?_ | refine b_assignN ?_ | refine m08 ?_ | refine b_callB ?_ | refine b_lenA (by (conv => {lhs; whnf}); done) (by first | rfl | assumption) ?_ | refine m23 ?_ | refine m25 ?_ | (refine m46 ?_; (first | refine m52 ?_ | refine m53 ?_ | refine v_eP ?_ | refine m54 ?_ | refine m55 ?_ | refine v_neP ?_ | refine m47 ?_ | refine m48 ?_ | refine m49 ?_ | refine m50 ?_ | refine v_k ?_ | refine m51 ?_ | fail)) | refine b_cnvF (by (conv => {lhs; whnf}); done) (by exact rfl) ?_ | refine b_cnvIF (by (conv => {lhs; whnf}); done) ?_ | refine b_bslZ (by exact rfl) (by exact rfl) (by decide) ?_ | fail))
    | (refine gateD ?_; (first | refine m36 ?_ | refine d_nil ?_ | refine m32 ?_ | refine m31 ?_ | refine m30 ?_ | (refine m28 ?_; (first | refine dg_TT ?_ | refine dg_FF ?_ | refine dg_TF ?_ | refine dg_FT ?_ | refine dg_PT ?_ ?_ | refine dg_PF ?_ ?_ | refine dg_BT ?_ ?_ | refine dg_BF ?_ ?_ | fail)) | (refine m29 ?_; (first | refine dg_TT ?_ | refine dg_FF ?_ | refine dg_TF ?_ | refine dg_FT ?_ | refine dg_PT ?_ ?_ | refine dg_PF ?_ ?_ | refine dg_BT ?_ ?_ | refine dg_BF ?_ ?_ | fail)) | refine m37 ?_ | fail))
    | (refine gateC ?_; (first | refine k_lt ?_ | refine k_fz ?_ | refine k_lb (by (conv => {lhs; whnf}); done) ?_ | refine k_ms ?_ | refine k_bx (by exact rfl) (by exact rfl) ?_ | refine m34 ?_ | refine m35 ?_ | refine m33 ?_ | refine k_mn ?_ | refine m56 ?_ | refine k_mnF ?_ | refine k_mnL (by exact rfl) ?_ | fail))
    | (refine gateT ?_; (first | refine b_thn ?_ | refine b_thr ?_ | refine b_the ?_ | fail))
    | (refine gateX ?_; (first | refine b_seq ?_ | refine b_region ?_ | (refine m06 ?_; (first | refine c_T ?_ | refine c_F ?_ | refine c_P ?_ ?_ | refine c_B ?_ ?_ | fail)) | refine b_ret ?_ | refine b_skip ?_ | refine b_block ?_ | refine b_exit ?_ | refine b_draw (id := 42) [] [] [(0, .lt), (1, .lt), (2, .lt), (3, .ld true), (5, .lt), (6, .lt), (7, .lt), (8, .lt), (9, .ld true), (10, .lt), (11, .ld true), (4, .mn true), (12, .mn true), (13, .ld true), (14, .lt), (15, .lt), (16, .lt), (17, .lt), (18, .ld true), (19, .lt), (20, .lt)] (by kernel_rfl) ?_ | fail))
    | refine m43 ?_
    | refine a_consI ?_
    | refine m21 ?_
    | refine a_nil ?_
    | (refine gateK ?_; (first | refine c_call (rasum_c _ X x (hX _) (by omega)) (OldOk.app (by simp)) ?_ | refine c_call (rmost_n _ X x (hX _) n hx hn1 hn) (OldOk.app (by simp)) ?_ | refine c_call (rabs_c _ _) (OldOk.app (by simp)) ?_ | refine c_call (rfinal_c (H ++ []) mid (by simpa using hb) n hn1 hn _ _ _ _ (by first | assumption | simp only [mx, mxL_fl]) (by first | assumption | simp only [mx, mxL_fl]) _ _  _ _ (set_app0 hb _) (set_app0 hb _)) (OldOk.mdl (by simp) (mDc_mx (by first | assumption | simp only [mx, mxL_fl]) (by first | assumption | simp only [mx, mxL_fl]))) ?_ | fail))
    | refine m44 ?_
    | refine m40 ?_
    | (refine gk_nilN (by (conv => {lhs; simp only [List.nil_append, List.cons_append]}); done) ?_; first | refine ⟨by exact rfl, ?_⟩ | skip)
    | refine gk_nil ?_
    | (intro N' hN'; simp only [List.nil_append, List.cons_append] at hN'; subst hN')
    | (refine gateB ?_; (first | refine b_bln ?_ | refine b_blr ?_ | refine b_ble ?_ | refine m57 ?_ | fail))
    | (refine gateL ?_; (first | refine lp_n ?_ | refine lp_r ?_ | refine lp_e ?_ | fail))
    | (refine pr_k (by exact rfl) ?_; first | exact hK | (exfalso; first | omega | (simp_all; done) | (simp_all; omega)))
    | (refine gateQ ?_; refine m05 ?_)
    | (refine gateR ?_; (first | refine m04 ?_ | refine m02 ?_ | refine m03 ?_ | refine rk_nil ?_ | fail))
    | intro _)
  all_goals first
    | (exfalso; exact hc ⟨by simpa using ‹(!feq (absF (x.getD j 0)) (absF (x.getD (moN x n) 0))) = true›, by omega⟩)
    | (exfalso; contradiction)
    | (exfalso; omega)
    | (refine rv_old (by simp) (by simp [mx, mxL, mxL_fl, resOne]) ?_; exact rfl)
    | (exfalso; simp_all; done)
    | (exfalso; simp_all; omega)

set_option maxHeartbeats 4000000 in
theorem rx_5t (H : List (List AV)) (mid : Nat) (hb : mid < H.length) (n : Nat) (hn1 : 1 ≤ n) (hn : n ≤ 64) (est : Nat) (V S : AV) (hV : mx V = 0) (hS : mx S = 0) (j ct : Nat) (X : AV) (x : List Nat) (hX : ∀ H', FL H' X x) (hx : x.length = n) (ht : flt est (t5 n (asumF x)) = true) (H0 H' : List (List AV)) (h0 : H.set mid (mDc (n : Int) 5 est V S (j : Int) (ct : Int)) = H0) (h' : H.set mid (mDc (n : Int) 6 (t5 n (asumF x)) (.sl none n (fl x)) S (j : Int) (ct : Int)) = H') :
    CSpec Tryz.prog 57 [mP mid, X] H0 (.tup [.slnil, .int .i64 0]) H' := by
  subst h0 h'
  have hXl : slen X = some n := by have h9 := (hX []).len; rw [hx] at h9; exact h9
  have hT5 : fmul 4611686018427387904 (fdiv (asumF x) (cn (FloatKind.f64.nearest (3 * (n : Int))))) = t5 n (asumF x) := rfl
  refine .mk (fun args w => Tryz.call57 args w) (Spec.intro' (fn := Tryz.f57) Tryz.func57 rfl (by kernel_rfl) (by simp) false [54] (draw := drawX Tryz.prog ⟨false, _, [54]⟩) dOk ?_)
  simp only [argE, Nat.reduceAdd]
  repeat' (first
    | (refine gateE ?_; (first | refine b_c0 ?_ | refine b_nil ?_ | refine m13 ?_ | refine m12 ?_ | refine m11 ?_ | (refine m10 ?_; (first | refine g_TT ?_ | refine g_FF ?_ | refine g_TF ?_ | refine g_FT ?_ | refine g_PT ?_ ?_ | refine g_PF ?_ ?_ | refine g_BT ?_ ?_ | refine g_BF ?_ ?_ | fail)) | (refine m09 ?_; (first | refine g_TT ?_ | refine g_FF ?_ | refine g_TF ?_ | refine g_FT ?_ | refine g_PT ?_ ?_ | refine g_PF ?_ ?_ | refine g_BT ?_ ?_ | refine g_BF ?_ ?_ | fail)) | refine m38 ?_ | fail))
    | (refine gateO ?_; (first | refine m14 ?_ | (refine m17 ?_; first | refine m19 ?_ | refine m18 ?_) | (refine m07 ?_; (first | refine m15 ?_ | refine m16 ?_ | refine l_mM hb (by exact rfl) (by exact rfl) ?_ | fail)) | refine b_nilC (by (conv => {lhs; whnf}); done) ?_ | refine b_stM (by (conv => {lhs; whnf}); done) (by (conv => {lhs; whnf}); done) (by exact rfl) hb (by exact rfl) (by decide) (by first | exact (by exact rfl) | simp only [mx, mxL_fl]) (by exact rfl) ?_ | refine b_lenA (by (conv => {lhs; whnf}); done) (by exact hXl) ?_ | (refine m45 ?_; (first | refine v_bbT (by exact rfl) ?_ | refine v_k ?_ | fail)) | (refine m00 ?_; (first | refine m52 ?_ | refine m53 ?_ | refine v_eP ?_ | refine m54 ?_ | refine m55 ?_ | refine v_neP ?_ | refine m47 ?_ | refine m48 ?_ | refine m49 ?_ | refine m50 ?_ | refine v_k ?_ | refine m51 ?_ | fail)) | (refine m22 ?_; (first | refine m26 ?_ | refine m27 ?_ | fail)) | refine m42 ?_ | refine b_assignI ?_ | refine b_assignN ?_ | refine m08 ?_ | refine b_callB ?_ | refine b_lenA (by (conv => {lhs; whnf}); done) (by first | rfl | assumption) ?_ | refine m23 ?_ | refine m25 ?_ | (refine m46 ?_; (first | refine m52 ?_ | refine m53 ?_ | refine v_eP ?_ | refine m54 ?_ | refine m55 ?_ | refine v_neP ?_ | refine m47 ?_ | refine m48 ?_ | refine m49 ?_ | refine m50 ?_ | refine v_k ?_ | refine m51 ?_ | fail)) | refine b_cnvF (by (conv => {lhs; whnf}); done) (by exact rfl) ?_ | refine b_cnvIF (by (conv => {lhs; whnf}); done) ?_ | refine b_bslZ (by exact rfl) (by exact rfl) (by decide) ?_ | fail))
    | (refine gateD ?_; (first | refine m36 ?_ | refine d_nil ?_ | refine m32 ?_ | refine m31 ?_ | refine m30 ?_ | (refine m28 ?_; (first | refine dg_TT ?_ | refine dg_FF ?_ | refine dg_TF ?_ | refine dg_FT ?_ | refine dg_PT ?_ ?_ | refine dg_PF ?_ ?_ | refine dg_BT ?_ ?_ | refine dg_BF ?_ ?_ | fail)) | (refine m29 ?_; (first | refine dg_TT ?_ | refine dg_FF ?_ | refine dg_TF ?_ | refine dg_FT ?_ | refine dg_PT ?_ ?_ | refine dg_PF ?_ ?_ | refine dg_BT ?_ ?_ | refine dg_BF ?_ ?_ | fail)) | refine m37 ?_ | fail))
    | (refine gateC ?_; (first | refine k_lt ?_ | refine k_fz ?_ | refine k_lb (by (conv => {lhs; whnf}); done) ?_ | refine k_ms ?_ | refine k_bx (by exact rfl) (by exact rfl) ?_ | refine m34 ?_ | refine m35 ?_ | refine m33 ?_ | refine k_mn ?_ | refine m56 ?_ | refine k_mnF ?_ | refine k_mnL (by exact rfl) ?_ | fail))
    | (refine gateT ?_; (first | refine b_thn ?_ | refine b_thr ?_ | refine b_the ?_ | fail))
    | (refine gateX ?_; (first | refine b_seq ?_ | refine b_region ?_ | (refine m06 ?_; (first | refine c_T ?_ | refine c_F ?_ | refine c_P ?_ ?_ | refine c_B ?_ ?_ | fail)) | refine b_ret ?_ | refine b_skip ?_ | refine b_block ?_ | refine b_exit ?_ | refine b_draw (id := 42) [] [] [(0, .lt), (1, .lt), (2, .lt), (3, .ld true), (5, .lt), (6, .lt), (7, .lt), (8, .lt), (9, .ld true), (10, .lt), (11, .ld true), (4, .mn true), (12, .mn true), (13, .ld true), (14, .lt), (15, .lt), (16, .lt), (17, .lt), (18, .ld true), (19, .lt), (20, .lt)] (by kernel_rfl) ?_ | fail))
    | refine m43 ?_
    | refine a_consI ?_
    | refine m21 ?_
    | refine a_nil ?_
    | (refine gateK ?_; (first | refine c_call (rasum_c _ X x (hX _) (by omega)) (OldOk.app (by simp)) ?_ | refine c_call (copy_z _ X x (hX _) n hx hn) (OldOk.app (by simp)) ?_ | refine c_call (rover_c _ _ _) (OldOk.app (by simp)) ?_ | refine c_call (times_c _ _ _) (OldOk.app (by simp)) ?_ | fail))
    | refine m44 ?_
    | refine m40 ?_
    | (refine gk_nilN (by (conv => {lhs; simp only [List.nil_append, List.cons_append]}); done) ?_; first | refine ⟨by exact rfl, ?_⟩ | skip)
    | refine gk_nil ?_
    | (intro N' hN'; simp only [List.nil_append, List.cons_append] at hN'; subst hN')
    | (refine gateB ?_; (first | refine b_bln ?_ | refine b_blr ?_ | refine b_ble ?_ | refine m57 ?_ | fail))
    | (refine gateL ?_; (first | refine lp_n ?_ | refine lp_r ?_ | refine lp_e ?_ | fail))
    | (refine pr_k (by exact rfl) ?_; first | exact hK | (exfalso; first | omega | (simp_all; done) | (simp_all; omega)))
    | (refine gateQ ?_; refine m05 ?_)
    | (refine gateR ?_; (first | refine m04 ?_ | refine m02 ?_ | refine m03 ?_ | refine rk_nil ?_ | fail))
    | intro _)
  all_goals first
    | (exfalso; contradiction)
    | (exfalso; omega)
    | (refine rv_old (by simp) (by simp [mx, mxL, mxL_fl, resOne]) ?_; exact rfl)
    | (exfalso; simp_all; done)
    | (exfalso; simp_all; omega)

set_option maxHeartbeats 4000000 in
theorem rx_5f (H : List (List AV)) (mid : Nat) (hb : mid < H.length) (n : Nat) (hn1 : 1 ≤ n) (hn : n ≤ 64) (est : Nat) (V S : AV) (hV : mx V = 0) (hS : mx S = 0) (j ct : Nat) (X : AV) (x : List Nat) (hX : ∀ H', FL H' X x) (hx : x.length = n) (ht : flt est (t5 n (asumF x)) = false) (H0 H' : List (List AV)) (h0 : H.set mid (mDc (n : Int) 5 est V S (j : Int) (ct : Int)) = H0) (h' : H.set mid (mDc (n : Int) 6 est V S (j : Int) (ct : Int)) = H') :
    CSpec Tryz.prog 57 [mP mid, X] H0 (.tup [.slnil, .int .i64 0]) H' := by
  subst h0 h'
  have hXl : slen X = some n := by have h9 := (hX []).len; rw [hx] at h9; exact h9
  have hT5 : fmul 4611686018427387904 (fdiv (asumF x) (cn (FloatKind.f64.nearest (3 * (n : Int))))) = t5 n (asumF x) := rfl
  refine .mk (fun args w => Tryz.call57 args w) (Spec.intro' (fn := Tryz.f57) Tryz.func57 rfl (by kernel_rfl) (by simp) false [54] (draw := drawX Tryz.prog ⟨false, _, [54]⟩) dOk ?_)
  simp only [argE, Nat.reduceAdd]
  repeat' (first
    | (refine gateE ?_; (first | refine b_c0 ?_ | refine b_nil ?_ | refine m13 ?_ | refine m12 ?_ | refine m11 ?_ | (refine m10 ?_; (first | refine g_TT ?_ | refine g_FF ?_ | refine g_TF ?_ | refine g_FT ?_ | refine g_PT ?_ ?_ | refine g_PF ?_ ?_ | refine g_BT ?_ ?_ | refine g_BF ?_ ?_ | fail)) | (refine m09 ?_; (first | refine g_TT ?_ | refine g_FF ?_ | refine g_TF ?_ | refine g_FT ?_ | refine g_PT ?_ ?_ | refine g_PF ?_ ?_ | refine g_BT ?_ ?_ | refine g_BF ?_ ?_ | fail)) | refine m38 ?_ | fail))
    | (refine gateO ?_; (first | refine m14 ?_ | (refine m17 ?_; first | refine m19 ?_ | refine m18 ?_) | (refine m07 ?_; (first | refine m15 ?_ | refine m16 ?_ | refine l_mM hb (by exact rfl) (by exact rfl) ?_ | fail)) | refine b_nilC (by (conv => {lhs; whnf}); done) ?_ | refine b_stM (by (conv => {lhs; whnf}); done) (by (conv => {lhs; whnf}); done) (by exact rfl) hb (by exact rfl) (by decide) (by first | exact (by exact rfl) | simp only [mx, mxL_fl]) (by exact rfl) ?_ | refine b_lenA (by (conv => {lhs; whnf}); done) (by exact hXl) ?_ | (refine m45 ?_; (first | refine v_bbT (by exact rfl) ?_ | refine v_k ?_ | fail)) | (refine m00 ?_; (first | refine m52 ?_ | refine m53 ?_ | refine v_eP ?_ | refine m54 ?_ | refine m55 ?_ | refine v_neP ?_ | refine m47 ?_ | refine m48 ?_ | refine m49 ?_ | refine m50 ?_ | refine v_k ?_ | refine m51 ?_ | fail)) | (refine m22 ?_; (first | refine m26 ?_ | refine m27 ?_ | fail)) | refine m42 ?_ | refine b_assignI ?_ | refine b_assignN ?_ | refine m08 ?_ | refine b_callB ?_ | refine b_lenA (by (conv => {lhs; whnf}); done) (by first | rfl | assumption) ?_ | refine m23 ?_ | refine m25 ?_ | (refine m46 ?_; (first | refine m52 ?_ | refine m53 ?_ | refine v_eP ?_ | refine m54 ?_ | refine m55 ?_ | refine v_neP ?_ | refine m47 ?_ | refine m48 ?_ | refine m49 ?_ | refine m50 ?_ | refine v_k ?_ | refine m51 ?_ | fail)) | refine b_cnvF (by (conv => {lhs; whnf}); done) (by exact rfl) ?_ | refine b_cnvIF (by (conv => {lhs; whnf}); done) ?_ | refine b_bslZ (by exact rfl) (by exact rfl) (by decide) ?_ | fail))
    | (refine gateD ?_; (first | refine m36 ?_ | refine d_nil ?_ | refine m32 ?_ | refine m31 ?_ | refine m30 ?_ | (refine m28 ?_; (first | refine dg_TT ?_ | refine dg_FF ?_ | refine dg_TF ?_ | refine dg_FT ?_ | refine dg_PT ?_ ?_ | refine dg_PF ?_ ?_ | refine dg_BT ?_ ?_ | refine dg_BF ?_ ?_ | fail)) | (refine m29 ?_; (first | refine dg_TT ?_ | refine dg_FF ?_ | refine dg_TF ?_ | refine dg_FT ?_ | refine dg_PT ?_ ?_ | refine dg_PF ?_ ?_ | refine dg_BT ?_ ?_ | refine dg_BF ?_ ?_ | fail)) | refine m37 ?_ | fail))
    | (refine gateC ?_; (first | refine k_lt ?_ | refine k_fz ?_ | refine k_lb (by (conv => {lhs; whnf}); done) ?_ | refine k_ms ?_ | refine k_bx (by exact rfl) (by exact rfl) ?_ | refine m34 ?_ | refine m35 ?_ | refine m33 ?_ | refine k_mn ?_ | refine m56 ?_ | refine k_mnF ?_ | refine k_mnL (by exact rfl) ?_ | fail))
    | (refine gateT ?_; (first | refine b_thn ?_ | refine b_thr ?_ | refine b_the ?_ | fail))
    | (refine gateX ?_; (first | refine b_seq ?_ | refine b_region ?_ | (refine m06 ?_; (first | refine c_T ?_ | refine c_F ?_ | refine c_P ?_ ?_ | refine c_B ?_ ?_ | fail)) | refine b_ret ?_ | refine b_skip ?_ | refine b_block ?_ | refine b_exit ?_ | refine b_draw (id := 42) [] [] [(0, .lt), (1, .lt), (2, .lt), (3, .ld true), (5, .lt), (6, .lt), (7, .lt), (8, .lt), (9, .ld true), (10, .lt), (11, .ld true), (4, .mn true), (12, .mn true), (13, .ld true), (14, .lt), (15, .lt), (16, .lt), (17, .lt), (18, .ld true), (19, .lt), (20, .lt)] (by kernel_rfl) ?_ | fail))
    | refine m43 ?_
    | refine a_consI ?_
    | refine m21 ?_
    | refine a_nil ?_
    | (refine gateK ?_; (first | refine c_call (rasum_c _ X x (hX _) (by omega)) (OldOk.app (by simp)) ?_ | refine c_call (copy_z _ X x (hX _) n hx hn) (OldOk.app (by simp)) ?_ | refine c_call (rover_c _ _ _) (OldOk.app (by simp)) ?_ | refine c_call (times_c _ _ _) (OldOk.app (by simp)) ?_ | fail))
    | refine m44 ?_
    | refine m40 ?_
    | (refine gk_nilN (by (conv => {lhs; simp only [List.nil_append, List.cons_append]}); done) ?_; first | refine ⟨by exact rfl, ?_⟩ | skip)
    | refine gk_nil ?_
    | (intro N' hN'; simp only [List.nil_append, List.cons_append] at hN'; subst hN')
    | (refine gateB ?_; (first | refine b_bln ?_ | refine b_blr ?_ | refine b_ble ?_ | refine m57 ?_ | fail))
    | (refine gateL ?_; (first | refine lp_n ?_ | refine lp_r ?_ | refine lp_e ?_ | fail))
    | (refine pr_k (by exact rfl) ?_; first | exact hK | (exfalso; first | omega | (simp_all; done) | (simp_all; omega)))
    | (refine gateQ ?_; refine m05 ?_)
    | (refine gateR ?_; (first | refine m04 ?_ | refine m02 ?_ | refine m03 ?_ | refine rk_nil ?_ | fail))
    | intro _)
  all_goals first
    | (exfalso; contradiction)
    | (exfalso; omega)
    | (refine rv_old (by simp) (by simp [mx, mxL, mxL_fl, resOne]) ?_; exact rfl)
    | (exfalso; simp_all; done)
    | (exfalso; simp_all; omega)


end Go.Sx
