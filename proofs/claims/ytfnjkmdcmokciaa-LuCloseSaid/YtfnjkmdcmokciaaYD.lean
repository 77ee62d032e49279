/- A part of the proofs of this seat: YD. No condition is set. -/
import Derived.Test.YtfnjkmdcmokciaaYA
import Derived.Test.YtfnjkmdcmokciaaYC
set_option linter.unusedVariables false
set_option linter.unusedSimpArgs false
set_option maxRecDepth 20000
namespace Go.Sx
open Go.Proofs

theorem eF_rng {a b : DV} (ha : -1099511627776 ≤ 16 * a.e ∧ 16 * a.e ≤ 1099511627776) (hb : -1099511627776 ≤ 16 * b.e ∧ 16 * b.e ≤ 1099511627776) : -68719476736 ≤ eF a b ∧ eF a b ≤ 68719476736 := by
  unfold eF; repeat' split
  all_goals omega
theorem eT_rng {a b : DV} (hal : a.l.length ≤ 2 ^ 20) (hbl : b.l.length ≤ 2 ^ 20) (ha : -1099511627776 ≤ 16 * a.e ∧ 16 * a.e ≤ 1099511627776) (hb : -1099511627776 ≤ 16 * b.e ∧ 16 * b.e ≤ 1099511627776) : -68719476736 ≤ eT a b ∧ eT a b ≤ 68720525312 := by
  unfold eT; repeat' split
  all_goals omega
def xA (a b : DV) (F : Int) (j : Nat) : Int := dg a (F + j) + dg b (F + j)
def xB (a b : DV) (F : Int) (j : Nat) : Int := dg a (F + j) - dg b (F + j)
def szR (a b : DV) (T : Int) (n t : Nat) : Int := if t = n then 0 else if dg a (T - 1 - t) < dg b (T - 1 - t) then -1 else 1
theorem boF_T {x : Nat → Int} {k : Nat} (h : x k - boC x k < 0) : boF x k = x k - boC x k + 65536 := if_pos h
theorem boF_F {x : Nat → Int} {k : Nat} (h : ¬ x k - boC x k < 0) : boF x k = x k - boC x k := if_neg h
theorem boC_T {x : Nat → Int} {k : Nat} (h : x k - boC x k < 0) : boC x (k + 1) = 1 := if_pos h
theorem boC_F {x : Nat → Int} {k : Nat} (h : ¬ x k - boC x k < 0) : boC x (k + 1) = 0 := if_neg h
attribute [local irreducible] Ex exOps exD opX opE thenX blkX RetQ Spec CSpec Fr condK guardK guardD ckK valK pickK loadK faK callK argK gK fK rK RetV lpX prK
set_option maxHeartbeats 4000000 in
theorem dsize_c (H : List (List AV)) (a : DV) (hag : Digs a.l) (hal : a.l.length ≤ 2 ^ 20) (hae : -1099511627776 ≤ 16 * a.e ∧ 16 * a.e ≤ 1099511627776) (b : DV) (hbg : Digs b.l) (hbl : b.l.length ≤ 2 ^ 20) (hbe : -1099511627776 ≤ 16 * b.e ∧ 16 * b.e ≤ 1099511627776) (F : Int) (n : Nat) (hn : n ≤ 2 ^ 28) (hF : eF a b = F) (hT : eT a b = F + n) (t : Nat) (ht : t ≤ n) (heq : ∀ k, k < t → dg a (F + n - 1 - k) = dg b (F + n - 1 - k)) (hne : t < n → dg a (F + n - 1 - t) ≠ dg b (F + n - 1 - t)) :
    CSpec Try.prog 126 [dV a, dV b] H (.int .i64 (szR a b (F + n) n t)) H := by
  have hFr := eF_rng hae hbe
  have hTr := eT_rng hal hbl hae hbe
  have hend := fun H' => ends_c H' a hag hal hae b hbg hbl hbe
  rw [hF, hT] at hend
  have hd1 := fun p => dg_range hag p
  have hd2 := fun p => dg_range hbg p
  refine .mk (fun args w => Try.call126 args w) (Spec.intro' (fn := Try.f126) Try.func126 rfl (by kernel_rfl) (by simp) false [] (draw := drawX Try.prog ⟨false, _, []⟩) dOk ?_)
  simp only [argE, Nat.reduceAdd]
  repeat' (first
    | (refine gateE ?_; (first | refine b_c0 ?_ | refine b_nil ?_ | fail))
    | (refine gateO ?_; (first | refine b_move (by (conv => {lhs; whnf}); done) ?_ | (refine b_load (by (conv => {lhs; whnf}); done) ?_; (first | refine l_loc1 (by exact rfl) (by exact rfl) ?_ | refine l_locA (by exact rfl) (by exact rfl) ?_ | fail)) | (refine b_bin (by (conv => {lhs; whnf}); done) (by (conv => {lhs; whnf}); done) (by (conv => {lhs; whnf}); done) ?_; (first | refine v_neT (by exact hne (by omega)) ?_ | refine v_neF (by exact fun hh => hh (heq k (by omega))) ?_ | refine v_to (F + n - 1 - ((k + 1 : Nat) : Int)) (by omega) (by omega) ?_ | refine v_neT (by omega) ?_ | refine v_neF (by omega) ?_ | refine v_neP ?_ | refine v_T (by omega) ?_ | refine v_F (by omega) ?_ | refine v_w (by omega) ?_ | refine v_wu (by omega) ?_ | refine v_k ?_ | refine v_c (by omega) ?_ | fail)) | refine b_assignF (by kernel_rfl) ?_ | refine b_assignI ?_ | refine b_assignN ?_ | refine b_assign (by (conv => {lhs; whnf}); done) ?_ | refine b_callB ?_ | refine b_ext (by (conv => {lhs; whnf}); done) (by exact rfl) ?_ | refine b_box (by (conv => {lhs; whnf}); done) (by exact rfl) (by exact rfl) (by exact rfl) (by exact rfl) ?_ | fail))
    | (refine gateD ?_; (first | refine d_c0 (by exact rfl) ?_ | refine d_nil ?_ | fail))
    | (refine gateC ?_; (first | refine k_lt ?_ | refine k_fz ?_ | refine k_lb (by (conv => {lhs; whnf}); done) ?_ | refine k_ms ?_ | refine k_bx (by exact rfl) (by exact rfl) ?_ | refine k_ld (by (conv => {lhs; whnf}); done) (by exact rfl) ?_ | refine k_ldT (by (conv => {lhs; whnf}); done) ?_ | refine k_bin (by (conv => {lhs; whnf}); done) (by exact rfl) ?_ | refine k_mn ?_ | refine k_mnB (by exact rfl) ?_ | refine k_mnF ?_ | refine k_mnL (by exact rfl) ?_ | fail))
    | (refine gateT ?_; (first | refine b_thn ?_ | refine b_thr ?_ | refine b_the ?_ | fail))
    | (refine gateX ?_; (first | refine b_seq ?_ | refine b_region ?_ | (refine b_cond (by (conv => {lhs; whnf}); done) ?_; (first | refine c_T ?_ | refine c_F ?_ | refine c_P ?_ ?_ | refine c_B ?_ ?_ | fail)) | refine b_ret ?_ | refine b_skip ?_ | refine b_block ?_ | refine b_exit ?_ | refine b_draw (id := 5) [] [] [(0, .ld true), (1, .lt), (3, .ld true), (4, .lt), (2, .mn true), (5, .mn true), (6, .ld true)] (by kernel_rfl) ?_ | refine b_draw (id := 6) [] [] [(0, .ld true), (1, .lt), (3, .ld true), (4, .lt), (2, .mn true), (5, .mn true), (6, .lt)] (by kernel_rfl) ?_ | (refine b_loop [2, 3, 5, 7] t (fun k => ⟨[(2, .loc 2 0), (3, .loc 3 0), (5, .val (.int .i64 (F))), (7, .val (.int .i64 (F + n - 1 - (k : Int))))], [(2, [.bool a.neg, .sl none a.l.length (il a.l), .int .i64 a.e]), (3, [.bool b.neg, .sl none b.l.length (il b.l), .int .i64 b.e])], H ++ []⟩) (by simp only [Int.natCast_zero, Int.sub_zero]; exact rfl) ?_ ?_ <;> (first | intro k hk K hK | intro K) <;> (try dsimp only at *)) | fail))
    | refine a_cons (by (conv => {lhs; whnf}); done) ?_
    | refine a_nil ?_
    | (refine gateK ?_; (first | refine c_call (hend _) (OldOk.refl _ _) ?_ | refine c_call (dat_c _ a hag hal hae _ (by omega)) (OldOk.refl _ _) ?_ | refine c_call (dat_c _ b hbg hbl hbe _ (by omega)) (OldOk.refl _ _) ?_ | fail))
    | (refine gateB ?_; (first | refine b_bln ?_ | refine b_blr ?_ | refine b_ble ?_ | refine b_blo (by exact rfl) ?_ | fail))
    | (refine gateL ?_; (first | refine lp_n ?_ | refine lp_r ?_ | refine lp_e ?_ | fail))
    | (refine pr_k (by exact rfl) ?_; first | exact hK | fail | (exfalso; first | omega | (simp_all; done) | (simp_all; omega)))
    | (refine gateQ ?_; refine b_retK (by simp) (by (conv => {lhs; whnf}); done) ?_)
    | (refine gateR ?_; (first | refine rk_tmp (by (conv => {lhs; whnf}); done) ?_ | refine rk_cellA (by (conv => {lhs; whnf}); done) (by exact rfl) (by exact rfl) ?_ | refine rk_cell1 (by (conv => {lhs; whnf}); done) (by exact rfl) (by exact rfl) ?_ | refine rk_nil ?_ | fail))
    | intro _)
  all_goals first
    | (exfalso; omega)
    | (exfalso; exact absurd (heq _ (by assumption)) (by assumption))
    | (refine rv_old rfl (by simp [mx, mxL, resOne, aOf, aOf1]) ?_; simp only [resOne, List.nil_append, List.cons_append, aOf, aOf1, szR]; (repeat' split) <;> (first | rfl | (exfalso; omega)))

set_option maxHeartbeats 4000000 in
theorem dadd_tt (H : List (List AV)) (a : DV) (hag : Digs a.l) (hal : a.l.length ≤ 2 ^ 20) (hae : -1099511627776 ≤ 16 * a.e ∧ 16 * a.e ≤ 1099511627776) (b : DV) (hbg : Digs b.l) (hbl : b.l.length ≤ 2 ^ 20) (hbe : -1099511627776 ≤ 16 * b.e ∧ 16 * b.e ≤ 1099511627776) (F : Int) (n : Nat) (hn : n ≤ 2 ^ 28) (hF : eF a b = F) (hT : eT a b = F + n) (han : a.neg = true) (hbn : b.neg = true)  :
    CSpec Try.prog 56 [dV a, dV b] H (dV (mD true (mL (caF (xA a b F)) n ++ [caC (xA a b F) n]) F)) H := by
  have hFr := eF_rng hae hbe
  have hTr := eT_rng hal hbl hae hbe
  have hend := fun H' => ends_c H' a hag hal hae b hbg hbl hbe
  rw [hF, hT] at hend
  have hd1 := fun p => dg_range hag p
  have hd2 := fun p => dg_range hbg p
  have hx : ∀ j, 0 ≤ xA a b F j ∧ xA a b F j < 131072 := fun j => by have h1 := hd1 (F + (j : Int)); have h2 := hd2 (F + (j : Int)); unfold xA; omega
  have hata := fun H' p hp => dat_c H' a hag hal hae p hp
  have hatb := fun H' p hp => dat_c H' b hbg hbl hbe p hp
  have hda : dV a = .agg [.bool true, .sl none a.l.length (il a.l), .int .i64 a.e] := by unfold dV; rw [han]
  have hdb : dV b = .agg [.bool true, .sl none b.l.length (il b.l), .int .i64 b.e] := by unfold dV; rw [hbn]
  simp only [hda, hdb] at hend hata hatb ⊢
  refine .mk (fun args w => Try.call56 args w) (Spec.intro' (fn := Try.f56) Try.func56 rfl (by kernel_rfl) (by simp) false [60, 67, 98] (draw := drawX Try.prog ⟨false, _, [60, 67, 98]⟩) dOk ?_)
  simp only [argE, Nat.reduceAdd]
  repeat' (first
    | (refine gateE ?_; (first | refine b_c0 ?_ | refine b_nil ?_ | refine b_gT (by exact rfl) (by exact rfl) ?_ | refine b_gF (by exact rfl) (by exact rfl) (by exact rfl) ?_ | refine b_gU (by exact rfl) (by exact rfl) (by constructor <;> simp) (by exact rfl) (by exact rfl) ?_ | (refine b_g0 (by exact rfl) (by exact rfl) (by (conv => {lhs; whnf}); done) ?_; (first | refine g_TT ?_ | refine g_FF ?_ | refine g_TF ?_ | refine g_FT ?_ | refine g_PT ?_ ?_ | refine g_PF ?_ ?_ | refine g_BT ?_ ?_ | refine g_BF ?_ ?_ | fail)) | (refine b_g1 (by exact rfl) (by exact rfl) (by exact rfl) (by (conv => {lhs; whnf}); done) ?_; (first | refine g_TT ?_ | refine g_FF ?_ | refine g_TF ?_ | refine g_FT ?_ | refine g_PT ?_ ?_ | refine g_PF ?_ ?_ | refine g_BT ?_ ?_ | refine g_BF ?_ ?_ | fail)) | refine b_c1 (by exact rfl) ?_ | fail))
    | (refine gateO ?_; (first | refine b_move (by (conv => {lhs; whnf}); done) ?_ | (refine b_fa (by (conv => {lhs; whnf}); done) ?_; first | refine f_loc (by (conv => {lhs; whnf}); done) ?_ | refine f_ptr (by (conv => {lhs; whnf}); done) ?_) | (refine b_load (by (conv => {lhs; whnf}); done) ?_; (first | refine l_loc1 (by exact rfl) (by exact rfl) ?_ | refine l_locA (by exact rfl) (by exact rfl) ?_ | fail)) | refine b_lenA (by (conv => {lhs; whnf}); done) (by exact rfl) ?_ | refine b_grow (i := 0) (N₀ := []) (by (conv => {lhs; whnf}); done) (by (conv => {lhs; whnf}); done) (by exact rfl) (by exact rfl) (by simp) (by omega) (by exact rfl) (by exact rfl) (l' := il (mL (caF (xA a b F)) (k + 1))) (by rw [mL_succ, ← il_app]; exact rfl) ?_ | refine b_grow (i := 0) (N₀ := []) (by (conv => {lhs; whnf}); done) (by (conv => {lhs; whnf}); done) (by exact rfl) (by exact rfl) (by simp) (by omega) (by exact rfl) (by exact rfl) (l' := il (mL (caF (xA a b F)) n ++ [caC (xA a b F) n])) (by rw [← il_app]; exact rfl) ?_ | (refine b_binB (by first | (conv => {lhs; whnf}; done) | exact (by exact rfl) | fail) (by first | (conv => {lhs; whnf}; done) | exact (by exact rfl) | fail) ?_; (first | refine v_to (caC (xA a b F) k + dg a (F + (k : Int))) (by have h1 := hd1 (F + (k : Int)); have h3 := caC_range hx k; omega) (by exact rfl) ?_ | refine v_to (caC (xA a b F) k + (xA a b F) k) (by have h1 := hd1 (F + (k : Int)); have h2 := hd2 (F + (k : Int)); have h3 := caC_range hx k; omega) (by exact Int.add_assoc _ _ _) ?_ | refine v_mod (by have h1 := hx k; have h3 := caC_range hx k; omega) (by omega) ?_ | refine v_qc (by have h1 := hx k; have h3 := caC_range hx k; omega) (by omega) ?_ | refine v_to (F + ((k + 1 : Nat) : Int)) (by omega) (by omega) ?_ | refine v_bbT (by exact rfl) ?_ | refine v_k ?_ | fail)) | (refine b_bin (by (conv => {lhs; whnf}); done) (by (conv => {lhs; whnf}); done) (by (conv => {lhs; whnf}); done) ?_; (first | refine v_to (caC (xA a b F) k + dg a (F + (k : Int))) (by have h1 := hd1 (F + (k : Int)); have h3 := caC_range hx k; omega) (by exact rfl) ?_ | refine v_to (caC (xA a b F) k + (xA a b F) k) (by have h1 := hd1 (F + (k : Int)); have h2 := hd2 (F + (k : Int)); have h3 := caC_range hx k; omega) (by exact Int.add_assoc _ _ _) ?_ | refine v_mod (by have h1 := hx k; have h3 := caC_range hx k; omega) (by omega) ?_ | refine v_qc (by have h1 := hx k; have h3 := caC_range hx k; omega) (by omega) ?_ | refine v_to (F + ((k + 1 : Nat) : Int)) (by omega) (by omega) ?_ | refine v_eT (by omega) ?_ | refine v_eF (by omega) ?_ | refine v_eP ?_ | refine v_T (by omega) ?_ | refine v_F (by omega) ?_ | refine v_w (by omega) ?_ | refine v_wu (by omega) ?_ | refine v_mod (by omega) (by omega) ?_ | refine v_qc (by omega) (by omega) ?_ | refine v_k ?_ | refine v_c (by omega) ?_ | fail)) | (refine b_pick (by (conv => {lhs; whnf}); done) ?_; (first | refine p_T (by (conv => {lhs; whnf}); done) ?_ | refine p_F (by (conv => {lhs; whnf}); done) ?_ | fail)) | refine b_assignF (by kernel_rfl) ?_ | refine b_assignI ?_ | refine b_assignN ?_ | refine b_assign (by (conv => {lhs; whnf}); done) ?_ | refine b_callB ?_ | refine b_lenA (by (conv => {lhs; whnf}); done) (by first | rfl | assumption) ?_ | refine b_ext (by (conv => {lhs; whnf}); done) (by exact rfl) ?_ | refine b_stL (by (conv => {lhs; whnf}); done) (by (conv => {lhs; whnf}); done) (by first | exact (by exact rfl) | exact cells_of_len hF.len | fail) (by exact rfl) (by exact rfl) (by exact Nat.le_of_ble_eq_true rfl) (by (conv => {lhs; simp only [sc, List.set_cons_zero, List.set_cons_succ]}); done) ?_ | refine b_box (by (conv => {lhs; whnf}); done) (by exact rfl) (by exact rfl) (by exact rfl) (by exact rfl) ?_ | refine b_alloc (by exact rfl) (by exact rfl) ?_ | refine b_bslZ (by exact rfl) (by exact rfl) (by decide) ?_ | fail))
    | (refine gateD ?_; (first | refine d_c0 (by exact rfl) ?_ | refine d_nil ?_ | refine d_gT (by exact rfl) (by exact rfl) (by exact rfl) ?_ | refine d_gF (by exact rfl) (by exact rfl) (by exact rfl) (by exact rfl) ?_ | refine d_gU (by exact rfl) (by exact rfl) (by exact rfl) (by constructor <;> simp) (by exact rfl) (by exact rfl) ?_ | (refine d_g0 (by exact rfl) (by exact rfl) (by exact rfl) (by (conv => {lhs; whnf}); done) ?_; (first | refine dg_TT ?_ | refine dg_FF ?_ | refine dg_TF ?_ | refine dg_FT ?_ | refine dg_PT ?_ ?_ | refine dg_PF ?_ ?_ | refine dg_BT ?_ ?_ | refine dg_BF ?_ ?_ | fail)) | (refine d_g1 (by exact rfl) (by exact rfl) (by exact rfl) (by exact rfl) (by (conv => {lhs; whnf}); done) ?_; (first | refine dg_TT ?_ | refine dg_FF ?_ | refine dg_TF ?_ | refine dg_FT ?_ | refine dg_PT ?_ ?_ | refine dg_PF ?_ ?_ | refine dg_BT ?_ ?_ | refine dg_BF ?_ ?_ | fail)) | refine d_c1 (by exact rfl) (by exact rfl) ?_ | fail))
    | (refine gateC ?_; (first | refine k_lt ?_ | refine k_fz ?_ | refine k_lb (by (conv => {lhs; whnf}); done) ?_ | refine k_ms ?_ | refine k_bx (by exact rfl) (by exact rfl) ?_ | refine k_ld (by (conv => {lhs; whnf}); done) (by exact rfl) ?_ | refine k_ldT (by (conv => {lhs; whnf}); done) ?_ | refine k_bin (by (conv => {lhs; whnf}); done) (by exact rfl) ?_ | refine k_mn ?_ | refine k_mnB (by exact rfl) ?_ | refine k_mnF ?_ | refine k_mnL (by exact rfl) ?_ | fail))
    | (refine gateT ?_; (first | refine b_thn ?_ | refine b_thr ?_ | refine b_the ?_ | fail))
    | (refine gateX ?_; (first | refine b_seq ?_ | refine b_region ?_ | (refine b_cond (by (conv => {lhs; whnf}); done) ?_; (first | refine c_T ?_ | refine c_F ?_ | refine c_P ?_ ?_ | refine c_B ?_ ?_ | fail)) | refine b_ret ?_ | refine b_skip ?_ | refine b_block ?_ | refine b_exit ?_ | refine b_draw (id := 9) [] [] [(0, .lt), (1, .ld true), (2, .lt), (5, .ld true), (6, .lt), (3, .mn true), (4, .lt), (7, .mn true), (8, .lt), (9, .lt)] (by kernel_rfl) ?_ | refine b_draw (id := 18) [] [] [(0, .ld true), (1, .lt), (3, .ld true), (4, .lt), (7, .lt), (2, .mn true), (5, .mn true), (6, .lt), (8, .lt), (9, .lt)] (by kernel_rfl) ?_ | (refine b_loop [2, 3, 4, 5, 6, 7, 8, 9, 10] n (fun k => ⟨[(2, .loc 2 0), (3, .loc 3 0), (4, .loc 4 0), (5, .val (.int .i64 (F))), (6, .val (.int .i64 (F + n))), (7, .val (gV H.length 0 k)), (8, .val (.int .i64 (caC (xA a b F) k))), (9, .val (.bool true)), (10, .val (.int .i64 (F + (k : Int))))], [(2, [.bool true, .sl none a.l.length (il a.l), .int .i64 a.e]), (3, [.bool true, .sl none b.l.length (il b.l), .int .i64 b.e]), (4, [.bool false, .slnil, .int .i64 0])], H ++ ([] ++ gN (il (mL (caF (xA a b F)) k)))⟩) (by simp only [Int.natCast_zero, Int.add_zero]; exact rfl) ?_ ?_ <;> (first | intro k hk K hK | intro K) <;> (try dsimp only at *)) | fail))
    | refine a_cons (by (conv => {lhs; whnf}); done) ?_
    | refine a_nil ?_
    | (refine gateK ?_; (first | refine c_call (hend _) (OldOk.refl _ _) ?_ | refine c_call (hata _ _ (by omega)) (OldOk.refl _ _) ?_ | refine c_call (hatb _ _ (by omega)) (OldOk.refl _ _) ?_ | refine c_call (hsz _) (OldOk.refl _ _) ?_ | refine c_call (made_gV _ true _ _ _ (mL (caF (xA a b F)) n ++ [caC (xA a b F) n]) (by simp) (fun h => hg_new (by exact rfl) (gN_il h)) (by omega) F (by omega)) (OldOk.refl _ _) ?_ | fail))
    | refine gk_consF (by kernel_rfl) ?_
    | refine gk_cons (by (conv => {lhs; whnf}); done) ?_
    | (refine gk_nilN (by (conv => {lhs; simp only [List.nil_append, List.cons_append]}); done) ?_; first | refine ⟨by exact rfl, ?_⟩ | skip)
    | refine gk_nil ?_
    | (intro N' hN'; simp only [List.nil_append, List.cons_append] at hN'; subst hN')
    | (refine gateB ?_; (first | refine b_bln ?_ | refine b_blr ?_ | refine b_ble ?_ | refine b_blo (by exact rfl) ?_ | fail))
    | (refine gateL ?_; (first | refine lp_n ?_ | refine lp_r ?_ | refine lp_e ?_ | fail))
    | (refine pr_k (by exact rfl) ?_; first | exact hK | fail | (exfalso; first | omega | (simp_all; done) | (simp_all; omega)))
    | (refine gateQ ?_; refine b_retK (by simp) (by (conv => {lhs; whnf}); done) ?_)
    | (refine gateR ?_; (first | refine rk_tmp (by (conv => {lhs; whnf}); done) ?_ | refine rk_cellA (by (conv => {lhs; whnf}); done) (by exact rfl) (by exact rfl) ?_ | refine rk_cell1 (by (conv => {lhs; whnf}); done) (by exact rfl) (by exact rfl) ?_ | refine rk_nil ?_ | fail))
    | intro _)
  all_goals first
    | (exfalso; omega)
    | (refine rv_fr rfl ?_; exact mR_fr rfl (fun h => gN_il h))
    | (refine rv_fr rfl ?_; exact mR_fr rfl (fun h => rfl))
    | (refine rv_old rfl (by simp [mx, mxL, resOne, aOf, aOf1]) ?_; exact rfl)

set_option maxHeartbeats 4000000 in
theorem dadd_ff (H : List (List AV)) (a : DV) (hag : Digs a.l) (hal : a.l.length ≤ 2 ^ 20) (hae : -1099511627776 ≤ 16 * a.e ∧ 16 * a.e ≤ 1099511627776) (b : DV) (hbg : Digs b.l) (hbl : b.l.length ≤ 2 ^ 20) (hbe : -1099511627776 ≤ 16 * b.e ∧ 16 * b.e ≤ 1099511627776) (F : Int) (n : Nat) (hn : n ≤ 2 ^ 28) (hF : eF a b = F) (hT : eT a b = F + n) (han : a.neg = false) (hbn : b.neg = false)  :
    CSpec Try.prog 56 [dV a, dV b] H (dV (mD false (mL (caF (xA a b F)) n ++ [caC (xA a b F) n]) F)) H := by
  have hFr := eF_rng hae hbe
  have hTr := eT_rng hal hbl hae hbe
  have hend := fun H' => ends_c H' a hag hal hae b hbg hbl hbe
  rw [hF, hT] at hend
  have hd1 := fun p => dg_range hag p
  have hd2 := fun p => dg_range hbg p
  have hx : ∀ j, 0 ≤ xA a b F j ∧ xA a b F j < 131072 := fun j => by have h1 := hd1 (F + (j : Int)); have h2 := hd2 (F + (j : Int)); unfold xA; omega
  have hata := fun H' p hp => dat_c H' a hag hal hae p hp
  have hatb := fun H' p hp => dat_c H' b hbg hbl hbe p hp
  have hda : dV a = .agg [.bool false, .sl none a.l.length (il a.l), .int .i64 a.e] := by unfold dV; rw [han]
  have hdb : dV b = .agg [.bool false, .sl none b.l.length (il b.l), .int .i64 b.e] := by unfold dV; rw [hbn]
  simp only [hda, hdb] at hend hata hatb ⊢
  refine .mk (fun args w => Try.call56 args w) (Spec.intro' (fn := Try.f56) Try.func56 rfl (by kernel_rfl) (by simp) false [60, 67, 98] (draw := drawX Try.prog ⟨false, _, [60, 67, 98]⟩) dOk ?_)
  simp only [argE, Nat.reduceAdd]
  repeat' (first
    | (refine gateE ?_; (first | refine b_c0 ?_ | refine b_nil ?_ | refine b_gT (by exact rfl) (by exact rfl) ?_ | refine b_gF (by exact rfl) (by exact rfl) (by exact rfl) ?_ | refine b_gU (by exact rfl) (by exact rfl) (by constructor <;> simp) (by exact rfl) (by exact rfl) ?_ | (refine b_g0 (by exact rfl) (by exact rfl) (by (conv => {lhs; whnf}); done) ?_; (first | refine g_TT ?_ | refine g_FF ?_ | refine g_TF ?_ | refine g_FT ?_ | refine g_PT ?_ ?_ | refine g_PF ?_ ?_ | refine g_BT ?_ ?_ | refine g_BF ?_ ?_ | fail)) | (refine b_g1 (by exact rfl) (by exact rfl) (by exact rfl) (by (conv => {lhs; whnf}); done) ?_; (first | refine g_TT ?_ | refine g_FF ?_ | refine g_TF ?_ | refine g_FT ?_ | refine g_PT ?_ ?_ | refine g_PF ?_ ?_ | refine g_BT ?_ ?_ | refine g_BF ?_ ?_ | fail)) | refine b_c1 (by exact rfl) ?_ | fail))
    | (refine gateO ?_; (first | refine b_move (by (conv => {lhs; whnf}); done) ?_ | (refine b_fa (by (conv => {lhs; whnf}); done) ?_; first | refine f_loc (by (conv => {lhs; whnf}); done) ?_ | refine f_ptr (by (conv => {lhs; whnf}); done) ?_) | (refine b_load (by (conv => {lhs; whnf}); done) ?_; (first | refine l_loc1 (by exact rfl) (by exact rfl) ?_ | refine l_locA (by exact rfl) (by exact rfl) ?_ | fail)) | refine b_lenA (by (conv => {lhs; whnf}); done) (by exact rfl) ?_ | refine b_grow (i := 0) (N₀ := []) (by (conv => {lhs; whnf}); done) (by (conv => {lhs; whnf}); done) (by exact rfl) (by exact rfl) (by simp) (by omega) (by exact rfl) (by exact rfl) (l' := il (mL (caF (xA a b F)) (k + 1))) (by rw [mL_succ, ← il_app]; exact rfl) ?_ | refine b_grow (i := 0) (N₀ := []) (by (conv => {lhs; whnf}); done) (by (conv => {lhs; whnf}); done) (by exact rfl) (by exact rfl) (by simp) (by omega) (by exact rfl) (by exact rfl) (l' := il (mL (caF (xA a b F)) n ++ [caC (xA a b F) n])) (by rw [← il_app]; exact rfl) ?_ | (refine b_binB (by first | (conv => {lhs; whnf}; done) | exact (by exact rfl) | fail) (by first | (conv => {lhs; whnf}; done) | exact (by exact rfl) | fail) ?_; (first | refine v_to (caC (xA a b F) k + dg a (F + (k : Int))) (by have h1 := hd1 (F + (k : Int)); have h3 := caC_range hx k; omega) (by exact rfl) ?_ | refine v_to (caC (xA a b F) k + (xA a b F) k) (by have h1 := hd1 (F + (k : Int)); have h2 := hd2 (F + (k : Int)); have h3 := caC_range hx k; omega) (by exact Int.add_assoc _ _ _) ?_ | refine v_mod (by have h1 := hx k; have h3 := caC_range hx k; omega) (by omega) ?_ | refine v_qc (by have h1 := hx k; have h3 := caC_range hx k; omega) (by omega) ?_ | refine v_to (F + ((k + 1 : Nat) : Int)) (by omega) (by omega) ?_ | refine v_bbT (by exact rfl) ?_ | refine v_k ?_ | fail)) | (refine b_bin (by (conv => {lhs; whnf}); done) (by (conv => {lhs; whnf}); done) (by (conv => {lhs; whnf}); done) ?_; (first | refine v_to (caC (xA a b F) k + dg a (F + (k : Int))) (by have h1 := hd1 (F + (k : Int)); have h3 := caC_range hx k; omega) (by exact rfl) ?_ | refine v_to (caC (xA a b F) k + (xA a b F) k) (by have h1 := hd1 (F + (k : Int)); have h2 := hd2 (F + (k : Int)); have h3 := caC_range hx k; omega) (by exact Int.add_assoc _ _ _) ?_ | refine v_mod (by have h1 := hx k; have h3 := caC_range hx k; omega) (by omega) ?_ | refine v_qc (by have h1 := hx k; have h3 := caC_range hx k; omega) (by omega) ?_ | refine v_to (F + ((k + 1 : Nat) : Int)) (by omega) (by omega) ?_ | refine v_eT (by omega) ?_ | refine v_eF (by omega) ?_ | refine v_eP ?_ | refine v_T (by omega) ?_ | refine v_F (by omega) ?_ | refine v_w (by omega) ?_ | refine v_wu (by omega) ?_ | refine v_mod (by omega) (by omega) ?_ | refine v_qc (by omega) (by omega) ?_ | refine v_k ?_ | refine v_c (by omega) ?_ | fail)) | (refine b_pick (by (conv => {lhs; whnf}); done) ?_; (first | refine p_T (by (conv => {lhs; whnf}); done) ?_ | refine p_F (by (conv => {lhs; whnf}); done) ?_ | fail)) | refine b_assignF (by kernel_rfl) ?_ | refine b_assignI ?_ | refine b_assignN ?_ | refine b_assign (by (conv => {lhs; whnf}); done) ?_ | refine b_callB ?_ | refine b_lenA (by (conv => {lhs; whnf}); done) (by first | rfl | assumption) ?_ | refine b_ext (by (conv => {lhs; whnf}); done) (by exact rfl) ?_ | refine b_stL (by (conv => {lhs; whnf}); done) (by (conv => {lhs; whnf}); done) (by first | exact (by exact rfl) | exact cells_of_len hF.len | fail) (by exact rfl) (by exact rfl) (by exact Nat.le_of_ble_eq_true rfl) (by (conv => {lhs; simp only [sc, List.set_cons_zero, List.set_cons_succ]}); done) ?_ | refine b_box (by (conv => {lhs; whnf}); done) (by exact rfl) (by exact rfl) (by exact rfl) (by exact rfl) ?_ | refine b_alloc (by exact rfl) (by exact rfl) ?_ | refine b_bslZ (by exact rfl) (by exact rfl) (by decide) ?_ | fail))
    | (refine gateD ?_; (first | refine d_c0 (by exact rfl) ?_ | refine d_nil ?_ | refine d_gT (by exact rfl) (by exact rfl) (by exact rfl) ?_ | refine d_gF (by exact rfl) (by exact rfl) (by exact rfl) (by exact rfl) ?_ | refine d_gU (by exact rfl) (by exact rfl) (by exact rfl) (by constructor <;> simp) (by exact rfl) (by exact rfl) ?_ | (refine d_g0 (by exact rfl) (by exact rfl) (by exact rfl) (by (conv => {lhs; whnf}); done) ?_; (first | refine dg_TT ?_ | refine dg_FF ?_ | refine dg_TF ?_ | refine dg_FT ?_ | refine dg_PT ?_ ?_ | refine dg_PF ?_ ?_ | refine dg_BT ?_ ?_ | refine dg_BF ?_ ?_ | fail)) | (refine d_g1 (by exact rfl) (by exact rfl) (by exact rfl) (by exact rfl) (by (conv => {lhs; whnf}); done) ?_; (first | refine dg_TT ?_ | refine dg_FF ?_ | refine dg_TF ?_ | refine dg_FT ?_ | refine dg_PT ?_ ?_ | refine dg_PF ?_ ?_ | refine dg_BT ?_ ?_ | refine dg_BF ?_ ?_ | fail)) | refine d_c1 (by exact rfl) (by exact rfl) ?_ | fail))
    | (refine gateC ?_; (first | refine k_lt ?_ | refine k_fz ?_ | refine k_lb (by (conv => {lhs; whnf}); done) ?_ | refine k_ms ?_ | refine k_bx (by exact rfl) (by exact rfl) ?_ | refine k_ld (by (conv => {lhs; whnf}); done) (by exact rfl) ?_ | refine k_ldT (by (conv => {lhs; whnf}); done) ?_ | refine k_bin (by (conv => {lhs; whnf}); done) (by exact rfl) ?_ | refine k_mn ?_ | refine k_mnB (by exact rfl) ?_ | refine k_mnF ?_ | refine k_mnL (by exact rfl) ?_ | fail))
    | (refine gateT ?_; (first | refine b_thn ?_ | refine b_thr ?_ | refine b_the ?_ | fail))
    | (refine gateX ?_; (first | refine b_seq ?_ | refine b_region ?_ | (refine b_cond (by (conv => {lhs; whnf}); done) ?_; (first | refine c_T ?_ | refine c_F ?_ | refine c_P ?_ ?_ | refine c_B ?_ ?_ | fail)) | refine b_ret ?_ | refine b_skip ?_ | refine b_block ?_ | refine b_exit ?_ | refine b_draw (id := 9) [] [] [(0, .lt), (1, .ld true), (2, .lt), (5, .ld true), (6, .lt), (3, .mn true), (4, .lt), (7, .mn true), (8, .lt), (9, .lt)] (by kernel_rfl) ?_ | refine b_draw (id := 18) [] [] [(0, .ld true), (1, .lt), (3, .ld true), (4, .lt), (7, .lt), (2, .mn true), (5, .mn true), (6, .lt), (8, .lt), (9, .lt)] (by kernel_rfl) ?_ | (refine b_loop [2, 3, 4, 5, 6, 7, 8, 9, 10] n (fun k => ⟨[(2, .loc 2 0), (3, .loc 3 0), (4, .loc 4 0), (5, .val (.int .i64 (F))), (6, .val (.int .i64 (F + n))), (7, .val (gV H.length 0 k)), (8, .val (.int .i64 (caC (xA a b F) k))), (9, .val (.bool false)), (10, .val (.int .i64 (F + (k : Int))))], [(2, [.bool false, .sl none a.l.length (il a.l), .int .i64 a.e]), (3, [.bool false, .sl none b.l.length (il b.l), .int .i64 b.e]), (4, [.bool false, .slnil, .int .i64 0])], H ++ ([] ++ gN (il (mL (caF (xA a b F)) k)))⟩) (by simp only [Int.natCast_zero, Int.add_zero]; exact rfl) ?_ ?_ <;> (first | intro k hk K hK | intro K) <;> (try dsimp only at *)) | fail))
    | refine a_cons (by (conv => {lhs; whnf}); done) ?_
    | refine a_nil ?_
    | (refine gateK ?_; (first | refine c_call (hend _) (OldOk.refl _ _) ?_ | refine c_call (hata _ _ (by omega)) (OldOk.refl _ _) ?_ | refine c_call (hatb _ _ (by omega)) (OldOk.refl _ _) ?_ | refine c_call (hsz _) (OldOk.refl _ _) ?_ | refine c_call (made_gV _ false _ _ _ (mL (caF (xA a b F)) n ++ [caC (xA a b F) n]) (by simp) (fun h => hg_new (by exact rfl) (gN_il h)) (by omega) F (by omega)) (OldOk.refl _ _) ?_ | fail))
    | refine gk_consF (by kernel_rfl) ?_
    | refine gk_cons (by (conv => {lhs; whnf}); done) ?_
    | (refine gk_nilN (by (conv => {lhs; simp only [List.nil_append, List.cons_append]}); done) ?_; first | refine ⟨by exact rfl, ?_⟩ | skip)
    | refine gk_nil ?_
    | (intro N' hN'; simp only [List.nil_append, List.cons_append] at hN'; subst hN')
    | (refine gateB ?_; (first | refine b_bln ?_ | refine b_blr ?_ | refine b_ble ?_ | refine b_blo (by exact rfl) ?_ | fail))
    | (refine gateL ?_; (first | refine lp_n ?_ | refine lp_r ?_ | refine lp_e ?_ | fail))
    | (refine pr_k (by exact rfl) ?_; first | exact hK | fail | (exfalso; first | omega | (simp_all; done) | (simp_all; omega)))
    | (refine gateQ ?_; refine b_retK (by simp) (by (conv => {lhs; whnf}); done) ?_)
    | (refine gateR ?_; (first | refine rk_tmp (by (conv => {lhs; whnf}); done) ?_ | refine rk_cellA (by (conv => {lhs; whnf}); done) (by exact rfl) (by exact rfl) ?_ | refine rk_cell1 (by (conv => {lhs; whnf}); done) (by exact rfl) (by exact rfl) ?_ | refine rk_nil ?_ | fail))
    | intro _)
  all_goals first
    | (exfalso; omega)
    | (refine rv_fr rfl ?_; exact mR_fr rfl (fun h => gN_il h))
    | (refine rv_fr rfl ?_; exact mR_fr rfl (fun h => rfl))
    | (refine rv_old rfl (by simp [mx, mxL, resOne, aOf, aOf1]) ?_; exact rfl)

set_option maxHeartbeats 4000000 in
theorem dadd_tf (H : List (List AV)) (a : DV) (hag : Digs a.l) (hal : a.l.length ≤ 2 ^ 20) (hae : -1099511627776 ≤ 16 * a.e ∧ 16 * a.e ≤ 1099511627776) (b : DV) (hbg : Digs b.l) (hbl : b.l.length ≤ 2 ^ 20) (hbe : -1099511627776 ≤ 16 * b.e ∧ 16 * b.e ≤ 1099511627776) (F : Int) (n : Nat) (hn : n ≤ 2 ^ 28) (hF : eF a b = F) (hT : eT a b = F + n) (han : a.neg = true) (hbn : b.neg = false) (hem : (a.l.length : Int) = 0 ∨ (b.l.length : Int) = 0) :
    CSpec Try.prog 56 [dV a, dV b] H (dV (mD true (mL (caF (xA a b F)) n ++ [caC (xA a b F) n]) F)) H := by
  have hFr := eF_rng hae hbe
  have hTr := eT_rng hal hbl hae hbe
  have hend := fun H' => ends_c H' a hag hal hae b hbg hbl hbe
  rw [hF, hT] at hend
  have hd1 := fun p => dg_range hag p
  have hd2 := fun p => dg_range hbg p
  have hx : ∀ j, 0 ≤ xA a b F j ∧ xA a b F j < 131072 := fun j => by have h1 := hd1 (F + (j : Int)); have h2 := hd2 (F + (j : Int)); unfold xA; omega
  have hata := fun H' p hp => dat_c H' a hag hal hae p hp
  have hatb := fun H' p hp => dat_c H' b hbg hbl hbe p hp
  have hda : dV a = .agg [.bool true, .sl none a.l.length (il a.l), .int .i64 a.e] := by unfold dV; rw [han]
  have hdb : dV b = .agg [.bool false, .sl none b.l.length (il b.l), .int .i64 b.e] := by unfold dV; rw [hbn]
  simp only [hda, hdb] at hend hata hatb ⊢
  refine .mk (fun args w => Try.call56 args w) (Spec.intro' (fn := Try.f56) Try.func56 rfl (by kernel_rfl) (by simp) false [60, 67, 98] (draw := drawX Try.prog ⟨false, _, [60, 67, 98]⟩) dOk ?_)
  simp only [argE, Nat.reduceAdd]
  repeat' (first
    | (refine gateE ?_; (first | refine b_c0 ?_ | refine b_nil ?_ | refine b_gT (by exact rfl) (by exact rfl) ?_ | refine b_gF (by exact rfl) (by exact rfl) (by exact rfl) ?_ | refine b_gU (by exact rfl) (by exact rfl) (by constructor <;> simp) (by exact rfl) (by exact rfl) ?_ | (refine b_g0 (by exact rfl) (by exact rfl) (by (conv => {lhs; whnf}); done) ?_; (first | refine g_TT ?_ | refine g_FF ?_ | refine g_TF ?_ | refine g_FT ?_ | refine g_PT ?_ ?_ | refine g_PF ?_ ?_ | refine g_BT ?_ ?_ | refine g_BF ?_ ?_ | fail)) | (refine b_g1 (by exact rfl) (by exact rfl) (by exact rfl) (by (conv => {lhs; whnf}); done) ?_; (first | refine g_TT ?_ | refine g_FF ?_ | refine g_TF ?_ | refine g_FT ?_ | refine g_PT ?_ ?_ | refine g_PF ?_ ?_ | refine g_BT ?_ ?_ | refine g_BF ?_ ?_ | fail)) | refine b_c1 (by exact rfl) ?_ | fail))
    | (refine gateO ?_; (first | refine b_move (by (conv => {lhs; whnf}); done) ?_ | (refine b_fa (by (conv => {lhs; whnf}); done) ?_; first | refine f_loc (by (conv => {lhs; whnf}); done) ?_ | refine f_ptr (by (conv => {lhs; whnf}); done) ?_) | (refine b_load (by (conv => {lhs; whnf}); done) ?_; (first | refine l_loc1 (by exact rfl) (by exact rfl) ?_ | refine l_locA (by exact rfl) (by exact rfl) ?_ | fail)) | refine b_lenA (by (conv => {lhs; whnf}); done) (by exact rfl) ?_ | refine b_grow (i := 0) (N₀ := []) (by (conv => {lhs; whnf}); done) (by (conv => {lhs; whnf}); done) (by exact rfl) (by exact rfl) (by simp) (by omega) (by exact rfl) (by exact rfl) (l' := il (mL (caF (xA a b F)) (k + 1))) (by rw [mL_succ, ← il_app]; exact rfl) ?_ | refine b_grow (i := 0) (N₀ := []) (by (conv => {lhs; whnf}); done) (by (conv => {lhs; whnf}); done) (by exact rfl) (by exact rfl) (by simp) (by omega) (by exact rfl) (by exact rfl) (l' := il (mL (caF (xA a b F)) n ++ [caC (xA a b F) n])) (by rw [← il_app]; exact rfl) ?_ | (refine b_binB (by first | (conv => {lhs; whnf}; done) | exact (by exact rfl) | fail) (by first | (conv => {lhs; whnf}; done) | exact (by exact rfl) | fail) ?_; (first | refine v_to (caC (xA a b F) k + dg a (F + (k : Int))) (by have h1 := hd1 (F + (k : Int)); have h3 := caC_range hx k; omega) (by exact rfl) ?_ | refine v_to (caC (xA a b F) k + (xA a b F) k) (by have h1 := hd1 (F + (k : Int)); have h2 := hd2 (F + (k : Int)); have h3 := caC_range hx k; omega) (by exact Int.add_assoc _ _ _) ?_ | refine v_mod (by have h1 := hx k; have h3 := caC_range hx k; omega) (by omega) ?_ | refine v_qc (by have h1 := hx k; have h3 := caC_range hx k; omega) (by omega) ?_ | refine v_to (F + ((k + 1 : Nat) : Int)) (by omega) (by omega) ?_ | refine v_bbT (by exact rfl) ?_ | refine v_k ?_ | fail)) | (refine b_bin (by (conv => {lhs; whnf}); done) (by (conv => {lhs; whnf}); done) (by (conv => {lhs; whnf}); done) ?_; (first | refine v_to (caC (xA a b F) k + dg a (F + (k : Int))) (by have h1 := hd1 (F + (k : Int)); have h3 := caC_range hx k; omega) (by exact rfl) ?_ | refine v_to (caC (xA a b F) k + (xA a b F) k) (by have h1 := hd1 (F + (k : Int)); have h2 := hd2 (F + (k : Int)); have h3 := caC_range hx k; omega) (by exact Int.add_assoc _ _ _) ?_ | refine v_mod (by have h1 := hx k; have h3 := caC_range hx k; omega) (by omega) ?_ | refine v_qc (by have h1 := hx k; have h3 := caC_range hx k; omega) (by omega) ?_ | refine v_to (F + ((k + 1 : Nat) : Int)) (by omega) (by omega) ?_ | refine v_eT (by omega) ?_ | refine v_eF (by omega) ?_ | refine v_eP ?_ | refine v_T (by omega) ?_ | refine v_F (by omega) ?_ | refine v_w (by omega) ?_ | refine v_wu (by omega) ?_ | refine v_mod (by omega) (by omega) ?_ | refine v_qc (by omega) (by omega) ?_ | refine v_k ?_ | refine v_c (by omega) ?_ | fail)) | (refine b_pick (by (conv => {lhs; whnf}); done) ?_; (first | refine p_T (by (conv => {lhs; whnf}); done) ?_ | refine p_F (by (conv => {lhs; whnf}); done) ?_ | fail)) | refine b_assignF (by kernel_rfl) ?_ | refine b_assignI ?_ | refine b_assignN ?_ | refine b_assign (by (conv => {lhs; whnf}); done) ?_ | refine b_callB ?_ | refine b_lenA (by (conv => {lhs; whnf}); done) (by first | rfl | assumption) ?_ | refine b_ext (by (conv => {lhs; whnf}); done) (by exact rfl) ?_ | refine b_stL (by (conv => {lhs; whnf}); done) (by (conv => {lhs; whnf}); done) (by first | exact (by exact rfl) | exact cells_of_len hF.len | fail) (by exact rfl) (by exact rfl) (by exact Nat.le_of_ble_eq_true rfl) (by (conv => {lhs; simp only [sc, List.set_cons_zero, List.set_cons_succ]}); done) ?_ | refine b_box (by (conv => {lhs; whnf}); done) (by exact rfl) (by exact rfl) (by exact rfl) (by exact rfl) ?_ | refine b_alloc (by exact rfl) (by exact rfl) ?_ | refine b_bslZ (by exact rfl) (by exact rfl) (by decide) ?_ | fail))
    | (refine gateD ?_; (first | refine d_c0 (by exact rfl) ?_ | refine d_nil ?_ | refine d_gT (by exact rfl) (by exact rfl) (by exact rfl) ?_ | refine d_gF (by exact rfl) (by exact rfl) (by exact rfl) (by exact rfl) ?_ | refine d_gU (by exact rfl) (by exact rfl) (by exact rfl) (by constructor <;> simp) (by exact rfl) (by exact rfl) ?_ | (refine d_g0 (by exact rfl) (by exact rfl) (by exact rfl) (by (conv => {lhs; whnf}); done) ?_; (first | refine dg_TT ?_ | refine dg_FF ?_ | refine dg_TF ?_ | refine dg_FT ?_ | refine dg_PT ?_ ?_ | refine dg_PF ?_ ?_ | refine dg_BT ?_ ?_ | refine dg_BF ?_ ?_ | fail)) | (refine d_g1 (by exact rfl) (by exact rfl) (by exact rfl) (by exact rfl) (by (conv => {lhs; whnf}); done) ?_; (first | refine dg_TT ?_ | refine dg_FF ?_ | refine dg_TF ?_ | refine dg_FT ?_ | refine dg_PT ?_ ?_ | refine dg_PF ?_ ?_ | refine dg_BT ?_ ?_ | refine dg_BF ?_ ?_ | fail)) | refine d_c1 (by exact rfl) (by exact rfl) ?_ | fail))
    | (refine gateC ?_; (first | refine k_lt ?_ | refine k_fz ?_ | refine k_lb (by (conv => {lhs; whnf}); done) ?_ | refine k_ms ?_ | refine k_bx (by exact rfl) (by exact rfl) ?_ | refine k_ld (by (conv => {lhs; whnf}); done) (by exact rfl) ?_ | refine k_ldT (by (conv => {lhs; whnf}); done) ?_ | refine k_bin (by (conv => {lhs; whnf}); done) (by exact rfl) ?_ | refine k_mn ?_ | refine k_mnB (by exact rfl) ?_ | refine k_mnF ?_ | refine k_mnL (by exact rfl) ?_ | fail))
    | (refine gateT ?_; (first | refine b_thn ?_ | refine b_thr ?_ | refine b_the ?_ | fail))
    | (refine gateX ?_; (first | refine b_seq ?_ | refine b_region ?_ | (refine b_cond (by (conv => {lhs; whnf}); done) ?_; (first | refine c_T ?_ | refine c_F ?_ | refine c_P ?_ ?_ | refine c_B ?_ ?_ | fail)) | refine b_ret ?_ | refine b_skip ?_ | refine b_block ?_ | refine b_exit ?_ | refine b_draw (id := 9) [] [] [(0, .lt), (1, .ld true), (2, .lt), (5, .ld true), (6, .lt), (3, .mn true), (4, .lt), (7, .mn true), (8, .lt), (9, .lt)] (by kernel_rfl) ?_ | refine b_draw (id := 18) [] [] [(0, .ld true), (1, .lt), (3, .ld true), (4, .lt), (7, .lt), (2, .mn true), (5, .mn true), (6, .lt), (8, .lt), (9, .lt)] (by kernel_rfl) ?_ | (refine b_loop [2, 3, 4, 5, 6, 7, 8, 9, 10] n (fun k => ⟨[(2, .loc 2 0), (3, .loc 3 0), (4, .loc 4 0), (5, .val (.int .i64 (F))), (6, .val (.int .i64 (F + n))), (7, .val (gV H.length 0 k)), (8, .val (.int .i64 (caC (xA a b F) k))), (9, .val (.bool true)), (10, .val (.int .i64 (F + (k : Int))))], [(2, [.bool true, .sl none a.l.length (il a.l), .int .i64 a.e]), (3, [.bool false, .sl none b.l.length (il b.l), .int .i64 b.e]), (4, [.bool false, .slnil, .int .i64 0])], H ++ ([] ++ gN (il (mL (caF (xA a b F)) k)))⟩) (by simp only [Int.natCast_zero, Int.add_zero]; exact rfl) ?_ ?_ <;> (first | intro k hk K hK | intro K) <;> (try dsimp only at *)) | fail))
    | refine a_cons (by (conv => {lhs; whnf}); done) ?_
    | refine a_nil ?_
    | (refine gateK ?_; (first | refine c_call (hend _) (OldOk.refl _ _) ?_ | refine c_call (hata _ _ (by omega)) (OldOk.refl _ _) ?_ | refine c_call (hatb _ _ (by omega)) (OldOk.refl _ _) ?_ | refine c_call (hsz _) (OldOk.refl _ _) ?_ | refine c_call (made_gV _ true _ _ _ (mL (caF (xA a b F)) n ++ [caC (xA a b F) n]) (by simp) (fun h => hg_new (by exact rfl) (gN_il h)) (by omega) F (by omega)) (OldOk.refl _ _) ?_ | fail))
    | refine gk_consF (by kernel_rfl) ?_
    | refine gk_cons (by (conv => {lhs; whnf}); done) ?_
    | (refine gk_nilN (by (conv => {lhs; simp only [List.nil_append, List.cons_append]}); done) ?_; first | refine ⟨by exact rfl, ?_⟩ | skip)
    | refine gk_nil ?_
    | (intro N' hN'; simp only [List.nil_append, List.cons_append] at hN'; subst hN')
    | (refine gateB ?_; (first | refine b_bln ?_ | refine b_blr ?_ | refine b_ble ?_ | refine b_blo (by exact rfl) ?_ | fail))
    | (refine gateL ?_; (first | refine lp_n ?_ | refine lp_r ?_ | refine lp_e ?_ | fail))
    | (refine pr_k (by exact rfl) ?_; first | exact hK | fail | (exfalso; first | omega | (simp_all; done) | (simp_all; omega)))
    | (refine gateQ ?_; refine b_retK (by simp) (by (conv => {lhs; whnf}); done) ?_)
    | (refine gateR ?_; (first | refine rk_tmp (by (conv => {lhs; whnf}); done) ?_ | refine rk_cellA (by (conv => {lhs; whnf}); done) (by exact rfl) (by exact rfl) ?_ | refine rk_cell1 (by (conv => {lhs; whnf}); done) (by exact rfl) (by exact rfl) ?_ | refine rk_nil ?_ | fail))
    | intro _)
  all_goals first
    | (exfalso; omega)
    | (refine rv_fr rfl ?_; exact mR_fr rfl (fun h => gN_il h))
    | (refine rv_fr rfl ?_; exact mR_fr rfl (fun h => rfl))
    | (refine rv_old rfl (by simp [mx, mxL, resOne, aOf, aOf1]) ?_; exact rfl)

set_option maxHeartbeats 4000000 in
theorem dadd_ft (H : List (List AV)) (a : DV) (hag : Digs a.l) (hal : a.l.length ≤ 2 ^ 20) (hae : -1099511627776 ≤ 16 * a.e ∧ 16 * a.e ≤ 1099511627776) (b : DV) (hbg : Digs b.l) (hbl : b.l.length ≤ 2 ^ 20) (hbe : -1099511627776 ≤ 16 * b.e ∧ 16 * b.e ≤ 1099511627776) (F : Int) (n : Nat) (hn : n ≤ 2 ^ 28) (hF : eF a b = F) (hT : eT a b = F + n) (han : a.neg = false) (hbn : b.neg = true) (hem : (a.l.length : Int) = 0 ∨ (b.l.length : Int) = 0) :
    CSpec Try.prog 56 [dV a, dV b] H (dV (mD true (mL (caF (xA a b F)) n ++ [caC (xA a b F) n]) F)) H := by
  have hFr := eF_rng hae hbe
  have hTr := eT_rng hal hbl hae hbe
  have hend := fun H' => ends_c H' a hag hal hae b hbg hbl hbe
  rw [hF, hT] at hend
  have hd1 := fun p => dg_range hag p
  have hd2 := fun p => dg_range hbg p
  have hx : ∀ j, 0 ≤ xA a b F j ∧ xA a b F j < 131072 := fun j => by have h1 := hd1 (F + (j : Int)); have h2 := hd2 (F + (j : Int)); unfold xA; omega
  have hata := fun H' p hp => dat_c H' a hag hal hae p hp
  have hatb := fun H' p hp => dat_c H' b hbg hbl hbe p hp
  have hda : dV a = .agg [.bool false, .sl none a.l.length (il a.l), .int .i64 a.e] := by unfold dV; rw [han]
  have hdb : dV b = .agg [.bool true, .sl none b.l.length (il b.l), .int .i64 b.e] := by unfold dV; rw [hbn]
  simp only [hda, hdb] at hend hata hatb ⊢
  refine .mk (fun args w => Try.call56 args w) (Spec.intro' (fn := Try.f56) Try.func56 rfl (by kernel_rfl) (by simp) false [60, 67, 98] (draw := drawX Try.prog ⟨false, _, [60, 67, 98]⟩) dOk ?_)
  simp only [argE, Nat.reduceAdd]
  repeat' (first
    | (refine gateE ?_; (first | refine b_c0 ?_ | refine b_nil ?_ | refine b_gT (by exact rfl) (by exact rfl) ?_ | refine b_gF (by exact rfl) (by exact rfl) (by exact rfl) ?_ | refine b_gU (by exact rfl) (by exact rfl) (by constructor <;> simp) (by exact rfl) (by exact rfl) ?_ | (refine b_g0 (by exact rfl) (by exact rfl) (by (conv => {lhs; whnf}); done) ?_; (first | refine g_TT ?_ | refine g_FF ?_ | refine g_TF ?_ | refine g_FT ?_ | refine g_PT ?_ ?_ | refine g_PF ?_ ?_ | refine g_BT ?_ ?_ | refine g_BF ?_ ?_ | fail)) | (refine b_g1 (by exact rfl) (by exact rfl) (by exact rfl) (by (conv => {lhs; whnf}); done) ?_; (first | refine g_TT ?_ | refine g_FF ?_ | refine g_TF ?_ | refine g_FT ?_ | refine g_PT ?_ ?_ | refine g_PF ?_ ?_ | refine g_BT ?_ ?_ | refine g_BF ?_ ?_ | fail)) | refine b_c1 (by exact rfl) ?_ | fail))
    | (refine gateO ?_; (first | refine b_move (by (conv => {lhs; whnf}); done) ?_ | (refine b_fa (by (conv => {lhs; whnf}); done) ?_; first | refine f_loc (by (conv => {lhs; whnf}); done) ?_ | refine f_ptr (by (conv => {lhs; whnf}); done) ?_) | (refine b_load (by (conv => {lhs; whnf}); done) ?_; (first | refine l_loc1 (by exact rfl) (by exact rfl) ?_ | refine l_locA (by exact rfl) (by exact rfl) ?_ | fail)) | refine b_lenA (by (conv => {lhs; whnf}); done) (by exact rfl) ?_ | refine b_grow (i := 0) (N₀ := []) (by (conv => {lhs; whnf}); done) (by (conv => {lhs; whnf}); done) (by exact rfl) (by exact rfl) (by simp) (by omega) (by exact rfl) (by exact rfl) (l' := il (mL (caF (xA a b F)) (k + 1))) (by rw [mL_succ, ← il_app]; exact rfl) ?_ | refine b_grow (i := 0) (N₀ := []) (by (conv => {lhs; whnf}); done) (by (conv => {lhs; whnf}); done) (by exact rfl) (by exact rfl) (by simp) (by omega) (by exact rfl) (by exact rfl) (l' := il (mL (caF (xA a b F)) n ++ [caC (xA a b F) n])) (by rw [← il_app]; exact rfl) ?_ | (refine b_binB (by first | (conv => {lhs; whnf}; done) | exact (by exact rfl) | fail) (by first | (conv => {lhs; whnf}; done) | exact (by exact rfl) | fail) ?_; (first | refine v_to (caC (xA a b F) k + dg a (F + (k : Int))) (by have h1 := hd1 (F + (k : Int)); have h3 := caC_range hx k; omega) (by exact rfl) ?_ | refine v_to (caC (xA a b F) k + (xA a b F) k) (by have h1 := hd1 (F + (k : Int)); have h2 := hd2 (F + (k : Int)); have h3 := caC_range hx k; omega) (by exact Int.add_assoc _ _ _) ?_ | refine v_mod (by have h1 := hx k; have h3 := caC_range hx k; omega) (by omega) ?_ | refine v_qc (by have h1 := hx k; have h3 := caC_range hx k; omega) (by omega) ?_ | refine v_to (F + ((k + 1 : Nat) : Int)) (by omega) (by omega) ?_ | refine v_bbT (by exact rfl) ?_ | refine v_k ?_ | fail)) | (refine b_bin (by (conv => {lhs; whnf}); done) (by (conv => {lhs; whnf}); done) (by (conv => {lhs; whnf}); done) ?_; (first | refine v_to (caC (xA a b F) k + dg a (F + (k : Int))) (by have h1 := hd1 (F + (k : Int)); have h3 := caC_range hx k; omega) (by exact rfl) ?_ | refine v_to (caC (xA a b F) k + (xA a b F) k) (by have h1 := hd1 (F + (k : Int)); have h2 := hd2 (F + (k : Int)); have h3 := caC_range hx k; omega) (by exact Int.add_assoc _ _ _) ?_ | refine v_mod (by have h1 := hx k; have h3 := caC_range hx k; omega) (by omega) ?_ | refine v_qc (by have h1 := hx k; have h3 := caC_range hx k; omega) (by omega) ?_ | refine v_to (F + ((k + 1 : Nat) : Int)) (by omega) (by omega) ?_ | refine v_eT (by omega) ?_ | refine v_eF (by omega) ?_ | refine v_eP ?_ | refine v_T (by omega) ?_ | refine v_F (by omega) ?_ | refine v_w (by omega) ?_ | refine v_wu (by omega) ?_ | refine v_mod (by omega) (by omega) ?_ | refine v_qc (by omega) (by omega) ?_ | refine v_k ?_ | refine v_c (by omega) ?_ | fail)) | (refine b_pick (by (conv => {lhs; whnf}); done) ?_; (first | refine p_T (by (conv => {lhs; whnf}); done) ?_ | refine p_F (by (conv => {lhs; whnf}); done) ?_ | fail)) | refine b_assignF (by kernel_rfl) ?_ | refine b_assignI ?_ | refine b_assignN ?_ | refine b_assign (by (conv => {lhs; whnf}); done) ?_ | refine b_callB ?_ | refine b_lenA (by (conv => {lhs; whnf}); done) (by first | rfl | assumption) ?_ | refine b_ext (by (conv => {lhs; whnf}); done) (by exact rfl) ?_ | refine b_stL (by (conv => {lhs; whnf}); done) (by (conv => {lhs; whnf}); done) (by first | exact (by exact rfl) | exact cells_of_len hF.len | fail) (by exact rfl) (by exact rfl) (by exact Nat.le_of_ble_eq_true rfl) (by (conv => {lhs; simp only [sc, List.set_cons_zero, List.set_cons_succ]}); done) ?_ | refine b_box (by (conv => {lhs; whnf}); done) (by exact rfl) (by exact rfl) (by exact rfl) (by exact rfl) ?_ | refine b_alloc (by exact rfl) (by exact rfl) ?_ | refine b_bslZ (by exact rfl) (by exact rfl) (by decide) ?_ | fail))
    | (refine gateD ?_; (first | refine d_c0 (by exact rfl) ?_ | refine d_nil ?_ | refine d_gT (by exact rfl) (by exact rfl) (by exact rfl) ?_ | refine d_gF (by exact rfl) (by exact rfl) (by exact rfl) (by exact rfl) ?_ | refine d_gU (by exact rfl) (by exact rfl) (by exact rfl) (by constructor <;> simp) (by exact rfl) (by exact rfl) ?_ | (refine d_g0 (by exact rfl) (by exact rfl) (by exact rfl) (by (conv => {lhs; whnf}); done) ?_; (first | refine dg_TT ?_ | refine dg_FF ?_ | refine dg_TF ?_ | refine dg_FT ?_ | refine dg_PT ?_ ?_ | refine dg_PF ?_ ?_ | refine dg_BT ?_ ?_ | refine dg_BF ?_ ?_ | fail)) | (refine d_g1 (by exact rfl) (by exact rfl) (by exact rfl) (by exact rfl) (by (conv => {lhs; whnf}); done) ?_; (first | refine dg_TT ?_ | refine dg_FF ?_ | refine dg_TF ?_ | refine dg_FT ?_ | refine dg_PT ?_ ?_ | refine dg_PF ?_ ?_ | refine dg_BT ?_ ?_ | refine dg_BF ?_ ?_ | fail)) | refine d_c1 (by exact rfl) (by exact rfl) ?_ | fail))
    | (refine gateC ?_; (first | refine k_lt ?_ | refine k_fz ?_ | refine k_lb (by (conv => {lhs; whnf}); done) ?_ | refine k_ms ?_ | refine k_bx (by exact rfl) (by exact rfl) ?_ | refine k_ld (by (conv => {lhs; whnf}); done) (by exact rfl) ?_ | refine k_ldT (by (conv => {lhs; whnf}); done) ?_ | refine k_bin (by (conv => {lhs; whnf}); done) (by exact rfl) ?_ | refine k_mn ?_ | refine k_mnB (by exact rfl) ?_ | refine k_mnF ?_ | refine k_mnL (by exact rfl) ?_ | fail))
    | (refine gateT ?_; (first | refine b_thn ?_ | refine b_thr ?_ | refine b_the ?_ | fail))
    | (refine gateX ?_; (first | refine b_seq ?_ | refine b_region ?_ | (refine b_cond (by (conv => {lhs; whnf}); done) ?_; (first | refine c_T ?_ | refine c_F ?_ | refine c_P ?_ ?_ | refine c_B ?_ ?_ | fail)) | refine b_ret ?_ | refine b_skip ?_ | refine b_block ?_ | refine b_exit ?_ | refine b_draw (id := 9) [] [] [(0, .lt), (1, .ld true), (2, .lt), (5, .ld true), (6, .lt), (3, .mn true), (4, .lt), (7, .mn true), (8, .lt), (9, .lt)] (by kernel_rfl) ?_ | refine b_draw (id := 18) [] [] [(0, .ld true), (1, .lt), (3, .ld true), (4, .lt), (7, .lt), (2, .mn true), (5, .mn true), (6, .lt), (8, .lt), (9, .lt)] (by kernel_rfl) ?_ | (refine b_loop [2, 3, 4, 5, 6, 7, 8, 9, 10] n (fun k => ⟨[(2, .loc 2 0), (3, .loc 3 0), (4, .loc 4 0), (5, .val (.int .i64 (F))), (6, .val (.int .i64 (F + n))), (7, .val (gV H.length 0 k)), (8, .val (.int .i64 (caC (xA a b F) k))), (9, .val (.bool true)), (10, .val (.int .i64 (F + (k : Int))))], [(2, [.bool false, .sl none a.l.length (il a.l), .int .i64 a.e]), (3, [.bool true, .sl none b.l.length (il b.l), .int .i64 b.e]), (4, [.bool false, .slnil, .int .i64 0])], H ++ ([] ++ gN (il (mL (caF (xA a b F)) k)))⟩) (by simp only [Int.natCast_zero, Int.add_zero]; exact rfl) ?_ ?_ <;> (first | intro k hk K hK | intro K) <;> (try dsimp only at *)) | fail))
    | refine a_cons (by (conv => {lhs; whnf}); done) ?_
    | refine a_nil ?_
    | (refine gateK ?_; (first | refine c_call (hend _) (OldOk.refl _ _) ?_ | refine c_call (hata _ _ (by omega)) (OldOk.refl _ _) ?_ | refine c_call (hatb _ _ (by omega)) (OldOk.refl _ _) ?_ | refine c_call (hsz _) (OldOk.refl _ _) ?_ | refine c_call (made_gV _ true _ _ _ (mL (caF (xA a b F)) n ++ [caC (xA a b F) n]) (by simp) (fun h => hg_new (by exact rfl) (gN_il h)) (by omega) F (by omega)) (OldOk.refl _ _) ?_ | fail))
    | refine gk_consF (by kernel_rfl) ?_
    | refine gk_cons (by (conv => {lhs; whnf}); done) ?_
    | (refine gk_nilN (by (conv => {lhs; simp only [List.nil_append, List.cons_append]}); done) ?_; first | refine ⟨by exact rfl, ?_⟩ | skip)
    | refine gk_nil ?_
    | (intro N' hN'; simp only [List.nil_append, List.cons_append] at hN'; subst hN')
    | (refine gateB ?_; (first | refine b_bln ?_ | refine b_blr ?_ | refine b_ble ?_ | refine b_blo (by exact rfl) ?_ | fail))
    | (refine gateL ?_; (first | refine lp_n ?_ | refine lp_r ?_ | refine lp_e ?_ | fail))
    | (refine pr_k (by exact rfl) ?_; first | exact hK | fail | (exfalso; first | omega | (simp_all; done) | (simp_all; omega)))
    | (refine gateQ ?_; refine b_retK (by simp) (by (conv => {lhs; whnf}); done) ?_)
    | (refine gateR ?_; (first | refine rk_tmp (by (conv => {lhs; whnf}); done) ?_ | refine rk_cellA (by (conv => {lhs; whnf}); done) (by exact rfl) (by exact rfl) ?_ | refine rk_cell1 (by (conv => {lhs; whnf}); done) (by exact rfl) (by exact rfl) ?_ | refine rk_nil ?_ | fail))
    | intro _)
  all_goals first
    | (exfalso; omega)
    | (refine rv_fr rfl ?_; exact mR_fr rfl (fun h => gN_il h))
    | (refine rv_fr rfl ?_; exact mR_fr rfl (fun h => rfl))
    | (refine rv_old rfl (by simp [mx, mxL, resOne, aOf, aOf1]) ?_; exact rfl)

set_option maxHeartbeats 4000000 in
theorem dsub_tf (H : List (List AV)) (a : DV) (hag : Digs a.l) (hal : a.l.length ≤ 2 ^ 20) (hae : -1099511627776 ≤ 16 * a.e ∧ 16 * a.e ≤ 1099511627776) (b : DV) (hbg : Digs b.l) (hbl : b.l.length ≤ 2 ^ 20) (hbe : -1099511627776 ≤ 16 * b.e ∧ 16 * b.e ≤ 1099511627776) (F : Int) (n : Nat) (hn : n ≤ 2 ^ 28) (hF : eF a b = F) (hT : eT a b = F + n) (han : a.neg = true) (hbn : b.neg = false) (hea : (a.l.length : Int) ≠ 0) (heb : (b.l.length : Int) ≠ 0) (z : Int) (hsz : ∀ H', CSpec Try.prog 126 [dV a, dV b] H' (.int .i64 z) H') (hz : ¬ z < 0) :
    CSpec Try.prog 56 [dV a, dV b] H (dV (mD true (mL (boF (xB a b F)) n) F)) H := by
  have hFr := eF_rng hae hbe
  have hTr := eT_rng hal hbl hae hbe
  have hend := fun H' => ends_c H' a hag hal hae b hbg hbl hbe
  rw [hF, hT] at hend
  have hd1 := fun p => dg_range hag p
  have hd2 := fun p => dg_range hbg p
  have hx : ∀ j, -65536 < (xB a b F) j ∧ (xB a b F) j < 65536 := fun j => by have h1 := hd1 (F + (j : Int)); have h2 := hd2 (F + (j : Int)); unfold xB; omega
  have hata := fun H' p hp => dat_c H' a hag hal hae p hp
  have hatb := fun H' p hp => dat_c H' b hbg hbl hbe p hp
  have hda : dV a = .agg [.bool true, .sl none a.l.length (il a.l), .int .i64 a.e] := by unfold dV; rw [han]
  have hdb : dV b = .agg [.bool false, .sl none b.l.length (il b.l), .int .i64 b.e] := by unfold dV; rw [hbn]
  simp only [hda, hdb] at hend hata hatb hsz ⊢
  refine .mk (fun args w => Try.call56 args w) (Spec.intro' (fn := Try.f56) Try.func56 rfl (by kernel_rfl) (by simp) false [60, 67, 98] (draw := drawX Try.prog ⟨false, _, [60, 67, 98]⟩) dOk ?_)
  simp only [argE, Nat.reduceAdd]
  repeat' (first
    | (refine gateE ?_; (first | refine b_c0 ?_ | refine b_nil ?_ | refine b_gT (by exact rfl) (by exact rfl) ?_ | refine b_gF (by exact rfl) (by exact rfl) (by exact rfl) ?_ | refine b_gU (by exact rfl) (by exact rfl) (by constructor <;> simp) (by exact rfl) (by exact rfl) ?_ | (refine b_g0 (by exact rfl) (by exact rfl) (by (conv => {lhs; whnf}); done) ?_; (first | refine g_TT ?_ | refine g_FF ?_ | refine g_TF ?_ | refine g_FT ?_ | refine g_PT ?_ ?_ | refine g_PF ?_ ?_ | refine g_BT ?_ ?_ | refine g_BF ?_ ?_ | fail)) | (refine b_g1 (by exact rfl) (by exact rfl) (by exact rfl) (by (conv => {lhs; whnf}); done) ?_; (first | refine g_TT ?_ | refine g_FF ?_ | refine g_TF ?_ | refine g_FT ?_ | refine g_PT ?_ ?_ | refine g_PF ?_ ?_ | refine g_BT ?_ ?_ | refine g_BF ?_ ?_ | fail)) | refine b_c1 (by exact rfl) ?_ | fail))
    | (refine gateO ?_; (first | refine b_move (by (conv => {lhs; whnf}); done) ?_ | (refine b_fa (by (conv => {lhs; whnf}); done) ?_; first | refine f_loc (by (conv => {lhs; whnf}); done) ?_ | refine f_ptr (by (conv => {lhs; whnf}); done) ?_) | (refine b_load (by (conv => {lhs; whnf}); done) ?_; (first | refine l_loc1 (by exact rfl) (by exact rfl) ?_ | refine l_locA (by exact rfl) (by exact rfl) ?_ | fail)) | refine b_lenA (by (conv => {lhs; whnf}); done) (by exact rfl) ?_ | refine b_grow (i := 0) (N₀ := []) (by (conv => {lhs; whnf}); done) (by (conv => {lhs; whnf}); done) (by exact rfl) (by exact rfl) (by simp) (by omega) (by exact rfl) (by exact rfl) (l' := il (mL (boF (xB a b F)) (k + 1))) (by rw [mL_succ, boF_T (by assumption), ← il_app]; exact rfl) ?_ | refine b_grow (i := 0) (N₀ := []) (by (conv => {lhs; whnf}); done) (by (conv => {lhs; whnf}); done) (by exact rfl) (by exact rfl) (by simp) (by omega) (by exact rfl) (by exact rfl) (l' := il (mL (boF (xB a b F)) (k + 1))) (by rw [mL_succ, boF_F (by assumption), ← il_app]; exact rfl) ?_ | (refine b_binB (by first | (conv => {lhs; whnf}; done) | exact (by exact rfl) | fail) (by first | (conv => {lhs; whnf}; done) | exact (by exact rfl) | fail) ?_; (first | refine v_to ((xB a b F) k) (by have h1 := hx k; unfold xB at h1; omega) (by exact rfl) ?_ | refine v_to ((xB a b F) k - boC (xB a b F) k) (by have h1 := hx k; have h3 := boC_range (xB a b F) k; omega) (by exact rfl) ?_ | refine v_to ((xB a b F) k - boC (xB a b F) k + 65536) (by have h1 := hx k; have h3 := boC_range (xB a b F) k; omega) (by exact rfl) ?_ | refine v_to (F + ((k + 1 : Nat) : Int)) (by omega) (by omega) ?_ | refine v_bbT (by exact rfl) ?_ | refine v_k ?_ | fail)) | (refine b_bin (by (conv => {lhs; whnf}); done) (by (conv => {lhs; whnf}); done) (by (conv => {lhs; whnf}); done) ?_; (first | refine v_to ((xB a b F) k) (by have h1 := hx k; unfold xB at h1; omega) (by exact rfl) ?_ | refine v_to ((xB a b F) k - boC (xB a b F) k) (by have h1 := hx k; have h3 := boC_range (xB a b F) k; omega) (by exact rfl) ?_ | refine v_to ((xB a b F) k - boC (xB a b F) k + 65536) (by have h1 := hx k; have h3 := boC_range (xB a b F) k; omega) (by exact rfl) ?_ | refine v_to (F + ((k + 1 : Nat) : Int)) (by omega) (by omega) ?_ | refine v_eT (by omega) ?_ | refine v_eF (by omega) ?_ | refine v_eP ?_ | refine v_T (by omega) ?_ | refine v_F (by omega) ?_ | refine v_w (by omega) ?_ | refine v_wu (by omega) ?_ | refine v_mod (by omega) (by omega) ?_ | refine v_qc (by omega) (by omega) ?_ | refine v_k ?_ | refine v_c (by omega) ?_ | fail)) | (refine b_pick (by (conv => {lhs; whnf}); done) ?_; (first | refine p_T (by (conv => {lhs; whnf}); done) ?_ | refine p_F (by (conv => {lhs; whnf}); done) ?_ | fail)) | refine b_assignF (by kernel_rfl) ?_ | refine b_assignI ?_ | refine b_assignN ?_ | refine b_assign (by (conv => {lhs; whnf}); done) ?_ | refine b_callB ?_ | refine b_lenA (by (conv => {lhs; whnf}); done) (by first | rfl | assumption) ?_ | refine b_ext (by (conv => {lhs; whnf}); done) (by exact rfl) ?_ | refine b_stL (by (conv => {lhs; whnf}); done) (by (conv => {lhs; whnf}); done) (by first | exact (by exact rfl) | exact cells_of_len hF.len | fail) (by exact rfl) (by exact rfl) (by exact Nat.le_of_ble_eq_true rfl) (by (conv => {lhs; simp only [sc, List.set_cons_zero, List.set_cons_succ]}); done) ?_ | refine b_box (by (conv => {lhs; whnf}); done) (by exact rfl) (by exact rfl) (by exact rfl) (by exact rfl) ?_ | refine b_alloc (by exact rfl) (by exact rfl) ?_ | refine b_bslZ (by exact rfl) (by exact rfl) (by decide) ?_ | fail))
    | (refine gateD ?_; (first | refine d_c0 (by exact rfl) ?_ | refine d_nil ?_ | refine d_gT (by exact rfl) (by exact rfl) (by exact rfl) ?_ | refine d_gF (by exact rfl) (by exact rfl) (by exact rfl) (by exact rfl) ?_ | refine d_gU (by exact rfl) (by exact rfl) (by exact rfl) (by constructor <;> simp) (by exact rfl) (by exact rfl) ?_ | (refine d_g0 (by exact rfl) (by exact rfl) (by exact rfl) (by (conv => {lhs; whnf}); done) ?_; (first | refine dg_TT ?_ | refine dg_FF ?_ | refine dg_TF ?_ | refine dg_FT ?_ | refine dg_PT ?_ ?_ | refine dg_PF ?_ ?_ | refine dg_BT ?_ ?_ | refine dg_BF ?_ ?_ | fail)) | (refine d_g1 (by exact rfl) (by exact rfl) (by exact rfl) (by exact rfl) (by (conv => {lhs; whnf}); done) ?_; (first | refine dg_TT ?_ | refine dg_FF ?_ | refine dg_TF ?_ | refine dg_FT ?_ | refine dg_PT ?_ ?_ | refine dg_PF ?_ ?_ | refine dg_BT ?_ ?_ | refine dg_BF ?_ ?_ | fail)) | refine d_c1 (by exact rfl) (by exact rfl) ?_ | fail))
    | (refine gateC ?_; (first | refine k_lt ?_ | refine k_fz ?_ | refine k_lb (by (conv => {lhs; whnf}); done) ?_ | refine k_ms ?_ | refine k_bx (by exact rfl) (by exact rfl) ?_ | refine k_ld (by (conv => {lhs; whnf}); done) (by exact rfl) ?_ | refine k_ldT (by (conv => {lhs; whnf}); done) ?_ | refine k_bin (by (conv => {lhs; whnf}); done) (by exact rfl) ?_ | refine k_mn ?_ | refine k_mnB (by exact rfl) ?_ | refine k_mnF ?_ | refine k_mnL (by exact rfl) ?_ | fail))
    | (refine gateT ?_; (first | refine b_thn ?_ | refine b_thr ?_ | refine b_the ?_ | fail))
    | (refine gateX ?_; (first | refine b_seq ?_ | refine b_region ?_ | (refine b_cond (by (conv => {lhs; whnf}); done) ?_; (first | refine c_T ?_ | refine c_F ?_ | refine c_P ?_ ?_ | refine c_B ?_ ?_ | fail)) | refine b_ret ?_ | refine b_skip ?_ | refine b_block ?_ | refine b_exit ?_ | refine b_draw (id := 9) [] [] [(0, .lt), (1, .ld true), (2, .lt), (5, .ld true), (6, .lt), (3, .mn true), (4, .lt), (7, .mn true), (8, .lt), (9, .lt)] (by kernel_rfl) ?_ | refine b_draw (id := 18) [] [] [(0, .ld true), (1, .lt), (3, .ld true), (4, .lt), (7, .lt), (2, .mn true), (5, .mn true), (6, .lt), (8, .lt), (9, .lt)] (by kernel_rfl) ?_ | (refine b_loop [2, 3, 4, 5, 6, 7, 8, 11] n (fun k => ⟨[(2, .loc 2 0), (3, .loc 3 0), (4, .loc 4 0), (5, .val (.int .i64 (F))), (6, .val (.int .i64 (F + n))), (7, .val (gV H.length 0 k)), (8, .val (.int .i64 (boC (xB a b F) k))), (11, .val (.int .i64 (F + (k : Int))))], [(2, [.bool true, .sl none a.l.length (il a.l), .int .i64 a.e]), (3, [.bool false, .sl none b.l.length (il b.l), .int .i64 b.e]), (4, [.bool false, .slnil, .int .i64 0])], H ++ ([] ++ gN (il (mL (boF (xB a b F)) k)))⟩) (by simp only [Int.natCast_zero, Int.add_zero]; exact rfl) ?_ ?_ <;> (first | intro k hk K hK | intro K) <;> (try dsimp only at *)) | fail))
    | refine a_cons (by (conv => {lhs; whnf}); done) ?_
    | refine a_nil ?_
    | (refine gateK ?_; (first | refine c_call (hend _) (OldOk.refl _ _) ?_ | refine c_call (hata _ _ (by omega)) (OldOk.refl _ _) ?_ | refine c_call (hatb _ _ (by omega)) (OldOk.refl _ _) ?_ | refine c_call (hsz _) (OldOk.refl _ _) ?_ | refine c_call (made_gV _ true _ _ _ (mL (boF (xB a b F)) n) (by simp) (fun h => hg_new (by exact rfl) (gN_il h)) (by omega) F (by omega)) (OldOk.refl _ _) ?_ | fail))
    | refine gk_consF (by kernel_rfl) ?_
    | refine gk_cons (by (conv => {lhs; whnf}); done) ?_
    | (refine gk_nilN (by (conv => {lhs; simp only [List.nil_append, List.cons_append]}); done) ?_; first | refine ⟨by exact rfl, ?_⟩ | skip)
    | refine gk_nil ?_
    | (intro N' hN'; simp only [List.nil_append, List.cons_append] at hN'; subst hN')
    | (refine gateB ?_; (first | refine b_bln ?_ | refine b_blr ?_ | refine b_ble ?_ | refine b_blo (by exact rfl) ?_ | fail))
    | (refine gateL ?_; (first | refine lp_n ?_ | refine lp_r ?_ | refine lp_e ?_ | fail))
    | (refine pr_k (by exact rfl) ?_; first | exact hK | (rw [boC_T (by assumption)] at hK; exact hK) | (rw [boC_F (by assumption)] at hK; exact hK) | (exfalso; first | omega | (simp_all; done) | (simp_all; omega)))
    | (refine gateQ ?_; refine b_retK (by simp) (by (conv => {lhs; whnf}); done) ?_)
    | (refine gateR ?_; (first | refine rk_tmp (by (conv => {lhs; whnf}); done) ?_ | refine rk_cellA (by (conv => {lhs; whnf}); done) (by exact rfl) (by exact rfl) ?_ | refine rk_cell1 (by (conv => {lhs; whnf}); done) (by exact rfl) (by exact rfl) ?_ | refine rk_nil ?_ | fail))
    | intro _)
  all_goals first
    | (exfalso; omega)
    | (refine rv_fr rfl ?_; exact mR_fr rfl (fun h => gN_il h))
    | (refine rv_fr rfl ?_; exact mR_fr rfl (fun h => rfl))
    | (refine rv_old rfl (by simp [mx, mxL, resOne, aOf, aOf1]) ?_; exact rfl)

set_option maxHeartbeats 4000000 in
theorem dsub_tfs (H : List (List AV)) (a : DV) (hag : Digs a.l) (hal : a.l.length ≤ 2 ^ 20) (hae : -1099511627776 ≤ 16 * a.e ∧ 16 * a.e ≤ 1099511627776) (b : DV) (hbg : Digs b.l) (hbl : b.l.length ≤ 2 ^ 20) (hbe : -1099511627776 ≤ 16 * b.e ∧ 16 * b.e ≤ 1099511627776) (F : Int) (n : Nat) (hn : n ≤ 2 ^ 28) (hF : eF a b = F) (hT : eT a b = F + n) (han : a.neg = true) (hbn : b.neg = false) (hea : (a.l.length : Int) ≠ 0) (heb : (b.l.length : Int) ≠ 0) (z : Int) (hsz : ∀ H', CSpec Try.prog 126 [dV a, dV b] H' (.int .i64 z) H') (hz : z < 0) :
    CSpec Try.prog 56 [dV a, dV b] H (dV (mD false (mL (boF (xB b a F)) n) F)) H := by
  have hFr := eF_rng hae hbe
  have hTr := eT_rng hal hbl hae hbe
  have hend := fun H' => ends_c H' a hag hal hae b hbg hbl hbe
  rw [hF, hT] at hend
  have hd1 := fun p => dg_range hag p
  have hd2 := fun p => dg_range hbg p
  have hx : ∀ j, -65536 < (xB b a F) j ∧ (xB b a F) j < 65536 := fun j => by have h1 := hd1 (F + (j : Int)); have h2 := hd2 (F + (j : Int)); unfold xB; omega
  have hata := fun H' p hp => dat_c H' a hag hal hae p hp
  have hatb := fun H' p hp => dat_c H' b hbg hbl hbe p hp
  have hda : dV a = .agg [.bool true, .sl none a.l.length (il a.l), .int .i64 a.e] := by unfold dV; rw [han]
  have hdb : dV b = .agg [.bool false, .sl none b.l.length (il b.l), .int .i64 b.e] := by unfold dV; rw [hbn]
  simp only [hda, hdb] at hend hata hatb hsz ⊢
  refine .mk (fun args w => Try.call56 args w) (Spec.intro' (fn := Try.f56) Try.func56 rfl (by kernel_rfl) (by simp) false [60, 67, 98] (draw := drawX Try.prog ⟨false, _, [60, 67, 98]⟩) dOk ?_)
  simp only [argE, Nat.reduceAdd]
  repeat' (first
    | (refine gateE ?_; (first | refine b_c0 ?_ | refine b_nil ?_ | refine b_gT (by exact rfl) (by exact rfl) ?_ | refine b_gF (by exact rfl) (by exact rfl) (by exact rfl) ?_ | refine b_gU (by exact rfl) (by exact rfl) (by constructor <;> simp) (by exact rfl) (by exact rfl) ?_ | (refine b_g0 (by exact rfl) (by exact rfl) (by (conv => {lhs; whnf}); done) ?_; (first | refine g_TT ?_ | refine g_FF ?_ | refine g_TF ?_ | refine g_FT ?_ | refine g_PT ?_ ?_ | refine g_PF ?_ ?_ | refine g_BT ?_ ?_ | refine g_BF ?_ ?_ | fail)) | (refine b_g1 (by exact rfl) (by exact rfl) (by exact rfl) (by (conv => {lhs; whnf}); done) ?_; (first | refine g_TT ?_ | refine g_FF ?_ | refine g_TF ?_ | refine g_FT ?_ | refine g_PT ?_ ?_ | refine g_PF ?_ ?_ | refine g_BT ?_ ?_ | refine g_BF ?_ ?_ | fail)) | refine b_c1 (by exact rfl) ?_ | fail))
    | (refine gateO ?_; (first | refine b_move (by (conv => {lhs; whnf}); done) ?_ | (refine b_fa (by (conv => {lhs; whnf}); done) ?_; first | refine f_loc (by (conv => {lhs; whnf}); done) ?_ | refine f_ptr (by (conv => {lhs; whnf}); done) ?_) | (refine b_load (by (conv => {lhs; whnf}); done) ?_; (first | refine l_loc1 (by exact rfl) (by exact rfl) ?_ | refine l_locA (by exact rfl) (by exact rfl) ?_ | fail)) | refine b_lenA (by (conv => {lhs; whnf}); done) (by exact rfl) ?_ | refine b_grow (i := 0) (N₀ := []) (by (conv => {lhs; whnf}); done) (by (conv => {lhs; whnf}); done) (by exact rfl) (by exact rfl) (by simp) (by omega) (by exact rfl) (by exact rfl) (l' := il (mL (boF (xB b a F)) (k + 1))) (by rw [mL_succ, boF_T (by assumption), ← il_app]; exact rfl) ?_ | refine b_grow (i := 0) (N₀ := []) (by (conv => {lhs; whnf}); done) (by (conv => {lhs; whnf}); done) (by exact rfl) (by exact rfl) (by simp) (by omega) (by exact rfl) (by exact rfl) (l' := il (mL (boF (xB b a F)) (k + 1))) (by rw [mL_succ, boF_F (by assumption), ← il_app]; exact rfl) ?_ | (refine b_binB (by first | (conv => {lhs; whnf}; done) | exact (by exact rfl) | fail) (by first | (conv => {lhs; whnf}; done) | exact (by exact rfl) | fail) ?_; (first | refine v_to ((xB b a F) k) (by have h1 := hx k; unfold xB at h1; omega) (by exact rfl) ?_ | refine v_to ((xB b a F) k - boC (xB b a F) k) (by have h1 := hx k; have h3 := boC_range (xB b a F) k; omega) (by exact rfl) ?_ | refine v_to ((xB b a F) k - boC (xB b a F) k + 65536) (by have h1 := hx k; have h3 := boC_range (xB b a F) k; omega) (by exact rfl) ?_ | refine v_to (F + ((k + 1 : Nat) : Int)) (by omega) (by omega) ?_ | refine v_bbT (by exact rfl) ?_ | refine v_k ?_ | fail)) | (refine b_bin (by (conv => {lhs; whnf}); done) (by (conv => {lhs; whnf}); done) (by (conv => {lhs; whnf}); done) ?_; (first | refine v_to ((xB b a F) k) (by have h1 := hx k; unfold xB at h1; omega) (by exact rfl) ?_ | refine v_to ((xB b a F) k - boC (xB b a F) k) (by have h1 := hx k; have h3 := boC_range (xB b a F) k; omega) (by exact rfl) ?_ | refine v_to ((xB b a F) k - boC (xB b a F) k + 65536) (by have h1 := hx k; have h3 := boC_range (xB b a F) k; omega) (by exact rfl) ?_ | refine v_to (F + ((k + 1 : Nat) : Int)) (by omega) (by omega) ?_ | refine v_eT (by omega) ?_ | refine v_eF (by omega) ?_ | refine v_eP ?_ | refine v_T (by omega) ?_ | refine v_F (by omega) ?_ | refine v_w (by omega) ?_ | refine v_wu (by omega) ?_ | refine v_mod (by omega) (by omega) ?_ | refine v_qc (by omega) (by omega) ?_ | refine v_k ?_ | refine v_c (by omega) ?_ | fail)) | (refine b_pick (by (conv => {lhs; whnf}); done) ?_; (first | refine p_T (by (conv => {lhs; whnf}); done) ?_ | refine p_F (by (conv => {lhs; whnf}); done) ?_ | fail)) | refine b_assignF (by kernel_rfl) ?_ | refine b_assignI ?_ | refine b_assignN ?_ | refine b_assign (by (conv => {lhs; whnf}); done) ?_ | refine b_callB ?_ | refine b_lenA (by (conv => {lhs; whnf}); done) (by first | rfl | assumption) ?_ | refine b_ext (by (conv => {lhs; whnf}); done) (by exact rfl) ?_ | refine b_stL (by (conv => {lhs; whnf}); done) (by (conv => {lhs; whnf}); done) (by first | exact (by exact rfl) | exact cells_of_len hF.len | fail) (by exact rfl) (by exact rfl) (by exact Nat.le_of_ble_eq_true rfl) (by (conv => {lhs; simp only [sc, List.set_cons_zero, List.set_cons_succ]}); done) ?_ | refine b_box (by (conv => {lhs; whnf}); done) (by exact rfl) (by exact rfl) (by exact rfl) (by exact rfl) ?_ | refine b_alloc (by exact rfl) (by exact rfl) ?_ | refine b_bslZ (by exact rfl) (by exact rfl) (by decide) ?_ | fail))
    | (refine gateD ?_; (first | refine d_c0 (by exact rfl) ?_ | refine d_nil ?_ | refine d_gT (by exact rfl) (by exact rfl) (by exact rfl) ?_ | refine d_gF (by exact rfl) (by exact rfl) (by exact rfl) (by exact rfl) ?_ | refine d_gU (by exact rfl) (by exact rfl) (by exact rfl) (by constructor <;> simp) (by exact rfl) (by exact rfl) ?_ | (refine d_g0 (by exact rfl) (by exact rfl) (by exact rfl) (by (conv => {lhs; whnf}); done) ?_; (first | refine dg_TT ?_ | refine dg_FF ?_ | refine dg_TF ?_ | refine dg_FT ?_ | refine dg_PT ?_ ?_ | refine dg_PF ?_ ?_ | refine dg_BT ?_ ?_ | refine dg_BF ?_ ?_ | fail)) | (refine d_g1 (by exact rfl) (by exact rfl) (by exact rfl) (by exact rfl) (by (conv => {lhs; whnf}); done) ?_; (first | refine dg_TT ?_ | refine dg_FF ?_ | refine dg_TF ?_ | refine dg_FT ?_ | refine dg_PT ?_ ?_ | refine dg_PF ?_ ?_ | refine dg_BT ?_ ?_ | refine dg_BF ?_ ?_ | fail)) | refine d_c1 (by exact rfl) (by exact rfl) ?_ | fail))
    | (refine gateC ?_; (first | refine k_lt ?_ | refine k_fz ?_ | refine k_lb (by (conv => {lhs; whnf}); done) ?_ | refine k_ms ?_ | refine k_bx (by exact rfl) (by exact rfl) ?_ | refine k_ld (by (conv => {lhs; whnf}); done) (by exact rfl) ?_ | refine k_ldT (by (conv => {lhs; whnf}); done) ?_ | refine k_bin (by (conv => {lhs; whnf}); done) (by exact rfl) ?_ | refine k_mn ?_ | refine k_mnB (by exact rfl) ?_ | refine k_mnF ?_ | refine k_mnL (by exact rfl) ?_ | fail))
    | (refine gateT ?_; (first | refine b_thn ?_ | refine b_thr ?_ | refine b_the ?_ | fail))
    | (refine gateX ?_; (first | refine b_seq ?_ | refine b_region ?_ | (refine b_cond (by (conv => {lhs; whnf}); done) ?_; (first | refine c_T ?_ | refine c_F ?_ | refine c_P ?_ ?_ | refine c_B ?_ ?_ | fail)) | refine b_ret ?_ | refine b_skip ?_ | refine b_block ?_ | refine b_exit ?_ | refine b_draw (id := 9) [] [] [(0, .lt), (1, .ld true), (2, .lt), (5, .ld true), (6, .lt), (3, .mn true), (4, .lt), (7, .mn true), (8, .lt), (9, .lt)] (by kernel_rfl) ?_ | refine b_draw (id := 18) [] [] [(0, .ld true), (1, .lt), (3, .ld true), (4, .lt), (7, .lt), (2, .mn true), (5, .mn true), (6, .lt), (8, .lt), (9, .lt)] (by kernel_rfl) ?_ | (refine b_loop [2, 3, 4, 5, 6, 7, 8, 11] n (fun k => ⟨[(2, .loc 2 0), (3, .loc 3 0), (4, .loc 4 0), (5, .val (.int .i64 (F))), (6, .val (.int .i64 (F + n))), (7, .val (gV H.length 0 k)), (8, .val (.int .i64 (boC (xB b a F) k))), (11, .val (.int .i64 (F + (k : Int))))], [(2, [.bool false, .sl none b.l.length (il b.l), .int .i64 b.e]), (3, [.bool true, .sl none a.l.length (il a.l), .int .i64 a.e]), (4, [.bool false, .slnil, .int .i64 0])], H ++ ([] ++ gN (il (mL (boF (xB b a F)) k)))⟩) (by simp only [Int.natCast_zero, Int.add_zero]; exact rfl) ?_ ?_ <;> (first | intro k hk K hK | intro K) <;> (try dsimp only at *)) | fail))
    | refine a_cons (by (conv => {lhs; whnf}); done) ?_
    | refine a_nil ?_
    | (refine gateK ?_; (first | refine c_call (hend _) (OldOk.refl _ _) ?_ | refine c_call (hata _ _ (by omega)) (OldOk.refl _ _) ?_ | refine c_call (hatb _ _ (by omega)) (OldOk.refl _ _) ?_ | refine c_call (hsz _) (OldOk.refl _ _) ?_ | refine c_call (made_gV _ false _ _ _ (mL (boF (xB b a F)) n) (by simp) (fun h => hg_new (by exact rfl) (gN_il h)) (by omega) F (by omega)) (OldOk.refl _ _) ?_ | fail))
    | refine gk_consF (by kernel_rfl) ?_
    | refine gk_cons (by (conv => {lhs; whnf}); done) ?_
    | (refine gk_nilN (by (conv => {lhs; simp only [List.nil_append, List.cons_append]}); done) ?_; first | refine ⟨by exact rfl, ?_⟩ | skip)
    | refine gk_nil ?_
    | (intro N' hN'; simp only [List.nil_append, List.cons_append] at hN'; subst hN')
    | (refine gateB ?_; (first | refine b_bln ?_ | refine b_blr ?_ | refine b_ble ?_ | refine b_blo (by exact rfl) ?_ | fail))
    | (refine gateL ?_; (first | refine lp_n ?_ | refine lp_r ?_ | refine lp_e ?_ | fail))
    | (refine pr_k (by exact rfl) ?_; first | exact hK | (rw [boC_T (by assumption)] at hK; exact hK) | (rw [boC_F (by assumption)] at hK; exact hK) | (exfalso; first | omega | (simp_all; done) | (simp_all; omega)))
    | (refine gateQ ?_; refine b_retK (by simp) (by (conv => {lhs; whnf}); done) ?_)
    | (refine gateR ?_; (first | refine rk_tmp (by (conv => {lhs; whnf}); done) ?_ | refine rk_cellA (by (conv => {lhs; whnf}); done) (by exact rfl) (by exact rfl) ?_ | refine rk_cell1 (by (conv => {lhs; whnf}); done) (by exact rfl) (by exact rfl) ?_ | refine rk_nil ?_ | fail))
    | intro _)
  all_goals first
    | (exfalso; omega)
    | (refine rv_fr rfl ?_; exact mR_fr rfl (fun h => gN_il h))
    | (refine rv_fr rfl ?_; exact mR_fr rfl (fun h => rfl))
    | (refine rv_old rfl (by simp [mx, mxL, resOne, aOf, aOf1]) ?_; exact rfl)

set_option maxHeartbeats 4000000 in
theorem dsub_ft (H : List (List AV)) (a : DV) (hag : Digs a.l) (hal : a.l.length ≤ 2 ^ 20) (hae : -1099511627776 ≤ 16 * a.e ∧ 16 * a.e ≤ 1099511627776) (b : DV) (hbg : Digs b.l) (hbl : b.l.length ≤ 2 ^ 20) (hbe : -1099511627776 ≤ 16 * b.e ∧ 16 * b.e ≤ 1099511627776) (F : Int) (n : Nat) (hn : n ≤ 2 ^ 28) (hF : eF a b = F) (hT : eT a b = F + n) (han : a.neg = false) (hbn : b.neg = true) (hea : (a.l.length : Int) ≠ 0) (heb : (b.l.length : Int) ≠ 0) (z : Int) (hsz : ∀ H', CSpec Try.prog 126 [dV a, dV b] H' (.int .i64 z) H') (hz : ¬ z < 0) :
    CSpec Try.prog 56 [dV a, dV b] H (dV (mD false (mL (boF (xB a b F)) n) F)) H := by
  have hFr := eF_rng hae hbe
  have hTr := eT_rng hal hbl hae hbe
  have hend := fun H' => ends_c H' a hag hal hae b hbg hbl hbe
  rw [hF, hT] at hend
  have hd1 := fun p => dg_range hag p
  have hd2 := fun p => dg_range hbg p
  have hx : ∀ j, -65536 < (xB a b F) j ∧ (xB a b F) j < 65536 := fun j => by have h1 := hd1 (F + (j : Int)); have h2 := hd2 (F + (j : Int)); unfold xB; omega
  have hata := fun H' p hp => dat_c H' a hag hal hae p hp
  have hatb := fun H' p hp => dat_c H' b hbg hbl hbe p hp
  have hda : dV a = .agg [.bool false, .sl none a.l.length (il a.l), .int .i64 a.e] := by unfold dV; rw [han]
  have hdb : dV b = .agg [.bool true, .sl none b.l.length (il b.l), .int .i64 b.e] := by unfold dV; rw [hbn]
  simp only [hda, hdb] at hend hata hatb hsz ⊢
  refine .mk (fun args w => Try.call56 args w) (Spec.intro' (fn := Try.f56) Try.func56 rfl (by kernel_rfl) (by simp) false [60, 67, 98] (draw := drawX Try.prog ⟨false, _, [60, 67, 98]⟩) dOk ?_)
  simp only [argE, Nat.reduceAdd]
  repeat' (first
    | (refine gateE ?_; (first | refine b_c0 ?_ | refine b_nil ?_ | refine b_gT (by exact rfl) (by exact rfl) ?_ | refine b_gF (by exact rfl) (by exact rfl) (by exact rfl) ?_ | refine b_gU (by exact rfl) (by exact rfl) (by constructor <;> simp) (by exact rfl) (by exact rfl) ?_ | (refine b_g0 (by exact rfl) (by exact rfl) (by (conv => {lhs; whnf}); done) ?_; (first | refine g_TT ?_ | refine g_FF ?_ | refine g_TF ?_ | refine g_FT ?_ | refine g_PT ?_ ?_ | refine g_PF ?_ ?_ | refine g_BT ?_ ?_ | refine g_BF ?_ ?_ | fail)) | (refine b_g1 (by exact rfl) (by exact rfl) (by exact rfl) (by (conv => {lhs; whnf}); done) ?_; (first | refine g_TT ?_ | refine g_FF ?_ | refine g_TF ?_ | refine g_FT ?_ | refine g_PT ?_ ?_ | refine g_PF ?_ ?_ | refine g_BT ?_ ?_ | refine g_BF ?_ ?_ | fail)) | refine b_c1 (by exact rfl) ?_ | fail))
    | (refine gateO ?_; (first | refine b_move (by (conv => {lhs; whnf}); done) ?_ | (refine b_fa (by (conv => {lhs; whnf}); done) ?_; first | refine f_loc (by (conv => {lhs; whnf}); done) ?_ | refine f_ptr (by (conv => {lhs; whnf}); done) ?_) | (refine b_load (by (conv => {lhs; whnf}); done) ?_; (first | refine l_loc1 (by exact rfl) (by exact rfl) ?_ | refine l_locA (by exact rfl) (by exact rfl) ?_ | fail)) | refine b_lenA (by (conv => {lhs; whnf}); done) (by exact rfl) ?_ | refine b_grow (i := 0) (N₀ := []) (by (conv => {lhs; whnf}); done) (by (conv => {lhs; whnf}); done) (by exact rfl) (by exact rfl) (by simp) (by omega) (by exact rfl) (by exact rfl) (l' := il (mL (boF (xB a b F)) (k + 1))) (by rw [mL_succ, boF_T (by assumption), ← il_app]; exact rfl) ?_ | refine b_grow (i := 0) (N₀ := []) (by (conv => {lhs; whnf}); done) (by (conv => {lhs; whnf}); done) (by exact rfl) (by exact rfl) (by simp) (by omega) (by exact rfl) (by exact rfl) (l' := il (mL (boF (xB a b F)) (k + 1))) (by rw [mL_succ, boF_F (by assumption), ← il_app]; exact rfl) ?_ | (refine b_binB (by first | (conv => {lhs; whnf}; done) | exact (by exact rfl) | fail) (by first | (conv => {lhs; whnf}; done) | exact (by exact rfl) | fail) ?_; (first | refine v_to ((xB a b F) k) (by have h1 := hx k; unfold xB at h1; omega) (by exact rfl) ?_ | refine v_to ((xB a b F) k - boC (xB a b F) k) (by have h1 := hx k; have h3 := boC_range (xB a b F) k; omega) (by exact rfl) ?_ | refine v_to ((xB a b F) k - boC (xB a b F) k + 65536) (by have h1 := hx k; have h3 := boC_range (xB a b F) k; omega) (by exact rfl) ?_ | refine v_to (F + ((k + 1 : Nat) : Int)) (by omega) (by omega) ?_ | refine v_bbT (by exact rfl) ?_ | refine v_k ?_ | fail)) | (refine b_bin (by (conv => {lhs; whnf}); done) (by (conv => {lhs; whnf}); done) (by (conv => {lhs; whnf}); done) ?_; (first | refine v_to ((xB a b F) k) (by have h1 := hx k; unfold xB at h1; omega) (by exact rfl) ?_ | refine v_to ((xB a b F) k - boC (xB a b F) k) (by have h1 := hx k; have h3 := boC_range (xB a b F) k; omega) (by exact rfl) ?_ | refine v_to ((xB a b F) k - boC (xB a b F) k + 65536) (by have h1 := hx k; have h3 := boC_range (xB a b F) k; omega) (by exact rfl) ?_ | refine v_to (F + ((k + 1 : Nat) : Int)) (by omega) (by omega) ?_ | refine v_eT (by omega) ?_ | refine v_eF (by omega) ?_ | refine v_eP ?_ | refine v_T (by omega) ?_ | refine v_F (by omega) ?_ | refine v_w (by omega) ?_ | refine v_wu (by omega) ?_ | refine v_mod (by omega) (by omega) ?_ | refine v_qc (by omega) (by omega) ?_ | refine v_k ?_ | refine v_c (by omega) ?_ | fail)) | (refine b_pick (by (conv => {lhs; whnf}); done) ?_; (first | refine p_T (by (conv => {lhs; whnf}); done) ?_ | refine p_F (by (conv => {lhs; whnf}); done) ?_ | fail)) | refine b_assignF (by kernel_rfl) ?_ | refine b_assignI ?_ | refine b_assignN ?_ | refine b_assign (by (conv => {lhs; whnf}); done) ?_ | refine b_callB ?_ | refine b_lenA (by (conv => {lhs; whnf}); done) (by first | rfl | assumption) ?_ | refine b_ext (by (conv => {lhs; whnf}); done) (by exact rfl) ?_ | refine b_stL (by (conv => {lhs; whnf}); done) (by (conv => {lhs; whnf}); done) (by first | exact (by exact rfl) | exact cells_of_len hF.len | fail) (by exact rfl) (by exact rfl) (by exact Nat.le_of_ble_eq_true rfl) (by (conv => {lhs; simp only [sc, List.set_cons_zero, List.set_cons_succ]}); done) ?_ | refine b_box (by (conv => {lhs; whnf}); done) (by exact rfl) (by exact rfl) (by exact rfl) (by exact rfl) ?_ | refine b_alloc (by exact rfl) (by exact rfl) ?_ | refine b_bslZ (by exact rfl) (by exact rfl) (by decide) ?_ | fail))
    | (refine gateD ?_; (first | refine d_c0 (by exact rfl) ?_ | refine d_nil ?_ | refine d_gT (by exact rfl) (by exact rfl) (by exact rfl) ?_ | refine d_gF (by exact rfl) (by exact rfl) (by exact rfl) (by exact rfl) ?_ | refine d_gU (by exact rfl) (by exact rfl) (by exact rfl) (by constructor <;> simp) (by exact rfl) (by exact rfl) ?_ | (refine d_g0 (by exact rfl) (by exact rfl) (by exact rfl) (by (conv => {lhs; whnf}); done) ?_; (first | refine dg_TT ?_ | refine dg_FF ?_ | refine dg_TF ?_ | refine dg_FT ?_ | refine dg_PT ?_ ?_ | refine dg_PF ?_ ?_ | refine dg_BT ?_ ?_ | refine dg_BF ?_ ?_ | fail)) | (refine d_g1 (by exact rfl) (by exact rfl) (by exact rfl) (by exact rfl) (by (conv => {lhs; whnf}); done) ?_; (first | refine dg_TT ?_ | refine dg_FF ?_ | refine dg_TF ?_ | refine dg_FT ?_ | refine dg_PT ?_ ?_ | refine dg_PF ?_ ?_ | refine dg_BT ?_ ?_ | refine dg_BF ?_ ?_ | fail)) | refine d_c1 (by exact rfl) (by exact rfl) ?_ | fail))
    | (refine gateC ?_; (first | refine k_lt ?_ | refine k_fz ?_ | refine k_lb (by (conv => {lhs; whnf}); done) ?_ | refine k_ms ?_ | refine k_bx (by exact rfl) (by exact rfl) ?_ | refine k_ld (by (conv => {lhs; whnf}); done) (by exact rfl) ?_ | refine k_ldT (by (conv => {lhs; whnf}); done) ?_ | refine k_bin (by (conv => {lhs; whnf}); done) (by exact rfl) ?_ | refine k_mn ?_ | refine k_mnB (by exact rfl) ?_ | refine k_mnF ?_ | refine k_mnL (by exact rfl) ?_ | fail))
    | (refine gateT ?_; (first | refine b_thn ?_ | refine b_thr ?_ | refine b_the ?_ | fail))
    | (refine gateX ?_; (first | refine b_seq ?_ | refine b_region ?_ | (refine b_cond (by (conv => {lhs; whnf}); done) ?_; (first | refine c_T ?_ | refine c_F ?_ | refine c_P ?_ ?_ | refine c_B ?_ ?_ | fail)) | refine b_ret ?_ | refine b_skip ?_ | refine b_block ?_ | refine b_exit ?_ | refine b_draw (id := 9) [] [] [(0, .lt), (1, .ld true), (2, .lt), (5, .ld true), (6, .lt), (3, .mn true), (4, .lt), (7, .mn true), (8, .lt), (9, .lt)] (by kernel_rfl) ?_ | refine b_draw (id := 18) [] [] [(0, .ld true), (1, .lt), (3, .ld true), (4, .lt), (7, .lt), (2, .mn true), (5, .mn true), (6, .lt), (8, .lt), (9, .lt)] (by kernel_rfl) ?_ | (refine b_loop [2, 3, 4, 5, 6, 7, 8, 11] n (fun k => ⟨[(2, .loc 2 0), (3, .loc 3 0), (4, .loc 4 0), (5, .val (.int .i64 (F))), (6, .val (.int .i64 (F + n))), (7, .val (gV H.length 0 k)), (8, .val (.int .i64 (boC (xB a b F) k))), (11, .val (.int .i64 (F + (k : Int))))], [(2, [.bool false, .sl none a.l.length (il a.l), .int .i64 a.e]), (3, [.bool true, .sl none b.l.length (il b.l), .int .i64 b.e]), (4, [.bool false, .slnil, .int .i64 0])], H ++ ([] ++ gN (il (mL (boF (xB a b F)) k)))⟩) (by simp only [Int.natCast_zero, Int.add_zero]; exact rfl) ?_ ?_ <;> (first | intro k hk K hK | intro K) <;> (try dsimp only at *)) | fail))
    | refine a_cons (by (conv => {lhs; whnf}); done) ?_
    | refine a_nil ?_
    | (refine gateK ?_; (first | refine c_call (hend _) (OldOk.refl _ _) ?_ | refine c_call (hata _ _ (by omega)) (OldOk.refl _ _) ?_ | refine c_call (hatb _ _ (by omega)) (OldOk.refl _ _) ?_ | refine c_call (hsz _) (OldOk.refl _ _) ?_ | refine c_call (made_gV _ false _ _ _ (mL (boF (xB a b F)) n) (by simp) (fun h => hg_new (by exact rfl) (gN_il h)) (by omega) F (by omega)) (OldOk.refl _ _) ?_ | fail))
    | refine gk_consF (by kernel_rfl) ?_
    | refine gk_cons (by (conv => {lhs; whnf}); done) ?_
    | (refine gk_nilN (by (conv => {lhs; simp only [List.nil_append, List.cons_append]}); done) ?_; first | refine ⟨by exact rfl, ?_⟩ | skip)
    | refine gk_nil ?_
    | (intro N' hN'; simp only [List.nil_append, List.cons_append] at hN'; subst hN')
    | (refine gateB ?_; (first | refine b_bln ?_ | refine b_blr ?_ | refine b_ble ?_ | refine b_blo (by exact rfl) ?_ | fail))
    | (refine gateL ?_; (first | refine lp_n ?_ | refine lp_r ?_ | refine lp_e ?_ | fail))
    | (refine pr_k (by exact rfl) ?_; first | exact hK | (rw [boC_T (by assumption)] at hK; exact hK) | (rw [boC_F (by assumption)] at hK; exact hK) | (exfalso; first | omega | (simp_all; done) | (simp_all; omega)))
    | (refine gateQ ?_; refine b_retK (by simp) (by (conv => {lhs; whnf}); done) ?_)
    | (refine gateR ?_; (first | refine rk_tmp (by (conv => {lhs; whnf}); done) ?_ | refine rk_cellA (by (conv => {lhs; whnf}); done) (by exact rfl) (by exact rfl) ?_ | refine rk_cell1 (by (conv => {lhs; whnf}); done) (by exact rfl) (by exact rfl) ?_ | refine rk_nil ?_ | fail))
    | intro _)
  all_goals first
    | (exfalso; omega)
    | (refine rv_fr rfl ?_; exact mR_fr rfl (fun h => gN_il h))
    | (refine rv_fr rfl ?_; exact mR_fr rfl (fun h => rfl))
    | (refine rv_old rfl (by simp [mx, mxL, resOne, aOf, aOf1]) ?_; exact rfl)

set_option maxHeartbeats 4000000 in
theorem dsub_fts (H : List (List AV)) (a : DV) (hag : Digs a.l) (hal : a.l.length ≤ 2 ^ 20) (hae : -1099511627776 ≤ 16 * a.e ∧ 16 * a.e ≤ 1099511627776) (b : DV) (hbg : Digs b.l) (hbl : b.l.length ≤ 2 ^ 20) (hbe : -1099511627776 ≤ 16 * b.e ∧ 16 * b.e ≤ 1099511627776) (F : Int) (n : Nat) (hn : n ≤ 2 ^ 28) (hF : eF a b = F) (hT : eT a b = F + n) (han : a.neg = false) (hbn : b.neg = true) (hea : (a.l.length : Int) ≠ 0) (heb : (b.l.length : Int) ≠ 0) (z : Int) (hsz : ∀ H', CSpec Try.prog 126 [dV a, dV b] H' (.int .i64 z) H') (hz : z < 0) :
    CSpec Try.prog 56 [dV a, dV b] H (dV (mD true (mL (boF (xB b a F)) n) F)) H := by
  have hFr := eF_rng hae hbe
  have hTr := eT_rng hal hbl hae hbe
  have hend := fun H' => ends_c H' a hag hal hae b hbg hbl hbe
  rw [hF, hT] at hend
  have hd1 := fun p => dg_range hag p
  have hd2 := fun p => dg_range hbg p
  have hx : ∀ j, -65536 < (xB b a F) j ∧ (xB b a F) j < 65536 := fun j => by have h1 := hd1 (F + (j : Int)); have h2 := hd2 (F + (j : Int)); unfold xB; omega
  have hata := fun H' p hp => dat_c H' a hag hal hae p hp
  have hatb := fun H' p hp => dat_c H' b hbg hbl hbe p hp
  have hda : dV a = .agg [.bool false, .sl none a.l.length (il a.l), .int .i64 a.e] := by unfold dV; rw [han]
  have hdb : dV b = .agg [.bool true, .sl none b.l.length (il b.l), .int .i64 b.e] := by unfold dV; rw [hbn]
  simp only [hda, hdb] at hend hata hatb hsz ⊢
  refine .mk (fun args w => Try.call56 args w) (Spec.intro' (fn := Try.f56) Try.func56 rfl (by kernel_rfl) (by simp) false [60, 67, 98] (draw := drawX Try.prog ⟨false, _, [60, 67, 98]⟩) dOk ?_)
  simp only [argE, Nat.reduceAdd]
  repeat' (first
    | (refine gateE ?_; (first | refine b_c0 ?_ | refine b_nil ?_ | refine b_gT (by exact rfl) (by exact rfl) ?_ | refine b_gF (by exact rfl) (by exact rfl) (by exact rfl) ?_ | refine b_gU (by exact rfl) (by exact rfl) (by constructor <;> simp) (by exact rfl) (by exact rfl) ?_ | (refine b_g0 (by exact rfl) (by exact rfl) (by (conv => {lhs; whnf}); done) ?_; (first | refine g_TT ?_ | refine g_FF ?_ | refine g_TF ?_ | refine g_FT ?_ | refine g_PT ?_ ?_ | refine g_PF ?_ ?_ | refine g_BT ?_ ?_ | refine g_BF ?_ ?_ | fail)) | (refine b_g1 (by exact rfl) (by exact rfl) (by exact rfl) (by (conv => {lhs; whnf}); done) ?_; (first | refine g_TT ?_ | refine g_FF ?_ | refine g_TF ?_ | refine g_FT ?_ | refine g_PT ?_ ?_ | refine g_PF ?_ ?_ | refine g_BT ?_ ?_ | refine g_BF ?_ ?_ | fail)) | refine b_c1 (by exact rfl) ?_ | fail))
    | (refine gateO ?_; (first | refine b_move (by (conv => {lhs; whnf}); done) ?_ | (refine b_fa (by (conv => {lhs; whnf}); done) ?_; first | refine f_loc (by (conv => {lhs; whnf}); done) ?_ | refine f_ptr (by (conv => {lhs; whnf}); done) ?_) | (refine b_load (by (conv => {lhs; whnf}); done) ?_; (first | refine l_loc1 (by exact rfl) (by exact rfl) ?_ | refine l_locA (by exact rfl) (by exact rfl) ?_ | fail)) | refine b_lenA (by (conv => {lhs; whnf}); done) (by exact rfl) ?_ | refine b_grow (i := 0) (N₀ := []) (by (conv => {lhs; whnf}); done) (by (conv => {lhs; whnf}); done) (by exact rfl) (by exact rfl) (by simp) (by omega) (by exact rfl) (by exact rfl) (l' := il (mL (boF (xB b a F)) (k + 1))) (by rw [mL_succ, boF_T (by assumption), ← il_app]; exact rfl) ?_ | refine b_grow (i := 0) (N₀ := []) (by (conv => {lhs; whnf}); done) (by (conv => {lhs; whnf}); done) (by exact rfl) (by exact rfl) (by simp) (by omega) (by exact rfl) (by exact rfl) (l' := il (mL (boF (xB b a F)) (k + 1))) (by rw [mL_succ, boF_F (by assumption), ← il_app]; exact rfl) ?_ | (refine b_binB (by first | (conv => {lhs; whnf}; done) | exact (by exact rfl) | fail) (by first | (conv => {lhs; whnf}; done) | exact (by exact rfl) | fail) ?_; (first | refine v_to ((xB b a F) k) (by have h1 := hx k; unfold xB at h1; omega) (by exact rfl) ?_ | refine v_to ((xB b a F) k - boC (xB b a F) k) (by have h1 := hx k; have h3 := boC_range (xB b a F) k; omega) (by exact rfl) ?_ | refine v_to ((xB b a F) k - boC (xB b a F) k + 65536) (by have h1 := hx k; have h3 := boC_range (xB b a F) k; omega) (by exact rfl) ?_ | refine v_to (F + ((k + 1 : Nat) : Int)) (by omega) (by omega) ?_ | refine v_bbT (by exact rfl) ?_ | refine v_k ?_ | fail)) | (refine b_bin (by (conv => {lhs; whnf}); done) (by (conv => {lhs; whnf}); done) (by (conv => {lhs; whnf}); done) ?_; (first | refine v_to ((xB b a F) k) (by have h1 := hx k; unfold xB at h1; omega) (by exact rfl) ?_ | refine v_to ((xB b a F) k - boC (xB b a F) k) (by have h1 := hx k; have h3 := boC_range (xB b a F) k; omega) (by exact rfl) ?_ | refine v_to ((xB b a F) k - boC (xB b a F) k + 65536) (by have h1 := hx k; have h3 := boC_range (xB b a F) k; omega) (by exact rfl) ?_ | refine v_to (F + ((k + 1 : Nat) : Int)) (by omega) (by omega) ?_ | refine v_eT (by omega) ?_ | refine v_eF (by omega) ?_ | refine v_eP ?_ | refine v_T (by omega) ?_ | refine v_F (by omega) ?_ | refine v_w (by omega) ?_ | refine v_wu (by omega) ?_ | refine v_mod (by omega) (by omega) ?_ | refine v_qc (by omega) (by omega) ?_ | refine v_k ?_ | refine v_c (by omega) ?_ | fail)) | (refine b_pick (by (conv => {lhs; whnf}); done) ?_; (first | refine p_T (by (conv => {lhs; whnf}); done) ?_ | refine p_F (by (conv => {lhs; whnf}); done) ?_ | fail)) | refine b_assignF (by kernel_rfl) ?_ | refine b_assignI ?_ | refine b_assignN ?_ | refine b_assign (by (conv => {lhs; whnf}); done) ?_ | refine b_callB ?_ | refine b_lenA (by (conv => {lhs; whnf}); done) (by first | rfl | assumption) ?_ | refine b_ext (by (conv => {lhs; whnf}); done) (by exact rfl) ?_ | refine b_stL (by (conv => {lhs; whnf}); done) (by (conv => {lhs; whnf}); done) (by first | exact (by exact rfl) | exact cells_of_len hF.len | fail) (by exact rfl) (by exact rfl) (by exact Nat.le_of_ble_eq_true rfl) (by (conv => {lhs; simp only [sc, List.set_cons_zero, List.set_cons_succ]}); done) ?_ | refine b_box (by (conv => {lhs; whnf}); done) (by exact rfl) (by exact rfl) (by exact rfl) (by exact rfl) ?_ | refine b_alloc (by exact rfl) (by exact rfl) ?_ | refine b_bslZ (by exact rfl) (by exact rfl) (by decide) ?_ | fail))
    | (refine gateD ?_; (first | refine d_c0 (by exact rfl) ?_ | refine d_nil ?_ | refine d_gT (by exact rfl) (by exact rfl) (by exact rfl) ?_ | refine d_gF (by exact rfl) (by exact rfl) (by exact rfl) (by exact rfl) ?_ | refine d_gU (by exact rfl) (by exact rfl) (by exact rfl) (by constructor <;> simp) (by exact rfl) (by exact rfl) ?_ | (refine d_g0 (by exact rfl) (by exact rfl) (by exact rfl) (by (conv => {lhs; whnf}); done) ?_; (first | refine dg_TT ?_ | refine dg_FF ?_ | refine dg_TF ?_ | refine dg_FT ?_ | refine dg_PT ?_ ?_ | refine dg_PF ?_ ?_ | refine dg_BT ?_ ?_ | refine dg_BF ?_ ?_ | fail)) | (refine d_g1 (by exact rfl) (by exact rfl) (by exact rfl) (by exact rfl) (by (conv => {lhs; whnf}); done) ?_; (first | refine dg_TT ?_ | refine dg_FF ?_ | refine dg_TF ?_ | refine dg_FT ?_ | refine dg_PT ?_ ?_ | refine dg_PF ?_ ?_ | refine dg_BT ?_ ?_ | refine dg_BF ?_ ?_ | fail)) | refine d_c1 (by exact rfl) (by exact rfl) ?_ | fail))
    | (refine gateC ?_; (first | refine k_lt ?_ | refine k_fz ?_ | refine k_lb (by (conv => {lhs; whnf}); done) ?_ | refine k_ms ?_ | refine k_bx (by exact rfl) (by exact rfl) ?_ | refine k_ld (by (conv => {lhs; whnf}); done) (by exact rfl) ?_ | refine k_ldT (by (conv => {lhs; whnf}); done) ?_ | refine k_bin (by (conv => {lhs; whnf}); done) (by exact rfl) ?_ | refine k_mn ?_ | refine k_mnB (by exact rfl) ?_ | refine k_mnF ?_ | refine k_mnL (by exact rfl) ?_ | fail))
    | (refine gateT ?_; (first | refine b_thn ?_ | refine b_thr ?_ | refine b_the ?_ | fail))
    | (refine gateX ?_; (first | refine b_seq ?_ | refine b_region ?_ | (refine b_cond (by (conv => {lhs; whnf}); done) ?_; (first | refine c_T ?_ | refine c_F ?_ | refine c_P ?_ ?_ | refine c_B ?_ ?_ | fail)) | refine b_ret ?_ | refine b_skip ?_ | refine b_block ?_ | refine b_exit ?_ | refine b_draw (id := 9) [] [] [(0, .lt), (1, .ld true), (2, .lt), (5, .ld true), (6, .lt), (3, .mn true), (4, .lt), (7, .mn true), (8, .lt), (9, .lt)] (by kernel_rfl) ?_ | refine b_draw (id := 18) [] [] [(0, .ld true), (1, .lt), (3, .ld true), (4, .lt), (7, .lt), (2, .mn true), (5, .mn true), (6, .lt), (8, .lt), (9, .lt)] (by kernel_rfl) ?_ | (refine b_loop [2, 3, 4, 5, 6, 7, 8, 11] n (fun k => ⟨[(2, .loc 2 0), (3, .loc 3 0), (4, .loc 4 0), (5, .val (.int .i64 (F))), (6, .val (.int .i64 (F + n))), (7, .val (gV H.length 0 k)), (8, .val (.int .i64 (boC (xB b a F) k))), (11, .val (.int .i64 (F + (k : Int))))], [(2, [.bool true, .sl none b.l.length (il b.l), .int .i64 b.e]), (3, [.bool false, .sl none a.l.length (il a.l), .int .i64 a.e]), (4, [.bool false, .slnil, .int .i64 0])], H ++ ([] ++ gN (il (mL (boF (xB b a F)) k)))⟩) (by simp only [Int.natCast_zero, Int.add_zero]; exact rfl) ?_ ?_ <;> (first | intro k hk K hK | intro K) <;> (try dsimp only at *)) | fail))
    | refine a_cons (by (conv => {lhs; whnf}); done) ?_
    | refine a_nil ?_
    | (refine gateK ?_; (first | refine c_call (hend _) (OldOk.refl _ _) ?_ | refine c_call (hata _ _ (by omega)) (OldOk.refl _ _) ?_ | refine c_call (hatb _ _ (by omega)) (OldOk.refl _ _) ?_ | refine c_call (hsz _) (OldOk.refl _ _) ?_ | refine c_call (made_gV _ true _ _ _ (mL (boF (xB b a F)) n) (by simp) (fun h => hg_new (by exact rfl) (gN_il h)) (by omega) F (by omega)) (OldOk.refl _ _) ?_ | fail))
    | refine gk_consF (by kernel_rfl) ?_
    | refine gk_cons (by (conv => {lhs; whnf}); done) ?_
    | (refine gk_nilN (by (conv => {lhs; simp only [List.nil_append, List.cons_append]}); done) ?_; first | refine ⟨by exact rfl, ?_⟩ | skip)
    | refine gk_nil ?_
    | (intro N' hN'; simp only [List.nil_append, List.cons_append] at hN'; subst hN')
    | (refine gateB ?_; (first | refine b_bln ?_ | refine b_blr ?_ | refine b_ble ?_ | refine b_blo (by exact rfl) ?_ | fail))
    | (refine gateL ?_; (first | refine lp_n ?_ | refine lp_r ?_ | refine lp_e ?_ | fail))
    | (refine pr_k (by exact rfl) ?_; first | exact hK | (rw [boC_T (by assumption)] at hK; exact hK) | (rw [boC_F (by assumption)] at hK; exact hK) | (exfalso; first | omega | (simp_all; done) | (simp_all; omega)))
    | (refine gateQ ?_; refine b_retK (by simp) (by (conv => {lhs; whnf}); done) ?_)
    | (refine gateR ?_; (first | refine rk_tmp (by (conv => {lhs; whnf}); done) ?_ | refine rk_cellA (by (conv => {lhs; whnf}); done) (by exact rfl) (by exact rfl) ?_ | refine rk_cell1 (by (conv => {lhs; whnf}); done) (by exact rfl) (by exact rfl) ?_ | refine rk_nil ?_ | fail))
    | intro _)
  all_goals first
    | (exfalso; omega)
    | (refine rv_fr rfl ?_; exact mR_fr rfl (fun h => gN_il h))
    | (refine rv_fr rfl ?_; exact mR_fr rfl (fun h => rfl))
    | (refine rv_old rfl (by simp [mx, mxL, resOne, aOf, aOf1]) ?_; exact rfl)


end Go.Sx

set_option linter.unusedVariables false
set_option linter.unusedSimpArgs false
set_option maxRecDepth 20000
namespace Go.Sx
open Go.Proofs

def dNg (d : DV) : DV := if d.l.length = 0 then d else ⟨!d.neg, d.l, d.e⟩
def dAb (d : DV) : DV := ⟨false, d.l, d.e⟩
def dSg (d : DV) : Int := if d.l.length = 0 then 0 else if d.neg then -1 else 1
attribute [local irreducible] Ex exOps exD opX opE thenX blkX RetQ Spec CSpec Fr condK guardK guardD ckK valK pickK loadK faK callK argK gK fK rK RetV lpX prK
set_option maxHeartbeats 4000000 in
theorem dminus_c (H : List (List AV)) (d : DV) :
    CSpec Try.prog 120 [dV d] H (dV (dNg d)) H := by
  refine .mk (fun args w => Try.call120 args w) (Spec.intro' (fn := Try.f120) Try.func120 rfl (by kernel_rfl) (by simp) false [] (draw := drawX Try.prog ⟨false, _, []⟩) dOk ?_)
  simp only [argE, Nat.reduceAdd]
  repeat' (first
    | (refine gateE ?_; (first | refine b_c0 ?_ | refine b_nil ?_ | fail))
    | (refine gateO ?_; (first | (refine b_fa (by (conv => {lhs; whnf}); done) ?_; first | refine f_loc (by (conv => {lhs; whnf}); done) ?_ | refine f_ptr (by (conv => {lhs; whnf}); done) ?_) | (refine b_load (by (conv => {lhs; whnf}); done) ?_; (first | refine l_loc1 (by exact rfl) (by exact rfl) ?_ | refine l_locA (by exact rfl) (by exact rfl) ?_ | fail)) | refine b_lenA (by (conv => {lhs; whnf}); done) (by exact rfl) ?_ | (refine b_bin (by (conv => {lhs; whnf}); done) (by (conv => {lhs; whnf}); done) (by (conv => {lhs; whnf}); done) ?_; (first | refine v_T (by omega) ?_ | refine v_F (by omega) ?_ | refine v_w (by omega) ?_ | refine v_wu (by omega) ?_ | refine v_nT ?_ | refine v_nF ?_ | refine v_nP ?_ | refine v_k ?_ | refine v_c (by omega) ?_ | fail)) | (refine b_un (by (conv => {lhs; whnf}); done) (by (conv => {lhs; whnf}); done) ?_; (first | refine v_T (by omega) ?_ | refine v_F (by omega) ?_ | refine v_w (by omega) ?_ | refine v_wu (by omega) ?_ | refine v_nT ?_ | refine v_nF ?_ | refine v_nP ?_ | refine v_k ?_ | refine v_c (by omega) ?_ | fail)) | refine b_lenA (by (conv => {lhs; whnf}); done) (by first | rfl | assumption) ?_ | refine b_stL (by (conv => {lhs; whnf}); done) (by (conv => {lhs; whnf}); done) (by first | exact (by exact rfl) | exact cells_of_len hF.len | fail) (by exact rfl) (by exact rfl) (by exact Nat.le_of_ble_eq_true rfl) (by (conv => {lhs; simp only [sc, List.set_cons_zero, List.set_cons_succ]}); done) ?_ | refine b_box (by (conv => {lhs; whnf}); done) (by exact rfl) (by exact rfl) (by exact rfl) (by exact rfl) ?_ | refine b_alloc (by exact rfl) (by exact rfl) ?_ | fail))
    | (refine gateT ?_; (first | refine b_thn ?_ | refine b_thr ?_ | refine b_the ?_ | fail))
    | (refine gateX ?_; (first | refine b_seq ?_ | refine b_region ?_ | (refine b_cond (by (conv => {lhs; whnf}); done) ?_; (first | refine c_T ?_ | refine c_F ?_ | refine c_P ?_ ?_ | refine c_B ?_ ?_ | fail)) | refine b_ret ?_ | refine b_skip ?_ | refine b_block ?_ | refine b_exit ?_ | fail))
    | (refine gateQ ?_; refine b_retK (by simp) (by (conv => {lhs; whnf}); done) ?_)
    | (refine gateR ?_; (first | refine rk_tmp (by (conv => {lhs; whnf}); done) ?_ | refine rk_cellA (by (conv => {lhs; whnf}); done) (by exact rfl) (by exact rfl) ?_ | refine rk_cell1 (by (conv => {lhs; whnf}); done) (by exact rfl) (by exact rfl) ?_ | refine rk_nil ?_ | fail))
    | intro _)
  all_goals first
    | (exfalso; omega)
    | (refine rv_old rfl (by simp [mx, mxL, resOne, aOf, aOf1, mxL_il]) ?_; exact rfl)
    | (refine rv_old rfl (by simp [mx, mxL, resOne, aOf, aOf1, mxL_il]) ?_; simp only [resOne, List.nil_append, List.cons_append, aOf, aOf1, dNg, dSg, dV]; (repeat' split) <;> (first | rfl | (exfalso; omega) | (simp_all; done)))

set_option maxHeartbeats 4000000 in
theorem dabs_c (H : List (List AV)) (d : DV) :
    CSpec Try.prog 53 [dV d] H (dV (dAb d)) H := by
  refine .mk (fun args w => Try.call53 args w) (Spec.intro' (fn := Try.f53) Try.func53 rfl (by kernel_rfl) (by simp) false [] (draw := drawX Try.prog ⟨false, _, []⟩) dOk ?_)
  simp only [argE, Nat.reduceAdd]
  repeat' (first
    | (refine gateE ?_; (first | refine b_c0 ?_ | refine b_nil ?_ | fail))
    | (refine gateO ?_; (first | (refine b_fa (by (conv => {lhs; whnf}); done) ?_; first | refine f_loc (by (conv => {lhs; whnf}); done) ?_ | refine f_ptr (by (conv => {lhs; whnf}); done) ?_) | (refine b_load (by (conv => {lhs; whnf}); done) ?_; (first | refine l_loc1 (by exact rfl) (by exact rfl) ?_ | refine l_locA (by exact rfl) (by exact rfl) ?_ | fail)) | refine b_stL (by (conv => {lhs; whnf}); done) (by (conv => {lhs; whnf}); done) (by first | exact (by exact rfl) | exact cells_of_len hF.len | fail) (by exact rfl) (by exact rfl) (by exact Nat.le_of_ble_eq_true rfl) (by (conv => {lhs; simp only [sc, List.set_cons_zero, List.set_cons_succ]}); done) ?_ | refine b_box (by (conv => {lhs; whnf}); done) (by exact rfl) (by exact rfl) (by exact rfl) (by exact rfl) ?_ | refine b_alloc (by exact rfl) (by exact rfl) ?_ | fail))
    | (refine gateT ?_; (first | refine b_thn ?_ | refine b_thr ?_ | refine b_the ?_ | fail))
    | (refine gateX ?_; (first | refine b_seq ?_ | refine b_region ?_ | (refine b_cond (by (conv => {lhs; whnf}); done) ?_; (first | refine c_T ?_ | refine c_F ?_ | refine c_P ?_ ?_ | refine c_B ?_ ?_ | fail)) | refine b_ret ?_ | refine b_skip ?_ | refine b_block ?_ | refine b_exit ?_ | fail))
    | (refine gateQ ?_; refine b_retK (by simp) (by (conv => {lhs; whnf}); done) ?_)
    | (refine gateR ?_; (first | refine rk_tmp (by (conv => {lhs; whnf}); done) ?_ | refine rk_cellA (by (conv => {lhs; whnf}); done) (by exact rfl) (by exact rfl) ?_ | refine rk_cell1 (by (conv => {lhs; whnf}); done) (by exact rfl) (by exact rfl) ?_ | refine rk_nil ?_ | fail))
    | intro _)
  all_goals first
    | (exfalso; omega)
    | (refine rv_old rfl (by simp [mx, mxL, resOne, aOf, aOf1, mxL_il]) ?_; exact rfl)
    | (refine rv_old rfl (by simp [mx, mxL, resOne, aOf, aOf1, mxL_il]) ?_; simp only [resOne, List.nil_append, List.cons_append, aOf, aOf1, dNg, dSg, dV]; (repeat' split) <;> (first | rfl | (exfalso; omega) | (simp_all; done)))

set_option maxHeartbeats 4000000 in
theorem dsign_c (H : List (List AV)) (d : DV) :
    CSpec Try.prog 121 [dV d] H (.int .i64 (dSg d)) H := by
  refine .mk (fun args w => Try.call121 args w) (Spec.intro' (fn := Try.f121) Try.func121 rfl (by kernel_rfl) (by simp) false [] (draw := drawX Try.prog ⟨false, _, []⟩) dOk ?_)
  simp only [argE, Nat.reduceAdd]
  repeat' (first
    | (refine gateE ?_; (first | refine b_c0 ?_ | refine b_nil ?_ | fail))
    | (refine gateO ?_; (first | (refine b_fa (by (conv => {lhs; whnf}); done) ?_; first | refine f_loc (by (conv => {lhs; whnf}); done) ?_ | refine f_ptr (by (conv => {lhs; whnf}); done) ?_) | (refine b_load (by (conv => {lhs; whnf}); done) ?_; (first | refine l_loc1 (by exact rfl) (by exact rfl) ?_ | refine l_locA (by exact rfl) (by exact rfl) ?_ | fail)) | refine b_lenA (by (conv => {lhs; whnf}); done) (by exact rfl) ?_ | (refine b_binB (by first | (conv => {lhs; whnf}; done) | exact (by exact rfl) | fail) (by first | (conv => {lhs; whnf}; done) | exact (by exact rfl) | fail) ?_; (first | refine v_bbT (by exact rfl) ?_ | refine v_k ?_ | fail)) | (refine b_bin (by (conv => {lhs; whnf}); done) (by (conv => {lhs; whnf}); done) (by (conv => {lhs; whnf}); done) ?_; (first | refine v_eT (by omega) ?_ | refine v_eF (by omega) ?_ | refine v_eP ?_ | refine v_w (by omega) ?_ | refine v_wu (by omega) ?_ | refine v_k ?_ | refine v_c (by omega) ?_ | fail)) | refine b_assignF (by kernel_rfl) ?_ | refine b_assignI ?_ | refine b_assignN ?_ | refine b_assign (by (conv => {lhs; whnf}); done) ?_ | refine b_lenA (by (conv => {lhs; whnf}); done) (by first | rfl | assumption) ?_ | refine b_box (by (conv => {lhs; whnf}); done) (by exact rfl) (by exact rfl) (by exact rfl) (by exact rfl) ?_ | fail))
    | (refine gateT ?_; (first | refine b_thn ?_ | refine b_thr ?_ | refine b_the ?_ | fail))
    | (refine gateX ?_; (first | refine b_seq ?_ | refine b_region ?_ | (refine b_cond (by (conv => {lhs; whnf}); done) ?_; (first | refine c_T ?_ | refine c_F ?_ | refine c_P ?_ ?_ | refine c_B ?_ ?_ | fail)) | refine b_ret ?_ | refine b_skip ?_ | refine b_block ?_ | refine b_exit ?_ | fail))
    | (refine gateQ ?_; refine b_retK (by simp) (by (conv => {lhs; whnf}); done) ?_)
    | (refine gateR ?_; (first | refine rk_tmp (by (conv => {lhs; whnf}); done) ?_ | refine rk_cellA (by (conv => {lhs; whnf}); done) (by exact rfl) (by exact rfl) ?_ | refine rk_cell1 (by (conv => {lhs; whnf}); done) (by exact rfl) (by exact rfl) ?_ | refine rk_nil ?_ | fail))
    | intro _)
  all_goals first
    | (exfalso; omega)
    | (refine rv_old rfl (by simp [mx, mxL, resOne, aOf, aOf1, mxL_il]) ?_; exact rfl)
    | (refine rv_old rfl (by simp [mx, mxL, resOne, aOf, aOf1, mxL_il]) ?_; simp only [resOne, List.nil_append, List.cons_append, aOf, aOf1, dNg, dSg, dV]; (repeat' split) <;> (first | rfl | (exfalso; omega) | (simp_all; done)))

set_option maxHeartbeats 4000000 in
theorem dmul_w (H : List (List AV)) (a : DV) (hag : Digs a.l) (hal : a.l.length ≤ 2 ^ 20) (hae : -1099511627776 ≤ 16 * a.e ∧ 16 * a.e ≤ 1099511627776) (b : DV) (hbg : Digs b.l) (hbl : b.l.length ≤ 2 ^ 20) (hbe : -1099511627776 ≤ 16 * b.e ∧ 16 * b.e ≤ 1099511627776) :
    CSpec Try.prog 51 [dV a, dV b] H (dV (mD (a.neg != b.neg) (mL (mulF (fun j => a.l.getD j 0) (fun j => b.l.getD j 0) b.l.length a.l.length) (a.l.length + b.l.length + 1)) (a.e + b.e))) H := by
  have hga : ∀ j, 0 ≤ a.l.getD j 0 ∧ a.l.getD j 0 < 65536 := gD_rng hag
  have hgb : ∀ j, 0 ≤ b.l.getD j 0 ∧ b.l.getD j 0 < 65536 := gD_rng hbg
  have hinv := mulF_inv (a := (fun j => a.l.getD j 0)) (b := (fun j => b.l.getD j 0)) hga hgb b.l.length
  have hC : ∀ i k, 0 ≤ mC (fun j => a.l.getD j 0) (fun j => b.l.getD j 0) (mulF (fun j => a.l.getD j 0) (fun j => b.l.getD j 0) b.l.length i) i k ∧ mC (fun j => a.l.getD j 0) (fun j => b.l.getD j 0) (mulF (fun j => a.l.getD j 0) (fun j => b.l.getD j 0) b.l.length i) i k < 65536 := fun i k => mC_rng hga hgb (hinv i).1 i k
  have hP : ∀ i k, 0 ≤ a.l.getD i 0 * b.l.getD k 0 ∧ a.l.getD i 0 * b.l.getD k 0 ≤ 4294836225 := fun i k => ab_rng hga hgb i k
  have hf0 : ∀ i, mulF (fun j => a.l.getD j 0) (fun j => b.l.getD j 0) b.l.length i (i + b.l.length) = 0 := fun i => (hinv i).2.1 _ (Nat.le_refl _)
  have hfr : ∀ i j, 0 ≤ mulF (fun j => a.l.getD j 0) (fun j => b.l.getD j 0) b.l.length i j ∧ mulF (fun j => a.l.getD j 0) (fun j => b.l.getD j 0) b.l.length i j < 65536 := fun i j => (hinv i).1 j
  refine .mk (fun args w => Try.call51 args w) (Spec.intro' (fn := Try.f51) Try.func51 rfl (by kernel_rfl) (by simp) false [] (draw := drawX Try.prog ⟨false, _, []⟩) dOk ?_)
  simp only [argE, Nat.reduceAdd]
  repeat' (first
    | (refine gateE ?_; (first | refine b_c0 ?_ | refine b_nil ?_ | fail))
    | (refine gateO ?_; (first | refine b_move (by (conv => {lhs; whnf}); done) ?_ | (refine b_fa (by (conv => {lhs; whnf}); done) ?_; first | refine f_loc (by (conv => {lhs; whnf}); done) ?_ | refine f_ptr (by (conv => {lhs; whnf}); done) ?_) | (refine b_load (by (conv => {lhs; whnf}); done) ?_; (first | refine l_loc1 (by exact rfl) (by exact rfl) ?_ | refine l_locA (by exact rfl) (by exact rfl) ?_ | refine l_IL (IL.fz _ _ _) (by omega) ?_ | refine l_nM (by exact rfl) (by exact rfl) (by exact rfl) (by omega) ?_ | refine l_nM (by exact rfl) (by exact rfl) (by exact rfl) (by have := mT_pos hu; omega) ?_ | fail)) | refine b_lenA (by (conv => {lhs; whnf}); done) (by exact rfl) ?_ | refine b_mkiN (m := (a.l.length + b.l.length + 1)) (mulF (fun j => a.l.getD j 0) (fun j => b.l.getD j 0) b.l.length 0) (by (conv => {lhs; whnf}); done) (by (conv => {lhs; whnf}); done) (by exact rfl) (by exact rfl) (by exact fun _ => rfl) (by exact rfl) (by omega) (by omega) ?_ | refine b_iaN (by (conv => {lhs; whnf}); done) (by (conv => {lhs; whnf}); done) (by exact rfl) (by omega) ?_ | refine b_iaM (m := k + t) (by (conv => {lhs; whnf}); done) (by (conv => {lhs; whnf}); done) (by exact rfl) (by omega) (by omega) ?_ | refine b_iaM (m := k + b.l.length + u) (by (conv => {lhs; whnf}); done) (by (conv => {lhs; whnf}); done) (by exact rfl) (by omega) (by have := mT_pos hu; omega) ?_ | refine b_stNI (m := mL (mF (fun j => a.l.getD j 0) (fun j => b.l.getD j 0) (mulF (fun j => a.l.getD j 0) (fun j => b.l.getD j 0) b.l.length k) k t) (a.l.length + b.l.length + 1)) (m' := mL (mF (fun j => a.l.getD j 0) (fun j => b.l.getD j 0) (mulF (fun j => a.l.getD j 0) (fun j => b.l.getD j 0) b.l.length k) k (t + 1)) (a.l.length + b.l.length + 1)) (by (conv => {lhs; whnf}); done) (by (conv => {lhs; whnf}); done) (by exact rfl) (by exact rfl) (mL_len _ _) (by rw [mL_len]; omega) (by rw [Nat.zero_add]; exact mF_step _ _ _ _ _ _) (by exact rfl) ?_ | refine b_stNI (m := mL (rowF (fun j => a.l.getD j 0) (fun j => b.l.getD j 0) b.l.length (mulF (fun j => a.l.getD j 0) (fun j => b.l.getD j 0) b.l.length k) k u) (a.l.length + b.l.length + 1)) (m' := mL (rowF (fun j => a.l.getD j 0) (fun j => b.l.getD j 0) b.l.length (mulF (fun j => a.l.getD j 0) (fun j => b.l.getD j 0) b.l.length k) k (u + 1)) (a.l.length + b.l.length + 1)) (by (conv => {lhs; whnf}); done) (by (conv => {lhs; whnf}); done) (by exact rfl) (by exact rfl) (mL_len _ _) (by rw [mL_len]; have := mT_pos hu; omega) (by rw [Nat.zero_add]; exact row_step (hC k b.l.length) hu _) (by exact rfl) ?_ | (refine b_bin (by (conv => {lhs; whnf}); done) (by (conv => {lhs; whnf}); done) (by (conv => {lhs; whnf}); done) ?_; (first | refine v_to (a.l.getD k 0 * b.l.getD t 0) (by have := hP k t; omega) (by exact rfl) ?_ | refine v_to (mC (fun j => a.l.getD j 0) (fun j => b.l.getD j 0) (mulF (fun j => a.l.getD j 0) (fun j => b.l.getD j 0) b.l.length k) k t + a.l.getD k 0 * b.l.getD t 0) (by have := hP k t; have := hC k t; omega) (by exact rfl) ?_ | refine v_to (mC (fun j => a.l.getD j 0) (fun j => b.l.getD j 0) (mulF (fun j => a.l.getD j 0) (fun j => b.l.getD j 0) b.l.length k) k t + a.l.getD k 0 * b.l.getD t 0 + (mulF (fun j => a.l.getD j 0) (fun j => b.l.getD j 0) b.l.length k) (k + t)) (by rw [mF_at]; have := hP k t; have := hC k t; have := hfr k (k + t); omega) (by rw [mF_at]) ?_ | refine v_mod (by have := hP k t; have := hC k t; have := hfr k (k + t); omega) (by omega) ?_ | refine v_qc (by have := hP k t; have := hC k t; have := hfr k (k + t); omega) (by omega) ?_ | refine v_to (mC (fun j => a.l.getD j 0) (fun j => b.l.getD j 0) (mulF (fun j => a.l.getD j 0) (fun j => b.l.getD j 0) b.l.length k) k b.l.length) (by rw [row_sum (hf0 k) hu]; have := hC k b.l.length; omega) (row_sum (hf0 k) hu) ?_ | refine v_mod (by have := hC k b.l.length; omega) (by omega) ?_ | refine v_qc (by have := hC k b.l.length; omega) (by omega) ?_ | refine v_to ((k + 1 : Nat) : Int) (by omega) (by omega) ?_ | refine v_to ((t + 1 : Nat) : Int) (by omega) (by omega) ?_ | refine v_to ((k + t : Nat) : Int) (by omega) (by omega) ?_ | refine v_to ((k + b.l.length + (u + 1) : Nat) : Int) (by have := mT_pos hu; omega) (by omega) ?_ | refine v_to ((k + b.l.length + 0 : Nat) : Int) (by omega) (by omega) ?_ | refine v_T (by have := mT_pos hu; omega) ?_ | refine v_F (by have := mT_end (mC (fun j => a.l.getD j 0) (fun j => b.l.getD j 0) (mulF (fun j => a.l.getD j 0) (fun j => b.l.getD j 0) b.l.length k) k b.l.length); omega) ?_ | refine v_neT (by omega) ?_ | refine v_neF (by omega) ?_ | refine v_neP ?_ | refine v_T (by omega) ?_ | refine v_F (by omega) ?_ | refine v_w (by omega) ?_ | refine v_wu (by omega) ?_ | refine v_mod (by omega) (by omega) ?_ | refine v_qc (by omega) (by omega) ?_ | refine v_k ?_ | refine v_c (by omega) ?_ | fail)) | refine b_assignF (by kernel_rfl) ?_ | refine b_assignI ?_ | refine b_assignN ?_ | refine b_assign (by (conv => {lhs; whnf}); done) ?_ | refine b_callB ?_ | refine b_lenA (by (conv => {lhs; whnf}); done) (by first | rfl | assumption) ?_ | refine b_stL (by (conv => {lhs; whnf}); done) (by (conv => {lhs; whnf}); done) (by first | exact (by exact rfl) | exact cells_of_len hF.len | fail) (by exact rfl) (by exact rfl) (by exact Nat.le_of_ble_eq_true rfl) (by (conv => {lhs; simp only [sc, List.set_cons_zero, List.set_cons_succ]}); done) ?_ | refine b_box (by (conv => {lhs; whnf}); done) (by exact rfl) (by exact rfl) (by exact rfl) (by exact rfl) ?_ | refine b_alloc (by exact rfl) (by exact rfl) ?_ | fail))
    | (refine gateD ?_; (first | refine d_c0 (by exact rfl) ?_ | refine d_nil ?_ | fail))
    | (refine gateC ?_; (first | refine k_lt ?_ | refine k_fz ?_ | refine k_lb (by (conv => {lhs; whnf}); done) ?_ | refine k_ms ?_ | refine k_bx (by exact rfl) (by exact rfl) ?_ | refine k_ld (by (conv => {lhs; whnf}); done) (by exact rfl) ?_ | refine k_ldT (by (conv => {lhs; whnf}); done) ?_ | refine k_bin (by (conv => {lhs; whnf}); done) (by exact rfl) ?_ | refine k_mn ?_ | refine k_mnB (by exact rfl) ?_ | refine k_mnF ?_ | refine k_mnL (by exact rfl) ?_ | fail))
    | (refine gateT ?_; (first | refine b_thn ?_ | refine b_thr ?_ | refine b_the ?_ | fail))
    | (refine gateX ?_; (first | refine b_seq ?_ | refine b_region ?_ | (refine b_cond (by (conv => {lhs; whnf}); done) ?_; (first | refine c_T ?_ | refine c_F ?_ | refine c_P ?_ ?_ | refine c_B ?_ ?_ | fail)) | refine b_ret ?_ | refine b_skip ?_ | refine b_block ?_ | refine b_exit ?_ | refine b_draw (id := 9) [] [] [(0, .lt), (1, .lt), (2, .ld true), (3, .lt), (4, .lt), (5, .ld true), (6, .lt), (7, .ld true), (8, .lt), (9, .lt), (10, .ld true), (11, .lt), (12, .lt), (13, .lt), (14, .lt), (15, .lt), (16, .lt), (17, .lt), (18, .ld true), (19, .lt), (20, .lt)] (by kernel_rfl) ?_ | (refine b_loop [2, 3, 4, 5, 6, 7, 9] (mN (mC (fun j => a.l.getD j 0) (fun j => b.l.getD j 0) (mulF (fun j => a.l.getD j 0) (fun j => b.l.getD j 0) b.l.length k) k b.l.length)) (fun u => ⟨[(2, .loc 2 0), (3, .loc 3 0), (4, .loc 4 0), (5, .val (.slm (H.length + 0) (a.l.length + b.l.length + 1) 0 (a.l.length + b.l.length + 1) 1)), (6, .val (.int .i64 ((k : Nat) : Int))), (7, .val (.int .i64 (mT (mC (fun j => a.l.getD j 0) (fun j => b.l.getD j 0) (mulF (fun j => a.l.getD j 0) (fun j => b.l.getD j 0) b.l.length k) k b.l.length) u))), (9, .val (.int .i64 ((k + b.l.length + u : Nat) : Int)))], [(2, [.bool a.neg, .sl none a.l.length (il a.l), .int .i64 a.e]), (3, [.bool b.neg, .sl none b.l.length (il b.l), .int .i64 b.e]), (4, [.bool false, .slnil, .int .i64 0])], H ++ [il (mL (rowF (fun j => a.l.getD j 0) (fun j => b.l.getD j 0) b.l.length (mulF (fun j => a.l.getD j 0) (fun j => b.l.getD j 0) b.l.length k) k u) (a.l.length + b.l.length + 1))]⟩) (by rw [mT_zero, rowF_zero]; exact rfl) ?_ ?_ <;> (first | intro u hu K hK | intro K) <;> (try dsimp only at *)) | (refine b_loop [2, 3, 4, 5, 6, 7, 8] b.l.length (fun t => ⟨[(2, .loc 2 0), (3, .loc 3 0), (4, .loc 4 0), (5, .val (.slm (H.length + 0) (a.l.length + b.l.length + 1) 0 (a.l.length + b.l.length + 1) 1)), (6, .val (.int .i64 ((k : Nat) : Int))), (7, .val (.int .i64 (mC (fun j => a.l.getD j 0) (fun j => b.l.getD j 0) (mulF (fun j => a.l.getD j 0) (fun j => b.l.getD j 0) b.l.length k) k t))), (8, .val (.int .i64 ((t : Nat) : Int)))], [(2, [.bool a.neg, .sl none a.l.length (il a.l), .int .i64 a.e]), (3, [.bool b.neg, .sl none b.l.length (il b.l), .int .i64 b.e]), (4, [.bool false, .slnil, .int .i64 0])], H ++ [il (mL (mF (fun j => a.l.getD j 0) (fun j => b.l.getD j 0) (mulF (fun j => a.l.getD j 0) (fun j => b.l.getD j 0) b.l.length k) k t) (a.l.length + b.l.length + 1))]⟩) (by rw [mF_zero]; exact rfl) ?_ ?_ <;> (first | intro t ht K hK | intro K) <;> (try dsimp only at *)) | (refine b_loop [2, 3, 4, 5, 6] a.l.length (fun k => ⟨[(2, .loc 2 0), (3, .loc 3 0), (4, .loc 4 0), (5, .val (.slm (H.length + 0) (a.l.length + b.l.length + 1) 0 (a.l.length + b.l.length + 1) 1)), (6, .val (.int .i64 ((k : Nat) : Int)))], [(2, [.bool a.neg, .sl none a.l.length (il a.l), .int .i64 a.e]), (3, [.bool b.neg, .sl none b.l.length (il b.l), .int .i64 b.e]), (4, [.bool false, .slnil, .int .i64 0])], H ++ [il (mL (mulF (fun j => a.l.getD j 0) (fun j => b.l.getD j 0) b.l.length k) (a.l.length + b.l.length + 1))]⟩) (by exact rfl) ?_ ?_ <;> (first | intro k hk K hK | intro K) <;> (try dsimp only at *)) | fail))
    | refine a_cons (by (conv => {lhs; whnf}); done) ?_
    | refine a_nil ?_
    | (refine gateK ?_; (first | refine c_call (made_m _ (a.neg != b.neg) H.length 0 _ (mL (mulF (fun j => a.l.getD j 0) (fun j => b.l.getD j 0) b.l.length a.l.length) (a.l.length + b.l.length + 1)) (by omega) (mL_len _ _) (by exact hg_new (by exact rfl) rfl) (by omega) (a.e + b.e) (by omega)) (OldOk.refl _ _) ?_ | fail))
    | (refine gateB ?_; (first | refine b_bln ?_ | refine b_blr ?_ | refine b_ble ?_ | refine b_blo (by exact rfl) ?_ | fail))
    | (refine gateL ?_; (first | refine lp_n ?_ | refine lp_r ?_ | refine lp_e ?_ | fail))
    | (refine pr_k (by exact rfl) ?_; first | exact hK | (rw [← row_end (hC k b.l.length) (hf0 k)] at hK; exact hK) | (rw [row_car (hC k b.l.length) hu] at hK; exact hK) | (exfalso; first | omega | (simp_all; done) | (simp_all; omega)))
    | (refine gateQ ?_; refine b_retK (by simp) (by (conv => {lhs; whnf}); done) ?_)
    | (refine gateR ?_; (first | refine rk_tmp (by (conv => {lhs; whnf}); done) ?_ | refine rk_cellA (by (conv => {lhs; whnf}); done) (by exact rfl) (by exact rfl) ?_ | refine rk_cell1 (by (conv => {lhs; whnf}); done) (by exact rfl) (by exact rfl) ?_ | refine rk_nil ?_ | fail))
    | intro _)
  all_goals first
    | (exfalso; omega)
    | (refine rv_fr rfl ?_; exact mR_fr rfl (fun h => gN_il h))
    | (refine rv_fr rfl ?_; exact mR_fr rfl (fun h => rfl))
    | (refine rv_old rfl (by simp [mx, mxL, resOne, aOf, aOf1]) ?_; exact rfl)


end Go.Sx

set_option linter.unusedVariables false
set_option linter.unusedSimpArgs false
set_option maxRecDepth 20000
namespace Go.Sx
open Go.Proofs
attribute [local irreducible] Ex exOps exD opX opE thenX blkX RetQ Spec CSpec Fr condK guardK guardD ckK valK pickK loadK faK callK argK gK fK rK RetV lpX prK
set_option maxHeartbeats 4000000 in
theorem dsub_w (H : List (List AV)) (a b d : DV) (h : (∀ H', CSpec Try.prog 56 [dV a, dV (dNg b)] H' (dV d) H')) :
    CSpec Try.prog 52 [dV a, dV b] H (dV d) H := by
  refine .mk (fun args w => Try.call52 args w) (Spec.intro' (fn := Try.f52) Try.func52 rfl (by kernel_rfl) (by simp) false [] (draw := drawX Try.prog ⟨false, _, []⟩) dOk ?_)
  simp only [argE, Nat.reduceAdd]
  repeat' (first
    | (refine gateE ?_; (first | refine b_c0 ?_ | refine b_nil ?_ | fail))
    | (refine gateO ?_; (first | (refine b_load (by (conv => {lhs; whnf}); done) ?_; (first | refine l_loc1 (by exact rfl) (by exact rfl) ?_ | refine l_locA (by exact rfl) (by exact rfl) ?_ | fail)) | refine b_callB ?_ | refine b_stL (by (conv => {lhs; whnf}); done) (by (conv => {lhs; whnf}); done) (by first | exact (by exact rfl) | exact cells_of_len hF.len | fail) (by exact rfl) (by exact rfl) (by exact Nat.le_of_ble_eq_true rfl) (by (conv => {lhs; simp only [sc, List.set_cons_zero, List.set_cons_succ]}); done) ?_ | refine b_box (by (conv => {lhs; whnf}); done) (by exact rfl) (by exact rfl) (by exact rfl) (by exact rfl) ?_ | refine b_alloc (by exact rfl) (by exact rfl) ?_ | fail))
    | (refine gateD ?_; (first | refine d_c0 (by exact rfl) ?_ | refine d_nil ?_ | fail))
    | (refine gateC ?_; (first | refine k_lt ?_ | refine k_fz ?_ | refine k_lb (by (conv => {lhs; whnf}); done) ?_ | refine k_ms ?_ | refine k_bx (by exact rfl) (by exact rfl) ?_ | refine k_ld (by (conv => {lhs; whnf}); done) (by exact rfl) ?_ | refine k_ldT (by (conv => {lhs; whnf}); done) ?_ | refine k_bin (by (conv => {lhs; whnf}); done) (by exact rfl) ?_ | refine k_mn ?_ | refine k_mnB (by exact rfl) ?_ | refine k_mnF ?_ | refine k_mnL (by exact rfl) ?_ | fail))
    | (refine gateT ?_; (first | refine b_thn ?_ | refine b_thr ?_ | refine b_the ?_ | fail))
    | (refine gateX ?_; (first | refine b_seq ?_ | refine b_region ?_ | (refine b_cond (by (conv => {lhs; whnf}); done) ?_; (first | refine c_T ?_ | refine c_F ?_ | refine c_P ?_ ?_ | refine c_B ?_ ?_ | fail)) | refine b_ret ?_ | refine b_skip ?_ | refine b_block ?_ | refine b_exit ?_ | refine b_draw (id := 1) [4] [] [(0, .ld true), (1, .ld true), (2, .mn true), (3, .mn true), (4, .mn true)] (by kernel_rfl) ?_ | fail))
    | refine a_cons (by (conv => {lhs; whnf}); done) ?_
    | refine a_nil ?_
    | (refine gateK ?_; (first | refine c_call (dminus_c _ b) (OldOk.refl _ _) ?_ | refine c_call (h _) (OldOk.refl _ _) ?_ | fail))
    | (refine gateQ ?_; refine b_retK (by simp) (by (conv => {lhs; whnf}); done) ?_)
    | (refine gateR ?_; (first | refine rk_tmp (by (conv => {lhs; whnf}); done) ?_ | refine rk_cellA (by (conv => {lhs; whnf}); done) (by exact rfl) (by exact rfl) ?_ | refine rk_cell1 (by (conv => {lhs; whnf}); done) (by exact rfl) (by exact rfl) ?_ | refine rk_nil ?_ | fail))
    | intro _)
  all_goals first
    | (exfalso; omega)
    | (refine rv_old rfl (by simp [mx, mxL, resOne, aOf, aOf1, mxL_il]) ?_; exact rfl)
    | (refine rv_old rfl (by simp [mx, mxL, resOne, aOf, aOf1, mxL_il]) ?_; simp only [resOne, List.nil_append, List.cons_append, aOf, aOf1, dNg, dSg, dV]; (repeat' split) <;> (first | rfl | (exfalso; omega) | (simp_all; done)))

set_option maxHeartbeats 4000000 in
theorem dcmp_w (H : List (List AV)) (a b d : DV) (h : (∀ H', CSpec Try.prog 52 [dV a, dV b] H' (dV d) H')) :
    CSpec Try.prog 54 [dV a, dV b] H (.int .i64 (dSg d)) H := by
  refine .mk (fun args w => Try.call54 args w) (Spec.intro' (fn := Try.f54) Try.func54 rfl (by kernel_rfl) (by simp) false [] (draw := drawX Try.prog ⟨false, _, []⟩) dOk ?_)
  simp only [argE, Nat.reduceAdd]
  repeat' (first
    | (refine gateE ?_; (first | refine b_c0 ?_ | refine b_nil ?_ | fail))
    | (refine gateO ?_; (first | (refine b_load (by (conv => {lhs; whnf}); done) ?_; (first | refine l_loc1 (by exact rfl) (by exact rfl) ?_ | refine l_locA (by exact rfl) (by exact rfl) ?_ | fail)) | refine b_assignF (by kernel_rfl) ?_ | refine b_assignI ?_ | refine b_assignN ?_ | refine b_assign (by (conv => {lhs; whnf}); done) ?_ | refine b_callB ?_ | refine b_box (by (conv => {lhs; whnf}); done) (by exact rfl) (by exact rfl) (by exact rfl) (by exact rfl) ?_ | fail))
    | (refine gateT ?_; (first | refine b_thn ?_ | refine b_thr ?_ | refine b_the ?_ | fail))
    | (refine gateX ?_; (first | refine b_seq ?_ | refine b_region ?_ | (refine b_cond (by (conv => {lhs; whnf}); done) ?_; (first | refine c_T ?_ | refine c_F ?_ | refine c_P ?_ ?_ | refine c_B ?_ ?_ | fail)) | refine b_ret ?_ | refine b_skip ?_ | refine b_block ?_ | refine b_exit ?_ | fail))
    | refine a_cons (by (conv => {lhs; whnf}); done) ?_
    | refine a_nil ?_
    | (refine gateK ?_; (first | refine c_call (h _) (OldOk.refl _ _) ?_ | refine c_call (dsign_c _ d) (OldOk.refl _ _) ?_ | fail))
    | (refine gateQ ?_; refine b_retK (by simp) (by (conv => {lhs; whnf}); done) ?_)
    | (refine gateR ?_; (first | refine rk_tmp (by (conv => {lhs; whnf}); done) ?_ | refine rk_cellA (by (conv => {lhs; whnf}); done) (by exact rfl) (by exact rfl) ?_ | refine rk_cell1 (by (conv => {lhs; whnf}); done) (by exact rfl) (by exact rfl) ?_ | refine rk_nil ?_ | fail))
    | intro _)
  all_goals first
    | (exfalso; omega)
    | (refine rv_old rfl (by simp [mx, mxL, resOne, aOf, aOf1, mxL_il]) ?_; exact rfl)
    | (refine rv_old rfl (by simp [mx, mxL, resOne, aOf, aOf1, mxL_il]) ?_; simp only [resOne, List.nil_append, List.cons_append, aOf, aOf1, dNg, dSg, dV]; (repeat' split) <;> (first | rfl | (exfalso; omega) | (simp_all; done)))

set_option maxHeartbeats 4000000 in
theorem dof_w (H : List (List AV)) (x : Nat) (neg : Bool) (m e : Int) (d0 d : DV) (hp : ∀ b, b < 2 ^ 64 → cn b = x → ∀ H', CSpec Try.prog 95 [.fraw b] H' (.tup [.bool neg, .int .u64 m, .int .i64 e, .int .i64 0]) H') (hw : (∀ H', CSpec Try.prog 118 [.bool neg, .int .u64 m] H' (dV d0) H')) (hs : (∀ H', CSpec Try.prog 55 [dV d0, .int .i64 e] H' (dV d) H')) :
    CSpec Try.prog 49 [.flt x] H (dV d) H := by
  refine .mk (fun args w => Try.call49 args w) (Spec.raw1 (fun b hb hbx => Spec.intro' (fn := Try.f49) Try.func49 rfl (by kernel_rfl) (by simp) false [] (draw := drawX Try.prog ⟨false, _, []⟩) dOk ?_))
  simp only [argE, Nat.reduceAdd]
  repeat' (first
    | (refine gateE ?_; (first | refine b_c0 ?_ | refine b_nil ?_ | fail))
    | (refine gateO ?_; (first | refine b_move (by (conv => {lhs; whnf}); done) ?_ | refine b_assign (by (conv => {lhs; whnf}); done) ?_ | refine b_callB ?_ | refine b_ext (by (conv => {lhs; whnf}); done) (by exact rfl) ?_ | refine b_stL (by (conv => {lhs; whnf}); done) (by (conv => {lhs; whnf}); done) (by first | exact (by exact rfl) | exact cells_of_len hF.len | fail) (by exact rfl) (by exact rfl) (by exact Nat.le_of_ble_eq_true rfl) (by (conv => {lhs; simp only [sc, List.set_cons_zero, List.set_cons_succ]}); done) ?_ | refine b_alloc (by exact rfl) (by exact rfl) ?_ | fail))
    | (refine gateT ?_; (first | refine b_thn ?_ | refine b_thr ?_ | refine b_the ?_ | fail))
    | (refine gateX ?_; (first | refine b_seq ?_ | refine b_region ?_ | (refine b_cond (by (conv => {lhs; whnf}); done) ?_; (first | refine c_T ?_ | refine c_F ?_ | refine c_P ?_ ?_ | refine c_B ?_ ?_ | fail)) | refine b_ret ?_ | refine b_skip ?_ | refine b_block ?_ | refine b_exit ?_ | fail))
    | refine a_cons (by (conv => {lhs; whnf}); done) ?_
    | refine a_nil ?_
    | (refine gateK ?_; (first | refine c_call (hp b hb hbx _) (OldOk.refl _ _) ?_ | refine c_call (hw _) (OldOk.refl _ _) ?_ | refine c_call (hs _) (OldOk.refl _ _) ?_ | fail))
    | (refine gateQ ?_; refine b_retK (by simp) (by (conv => {lhs; whnf}); done) ?_)
    | (refine gateR ?_; (first | refine rk_tmp (by (conv => {lhs; whnf}); done) ?_ | refine rk_cellA (by (conv => {lhs; whnf}); done) (by exact rfl) (by exact rfl) ?_ | refine rk_cell1 (by (conv => {lhs; whnf}); done) (by exact rfl) (by exact rfl) ?_ | refine rk_nil ?_ | fail))
    | intro _)
  all_goals first
    | (exfalso; omega)
    | (refine rv_old rfl (by simp [mx, mxL, resOne, aOf, aOf1, mxL_il]) ?_; exact rfl)
    | (refine rv_old rfl (by simp [mx, mxL, resOne, aOf, aOf1, mxL_il]) ?_; simp only [resOne, List.nil_append, List.cons_append, aOf, aOf1, dNg, dSg, dV]; (repeat' split) <;> (first | rfl | (exfalso; omega) | (simp_all; done)))


theorem sgn_not (b : Bool) (x : Rat) : sgn (!b) x = - sgn b x := by cases b <;> simp [sgn, Rat.neg_neg]
theorem dNg_In {d : DV} {B : Int} (h : In d B) : In (dNg d) B := by
  unfold dNg
  split
  · exact h
  · rename_i hl
    have hne : d.l ≠ [] := fun hh => hl (by rw [hh]; rfl)
    exact ⟨h.dig, fun hh => absurd hh hne, h.ne, h.lo, h.hi⟩
theorem dNg_V (d : DV) : V (dNg d) = - V d := by
  unfold dNg
  split
  · rename_i hl
    have h0 : mag d = 0 := mag_nil (List.eq_nil_of_length_eq_zero hl)
    unfold V; rw [h0]; cases d.neg <;> simp [sgn]
  · unfold V; rw [show mag ⟨!d.neg, d.l, d.e⟩ = mag d from rfl]; exact sgn_not _ _
theorem dAb_In {d : DV} {B : Int} (h : In d B) : In (dAb d) B := ⟨h.dig, fun hh => ⟨rfl, (h.nil hh).2⟩, h.ne, h.lo, h.hi⟩
theorem dAb_V {d : DV} {B : Int} (h : In d B) : V (dAb d) = (V d).abs := by
  have h0 := mag_nonneg h
  have e1 : V (dAb d) = mag d := rfl
  rw [e1]
  unfold V sgn
  cases d.neg
  · simp only [Bool.false_eq_true, if_false]; rw [Rat.abs_of_nonneg h0]
  · simp only [if_true]; rw [Rat.abs_neg, Rat.abs_of_nonneg h0]
theorem dSg_V {d : DV} {B : Int} (h : In d B) : dSg d = if V d < 0 then -1 else if V d = 0 then 0 else 1 := by
  unfold dSg
  split
  · rename_i hl
    have h0 : mag d = 0 := mag_nil (List.eq_nil_of_length_eq_zero hl)
    have : V d = 0 := by unfold V; rw [h0]; cases d.neg <;> simp [sgn]
    rw [this, if_neg (by decide), if_pos rfl]
  · rename_i hl
    have hne : d.l ≠ [] := fun hh => hl (by rw [hh]; rfl)
    have hp := mag_pos h hne
    unfold V sgn
    cases hn : d.neg
    · simp only [Bool.false_eq_true, if_false]
      rw [if_neg (by grind), if_neg (by grind)]
    · simp only [if_true]
      rw [if_pos (by grind)]
theorem ends_fact {a b : DV} {B : Int} (ha : In a B) (hb : In b B) (h0 : 0 ≤ B) : -B ≤ eF a b ∧ eT a b ≤ B ∧ eF a b ≤ eT a b ∧ (a.l ≠ [] → eF a b ≤ a.e ∧ a.e + a.l.length ≤ eT a b) ∧ (b.l ≠ [] → eF a b ≤ b.e ∧ b.e + b.l.length ≤ eT a b) := by
  have z : ∀ d : DV, d.l.length = 0 ↔ d.l = [] := fun d => List.length_eq_zero_iff
  by_cases h1 : a.l = []
  · have e1 : eF a b = b.e := if_pos ((z a).2 h1)
    have e2 : eT a b = b.e + b.l.length := if_pos ((z a).2 h1)
    rw [e1, e2]
    by_cases h2 : b.l = []
    · have := (hb.nil h2).2
      rw [h2]; simp only [List.length_nil]
      refine ⟨by omega, by omega, by omega, fun h => absurd h1 h, fun h => absurd rfl h⟩
    · have := hb.lo h2; have := hb.hi h2
      exact ⟨by omega, by omega, by omega, fun h => absurd h1 h, fun _ => by omega⟩
  · have h1' : ¬ a.l.length = 0 := fun h => h1 ((z a).1 h)
    have := ha.lo h1; have := ha.hi h1
    by_cases h2 : b.l = []
    · have e1 : eF a b = a.e := by unfold eF; rw [if_neg h1', if_pos ((z b).2 h2)]
      have e2 : eT a b = a.e + a.l.length := by unfold eT; rw [if_neg h1', if_pos ((z b).2 h2)]
      rw [e1, e2]
      exact ⟨by omega, by omega, by omega, fun _ => by omega, fun h => absurd h2 h⟩
    · have h2' : ¬ b.l.length = 0 := fun h => h2 ((z b).1 h)
      have := hb.lo h2; have := hb.hi h2
      have e1 : eF a b = min a.e b.e := by unfold eF; rw [if_neg h1', if_neg h2']
      have e2 : eT a b = max (a.e + a.l.length) (b.e + b.l.length) := by unfold eT; rw [if_neg h1', if_neg h2']
      rw [e1, e2]
      exact ⟨by omega, by omega, by omega, fun _ => by omega, fun _ => by omega⟩
theorem dadd {a b : DV} {B : Int} (ha : In a B) (hb : In b B) (h0 : 0 ≤ B) (hB : B ≤ 2 ^ 19) : ∃ d, In d (B + 1) ∧ V d = V a + V b ∧ ∀ H, CSpec Try.prog 56 [dV a, dV b] H (dV d) H := by
  obtain ⟨f1, f2, f3, f4, f5⟩ := ends_fact ha hb h0
  obtain ⟨n, hn⟩ : ∃ n : Nat, eT a b = eF a b + n := ⟨(eT a b - eF a b).toNat, by omega⟩
  have hn28 : n ≤ 2 ^ 28 := by omega
  generalize hF : eF a b = F at *
  have la := ha.len h0 hB; have lb := hb.len h0 hB
  have ea := ha.exp h0 hB; have eb := hb.exp h0 hB
  have ma := mag_vS (d := a) (F := F) (n := n) (fun h => (f4 h).1) (fun h => by have := (f4 h).2; omega)
  have mb := mag_vS (d := b) (F := F) (n := n) (fun h => (f5 h).1) (fun h => by have := (f5 h).2; omega)
  have hd1 := fun p => dg_range ha.dig p
  have hd2 := fun p => dg_range hb.dig p
  have hx : ∀ j, 0 ≤ xA a b F j ∧ xA a b F j < 131072 := fun j => by have := hd1 (F + (j : Int)); have := hd2 (F + (j : Int)); unfold xA; omega
  have hsame : ∀ neg, In (mD neg (mL (caF (xA a b F)) n ++ [caC (xA a b F) n]) F) (B + 1) ∧ V (mD neg (mL (caF (xA a b F)) n ++ [caC (xA a b F) n]) F) = sgn neg (mag a + mag b) := fun neg => by
    refine ⟨mD_In neg (caF_digs hx n) (by omega) (by simp; omega), ?_⟩
    rw [mD_V neg (caF_digs hx n), caF_val, show vS (xA a b F) n = vS (fun j => dg a (F + j)) n + vS (fun j => dg b (F + j)) n from vS_add _ _ _, Rat.intCast_add, ma, mb, Rat.add_mul]
  by_cases hem : (a.l.length : Int) = 0 ∨ (b.l.length : Int) = 0 ∨ a.neg = b.neg
  · have hv : ∀ neg, (a.neg = true ∨ b.neg = true → neg = true) → (a.neg = false ∧ b.neg = false → neg = false) → sgn neg (mag a + mag b) = V a + V b := fun neg h1 h2 => by
      have za : a.l = [] → a.neg = false ∧ mag a = 0 := fun h => ⟨(ha.nil h).1, mag_nil h⟩
      have zb : b.l = [] → b.neg = false ∧ mag b = 0 := fun h => ⟨(hb.nil h).1, mag_nil h⟩
      have z : ∀ d : DV, (d.l.length : Int) = 0 → d.l = [] := fun d h => List.eq_nil_of_length_eq_zero (by omega)
      unfold V
      rcases hem with h | h | h
      · obtain ⟨z1, z2⟩ := za (z a h)
        rw [z1, z2]
        cases hbn : b.neg
        · rw [h2 ⟨z1, hbn⟩]; simp [sgn]
        · rw [h1 (.inr hbn)]; simp only [sgn, if_true, Bool.false_eq_true, if_false]; grind
      · obtain ⟨z1, z2⟩ := zb (z b h)
        rw [z1, z2]
        cases han : a.neg
        · rw [h2 ⟨han, z1⟩]; simp [sgn]
        · rw [h1 (.inl han)]; simp only [sgn, if_true, Bool.false_eq_true, if_false]; grind
      · rw [← h]
        cases han : a.neg
        · rw [h2 ⟨han, h ▸ han⟩]; simp [sgn]
        · rw [h1 (.inl han)]; simp only [sgn, if_true]; grind
    cases han : a.neg <;> cases hbn : b.neg
    · exact ⟨_, (hsame false).1, (hsame false).2.trans (hv false (by simp [han, hbn]) (fun _ => rfl)), fun H => dadd_ff H a ha.dig la ea b hb.dig lb eb F n hn28 hF hn han hbn⟩
    · have he : (a.l.length : Int) = 0 ∨ (b.l.length : Int) = 0 := by rw [han, hbn] at hem; simpa using hem
      exact ⟨_, (hsame true).1, (hsame true).2.trans (hv true (fun _ => rfl) (by simp [han, hbn])), fun H => dadd_ft H a ha.dig la ea b hb.dig lb eb F n hn28 hF hn han hbn he⟩
    · have he : (a.l.length : Int) = 0 ∨ (b.l.length : Int) = 0 := by rw [han, hbn] at hem; simpa using hem
      exact ⟨_, (hsame true).1, (hsame true).2.trans (hv true (fun _ => rfl) (by simp [han, hbn])), fun H => dadd_tf H a ha.dig la ea b hb.dig lb eb F n hn28 hF hn han hbn he⟩
    · exact ⟨_, (hsame true).1, (hsame true).2.trans (hv true (fun _ => rfl) (by simp [han, hbn])), fun H => dadd_tt H a ha.dig la ea b hb.dig lb eb F n hn28 hF hn han hbn⟩
  · have hea : (a.l.length : Int) ≠ 0 := fun h => hem (.inl h)
    have heb : (b.l.length : Int) ≠ 0 := fun h => hem (.inr (.inl h))
    have hneg : a.neg ≠ b.neg := fun h => hem (.inr (.inr h))
    obtain ⟨t, t1, t2, t3⟩ := first_bad (fun k => dg a (F + n - 1 - (k : Int)) = dg b (F + n - 1 - (k : Int))) n
    have hsz := fun H => dsize_c H a ha.dig la ea b hb.dig lb eb F n hn28 hF hn t t1 (fun k hk => t2 k hk) (fun h => t3 h)
    have cv : ∀ k, k < n → F + (n : Int) - 1 - (k : Int) = F + ((n - 1 - k : Nat) : Int) := fun k hk => by omega
    have hz : (szR a b (F + n) n t < 0 → vS (fun j => dg a (F + j)) n < vS (fun j => dg b (F + j)) n) ∧ (¬ szR a b (F + n) n t < 0 → vS (fun j => dg b (F + j)) n ≤ vS (fun j => dg a (F + j)) n) := by
      have heq : ∀ k, k < t → dg a (F + ((n - 1 - k : Nat) : Int)) = dg b (F + ((n - 1 - k : Nat) : Int)) := fun k hk => by have := t2 k hk; rwa [cv k (by omega)] at this
      unfold szR
      by_cases htn : t = n
      · rw [if_pos htn]
        subst htn
        exact ⟨fun h => by omega, fun _ => Int.le_of_eq (size_eq (f := fun j => dg b (F + j)) (g := fun j => dg a (F + j)) fun k hk => (heq k hk).symm)⟩
      · rw [if_neg htn]
        have htl : t < n := by omega
        have hne := t3 htl
        rw [cv t htl] at hne ⊢
        by_cases hlt : dg a (F + ((n - 1 - t : Nat) : Int)) < dg b (F + ((n - 1 - t : Nat) : Int))
        · rw [if_pos hlt]
          exact ⟨fun _ => size_lt (f := fun j => dg a (F + j)) (g := fun j => dg b (F + j)) (fun j => hd1 _) (fun j => hd2 _) htl heq hlt, fun h => by omega⟩
        · rw [if_neg hlt]
          exact ⟨fun h => by omega, fun _ => Int.le_of_lt (size_lt (f := fun j => dg b (F + j)) (g := fun j => dg a (F + j)) (fun j => hd2 _) (fun j => hd1 _) htl (fun k hk => (heq k hk).symm) (by omega))⟩
    generalize szR a b (F + n) n t = z at hsz hz
    have hxb : ∀ j, -65536 < xB a b F j ∧ xB a b F j < 65536 := fun j => by have := hd1 (F + (j : Int)); have := hd2 (F + (j : Int)); unfold xB; omega
    have hxs : ∀ j, -65536 < xB b a F j ∧ xB b a F j < 65536 := fun j => by have := hd1 (F + (j : Int)); have := hd2 (F + (j : Int)); unfold xB; omega
    have vb : vS (xB a b F) n = vS (fun j => dg a (F + j)) n - vS (fun j => dg b (F + j)) n := vS_sub _ _ _
    have vs : vS (xB b a F) n = vS (fun j => dg b (F + j)) n - vS (fun j => dg a (F + j)) n := vS_sub _ _ _
    have rb : ∀ neg, ¬ z < 0 → In (mD neg (mL (boF (xB a b F)) n) F) (B + 1) ∧ V (mD neg (mL (boF (xB a b F)) n) F) = sgn neg (mag a - mag b) := fun neg h => by
      refine ⟨mD_In neg (boF_digs hxb n) (by omega) (by simp; omega), ?_⟩
      rw [mD_V neg (boF_digs hxb n), boF_val hxb (by have := hz.2 h; omega), vb, Rat.intCast_sub, ma, mb]
      congr 1; grind
    have rs : ∀ neg, z < 0 → In (mD neg (mL (boF (xB b a F)) n) F) (B + 1) ∧ V (mD neg (mL (boF (xB b a F)) n) F) = sgn neg (mag b - mag a) := fun neg h => by
      refine ⟨mD_In neg (boF_digs hxs n) (by omega) (by simp; omega), ?_⟩
      rw [mD_V neg (boF_digs hxs n), boF_val hxs (by have := hz.1 h; omega), vs, Rat.intCast_sub, ma, mb]
      congr 1; grind
    by_cases hzz : z < 0
    · cases han : a.neg <;> cases hbn : b.neg
      · exact absurd (han.trans hbn.symm) hneg
      · exact ⟨_, (rs true hzz).1, (rs true hzz).2.trans (by unfold V; rw [han, hbn]; simp only [sgn, if_true, Bool.false_eq_true, if_false]; grind), fun H => dsub_fts H a ha.dig la ea b hb.dig lb eb F n hn28 hF hn han hbn hea heb z (fun H' => hsz H') hzz⟩
      · exact ⟨_, (rs false hzz).1, (rs false hzz).2.trans (by unfold V; rw [han, hbn]; simp only [sgn, if_true, Bool.false_eq_true, if_false]; grind), fun H => dsub_tfs H a ha.dig la ea b hb.dig lb eb F n hn28 hF hn han hbn hea heb z (fun H' => hsz H') hzz⟩
      · exact absurd (han.trans hbn.symm) hneg
    · cases han : a.neg <;> cases hbn : b.neg
      · exact absurd (han.trans hbn.symm) hneg
      · exact ⟨_, (rb false hzz).1, (rb false hzz).2.trans (by unfold V; rw [han, hbn]; simp only [sgn, if_true, Bool.false_eq_true, if_false]; grind), fun H => dsub_ft H a ha.dig la ea b hb.dig lb eb F n hn28 hF hn han hbn hea heb z (fun H' => hsz H') hzz⟩
      · exact ⟨_, (rb true hzz).1, (rb true hzz).2.trans (by unfold V; rw [han, hbn]; simp only [sgn, if_true, Bool.false_eq_true, if_false]; grind), fun H => dsub_tf H a ha.dig la ea b hb.dig lb eb F n hn28 hF hn han hbn hea heb z (fun H' => hsz H') hzz⟩
      · exact absurd (han.trans hbn.symm) hneg
theorem dsubt {a b : DV} {B : Int} (ha : In a B) (hb : In b B) (h0 : 0 ≤ B) (hB : B ≤ 2 ^ 19) : ∃ d, In d (B + 1) ∧ V d = V a - V b ∧ ∀ H, CSpec Try.prog 52 [dV a, dV b] H (dV d) H := by
  obtain ⟨d, h1, h2, h3⟩ := dadd ha (dNg_In hb) h0 hB
  exact ⟨d, h1, by rw [h2, dNg_V]; grind, fun H => dsub_w H a b d h3⟩
def cmpR (x y : Rat) : Int := if x < y then -1 else if x = y then 0 else 1
theorem dcmp {a b : DV} {B : Int} (ha : In a B) (hb : In b B) (h0 : 0 ≤ B) (hB : B ≤ 2 ^ 19) (H : List (List AV)) : CSpec Try.prog 54 [dV a, dV b] H (.int .i64 (cmpR (V a) (V b))) H := by
  obtain ⟨d, h1, h2, h3⟩ := dsubt ha hb h0 hB
  have : cmpR (V a) (V b) = dSg d := by
    rw [dSg_V h1, h2]; unfold cmpR
    have e1 : V a < V b ↔ V a - V b < 0 := by constructor <;> intro h <;> grind
    have e2 : V a = V b ↔ V a - V b = 0 := by constructor <;> intro h <;> grind
    simp only [e1, e2]
  rw [this]
  exact dcmp_w H a b d h3
theorem dmul {a b : DV} {B C : Int} (ha : In a B) (hb : In b C) (h0 : 0 ≤ B) (hB : B ≤ 2 ^ 18) (h0' : 0 ≤ C) (hC : C ≤ 2 ^ 18) : ∃ d, In d (B + C + 1) ∧ V d = V a * V b ∧ ∀ H, CSpec Try.prog 51 [dV a, dV b] H (dV d) H := by
  have la := ha.len h0 (by omega); have lb := hb.len h0' (by omega)
  have ea := ha.exp h0 (by omega); have eb := hb.exp h0' (by omega)
  have hga := gD_rng ha.dig
  have hgb := gD_rng hb.dig
  obtain ⟨i1, i2, i3⟩ := mulF_inv (a := fun j => a.l.getD j 0) (b := fun j => b.l.getD j 0) hga hgb b.l.length a.l.length
  have hdg : Digs (mL (mulF (fun j => a.l.getD j 0) (fun j => b.l.getD j 0) b.l.length a.l.length) (a.l.length + b.l.length + 1)) := fun x hx => by
    simp only [mL, List.mem_map] at hx
    obtain ⟨j, _, rfl⟩ := hx
    exact i1 j
  have hv := i3 (a.l.length + b.l.length + 1) (by omega)
  rw [vS_val, vS_val] at hv
  have hra : -B ≤ a.e ∧ a.e + a.l.length ≤ B := by
    by_cases h : a.l = []
    · have := (ha.nil h).2; rw [h]; simp; omega
    · exact ⟨ha.lo h, ha.hi h⟩
  have hrb : -C ≤ b.e ∧ b.e + b.l.length ≤ C := by
    by_cases h : b.l = []
    · have := (hb.nil h).2; rw [h]; simp; omega
    · exact ⟨hb.lo h, hb.hi h⟩
  refine ⟨_, mD_In (a.neg != b.neg) hdg (e := a.e + b.e) (by omega) (by rw [mL_len]; omega), ?_, fun H => dmul_w H a ha.dig la ea b hb.dig lb eb⟩
  rw [mD_V _ hdg, valL_mL, hv, pw_add, Rat.intCast_mul]
  unfold V mag
  generalize (valL a.l : Rat) = x
  generalize (valL b.l : Rat) = y
  cases a.neg <;> cases b.neg <;> simp only [sgn, bne_self_eq_false, Bool.false_eq_true, if_false, if_true, Bool.bne_true, Bool.bne_false, Bool.not_false, Bool.not_true] <;> grind
theorem dshift {a : DV} {B C : Int} (ha : In a B) (h0 : 0 ≤ B) (hB : B ≤ 2 ^ 18) (k : Int) (hC : C ≤ 2 ^ 18) (hk : -(16 * C) ≤ k ∧ k ≤ 16 * C) : ∃ d, In d (B + C + 1) ∧ V d = V a * p2 k ∧ ∀ H, CSpec Try.prog 55 [dV a, .int .i64 k] H (dV d) H := by
  obtain ⟨r, hr⟩ : ∃ r : Nat, (r : Int) = k % 16 := ⟨(k % 16).toNat, by omega⟩
  have hr16 : r < 16 := by omega
  have hkq : k = 16 * (k / 16) + r := by omega
  have la := ha.len h0 (by omega)
  have ea := ha.exp h0 (by omega)
  have hra : -B ≤ a.e ∧ a.e + a.l.length ≤ B := by
    by_cases h : a.l = []
    · have := (ha.nil h).2; rw [h]; simp; omega
    · exact ⟨ha.lo h, ha.hi h⟩
  have hdg := s_digs ha.dig hr16 a.l.length (a.l.length + 1) (Nat.le_refl _)
  refine ⟨_, mD_In a.neg hdg (e := a.e + k / 16) (by omega) (by rw [mL_len]; omega), ?_, fun H => dshift_c H a ha.dig la ea (k / 16) r hr16 (by omega) k hkq⟩
  rw [mD_V _ hdg, s_val, pw_add, Rat.intCast_mul]
  have e1 : p2 k = pw (k / 16) * (((2 ^ r : Nat) : Int) : Rat) := by
    conv => lhs; rw [hkq]
    rw [p2_add, p2_nat]; unfold pw; rw [Int.natCast_pow]; rfl
  rw [e1]
  unfold V mag
  cases a.neg <;> simp only [sgn, Bool.false_eq_true, if_false, if_true] <;> grind
theorem dof {x : Nat} (hx : pK x = 0) : ∃ d, In d 80 ∧ V d = fv x ∧ ∀ H, CSpec Try.prog 49 [.flt x] H (dV d) H := by
  obtain ⟨m1, m2⟩ := pM_rng (x := x)
  obtain ⟨e1, e2⟩ := pE_rng (x := x)
  obtain ⟨m, hm⟩ : ∃ m : Nat, pM x = m := ⟨(pM x).toNat, by omega⟩
  have hm4 : m < 65536 ^ 4 := by omega
  have hw4 := wN_le m
  have i0 : In (mD (sNeg x) (mL (wF m) (wN m)) 0) 4 := mD_In _ (w_digs _ _) (by omega) (by rw [mL_len]; omega)
  obtain ⟨d, d1, d2, d3⟩ := dshift i0 (by omega) (by omega) (pE x) (C := 70) (by omega) (by omega)
  refine ⟨d, d1.mono (by omega), ?_, fun H => dof_w H x (sNeg x) (pM x) (pE x) _ d (fun b hb hbx H' => ?_) (fun H' => by rw [hm]; exact whole_c H' (sNeg x) m hm4) d3⟩
  · rw [d2, mD_V _ (w_digs _ _), w_val hm4]
    unfold fv
    rw [hm]
    have : pw 0 = 1 := by unfold pw; rw [Int.mul_zero, p2_zero]
    rw [this, Rat.mul_one]
    cases sNeg x <;> simp only [sgn, Bool.false_eq_true, if_false, if_true] <;> grind
  · have := cn_fin hx hbx
    subst this
    have h := parts_c H' b hb
    rw [hx, sNeg_p hb] at h
    exact h
theorem dabs (H : List (List AV)) (d : DV) : CSpec Try.prog 53 [dV d] H (dV (dAb d)) H := dabs_c H d

end Go.Sx

set_option linter.unusedVariables false
set_option linter.unusedSimpArgs false
/-! ### one rounding -/
namespace Go.Sx
open Ieee
theorem cut_zero (n : Nat) : Toward.even.cut false n 0 = n := by
  unfold Toward.cut
  have e1 : min 0 (n.log2 + 2) = 0 := by omega
  simp only [e1]
  have e2 : (1 : Nat) <<< 0 = 1 := rfl
  rw [e2, Nat.div_one, Nat.mod_one]
  simp
/-- cut to the nearest -/
theorem cut_mid {n d : Nat} (h : d ≤ n.log2 + 2) : 2 * (Toward.even.cut false n d * 2 ^ d) ≤ 2 * n + 2 ^ d ∧ 2 * n ≤ 2 * (Toward.even.cut false n d * 2 ^ d) + 2 ^ d := by
  unfold Toward.cut
  have e1 : min d (n.log2 + 2) = d := by omega
  simp only [e1, Nat.one_shiftLeft]
  have hd := Nat.div_add_mod n (2 ^ d)
  have hp := Nat.two_pow_pos d
  have hm := Nat.mod_lt n hp
  generalize n % 2 ^ d = r at *
  generalize n / 2 ^ d = q at *
  generalize 2 ^ d = g at *
  rw [Nat.mul_comm] at hd
  by_cases hc : g < 2 * r ∨ (g = 2 * r ∧ q % 2 = 1)
  · have : (decide (g < 2 * r) || g == 2 * r && q % 2 == 1) = true := by simp; exact hc
    rw [this, Bool.toNat_true, Nat.add_mul]
    omega
  · have : (decide (g < 2 * r) || g == 2 * r && q % 2 == 1) = false := by
      rw [Bool.eq_false_iff]; simpa using hc
    rw [this, Bool.toNat_false, Nat.add_zero]
    omega
/-- far below: nought -/
theorem cut_far {n d : Nat} (h : n.log2 + 2 ≤ d) : Toward.even.cut false n d = 0 := by
  unfold Toward.cut
  have e1 : min d (n.log2 + 2) = n.log2 + 2 := by omega
  simp only [e1, Nat.one_shiftLeft]
  have hn : n < 2 ^ (n.log2 + 1) := Nat.lt_log2_self
  have h2 : 2 ^ (n.log2 + 2) = 2 * 2 ^ (n.log2 + 1) := by rw [Nat.pow_succ']
  rw [Nat.div_eq_of_lt (by omega), Nat.mod_eq_of_lt (by omega), h2]
  have c1 : decide (2 * 2 ^ (n.log2 + 1) < 2 * n) = false := by simp; omega
  have c2 : (2 * 2 ^ (n.log2 + 1) == 2 * n) = false := by simp; omega
  rw [c1, c2]; rfl
/-- a rung's value -/
theorem fv_rung {q c : Nat} (h1 : c ≤ 9007199254740992) (h2 : q ≠ 0 → 4503599627370496 ≤ c) (h3 : q * 4503599627370496 + c < 9218868437227405312) :
    pK (q * 4503599627370496 + c) = 0 ∧ sNeg (q * 4503599627370496 + c) = false ∧ fv (q * 4503599627370496 + c) = (c : Rat) * p2 ((q : Int) - 1074) := by
  generalize hk : q * 4503599627370496 + c = k at *
  have hn : sNeg k = false := by unfold sNeg; rw [Nat.div_eq_of_lt (by omega)]; rfl
  have hK : pK k = 0 := by unfold pK pE₀; rw [if_neg (by omega), if_neg (by omega)]
  refine ⟨hK, hn, ?_⟩
  unfold fv
  rw [hn]
  have hs : ∀ x, sgn false x = x := fun x => rfl
  rw [hs]
  by_cases a1 : c < 4503599627370496
  · have hq : q = 0 := by
      rcases Nat.eq_zero_or_pos q with h | h
      · exact h
      · have := h2 (by omega); omega
    subst hq
    have e1 : pE₀ k = 0 := by unfold pE₀; omega
    have e2 : pM k = c := by unfold pM; rw [e1]; unfold pM₀; simp; omega
    have e3 : pE k = -1074 := by unfold pE; rw [e1]; simp
    rw [e2, e3]; rfl
  · by_cases a2 : c < 9007199254740992
    · have e1 : pE₀ k = q + 1 := by unfold pE₀; omega
      have e2 : pM k = c := by unfold pM; rw [e1, if_neg (by omega), if_neg (by omega)]; unfold pM₀; omega
      have e3 : pE k = (q : Int) - 1074 := by unfold pE; rw [e1, if_neg (by omega), if_neg (by omega)]; omega
      rw [e2, e3]; rfl
    · have hc : c = 9007199254740992 := by omega
      have e1 : pE₀ k = q + 2 := by unfold pE₀; omega
      have e2 : pM k = 4503599627370496 := by unfold pM; rw [e1, if_neg (by omega), if_neg (by omega)]; unfold pM₀; omega
      have e3 : pE k = ((q : Int) - 1074) + 1 := by unfold pE; rw [e1, if_neg (by omega), if_neg (by omega)]; omega
      rw [e2, e3, hc, p2_add]
      have e4 : p2 1 = 2 := by decide +kernel
      rw [e4]
      generalize p2 ((q : Int) - 1074) = z
      have : ((9007199254740992 : Nat) : Rat) = 9007199254740992 := by rfl
      rw [this]
      have : ((4503599627370496 : Int) : Rat) = 4503599627370496 := by rfl
      rw [this]
      grind
/-- how a number is kept: at which place, and what -/
theorem rung_kept {m : Nat} {p : Int} (hm : m ≠ 0) (hf : rungF m p < 9218868437227405312) : ∃ q c : Nat, rungF m p = q * 4503599627370496 + c ∧ c ≤ 9007199254740992 ∧ (q ≠ 0 → 4503599627370496 ≤ c) ∧ (q : Int) - 1074 = max (p + m.log2 - 52) (-1074) ∧ c = Toward.even.cut false (m <<< (p - ((q : Int) - 1074)).toNat) (((q : Int) - 1074) - p).toNat := by
  unfold rungF at hf ⊢
  rw [if_neg hm] at hf ⊢
  simp only at hf ⊢
  obtain ⟨q, hq⟩ : ∃ q : Nat, (q : Int) - 1074 = max (p + m.log2 - 52) (-1074) := ⟨(max (p + m.log2 - 52) (-1074) + 1074).toNat, by omega⟩
  rw [← hq] at hf ⊢
  have e1 : ((q : Int) - 1074 - -1074).toNat = q := by omega
  rw [e1] at hf ⊢
  have h1 := Nat.log2_self_le hm
  have h2 : m < 2 ^ (m.log2 + 1) := Nat.lt_log2_self
  have key : Toward.even.cut false (m <<< (p - ((q : Int) - 1074)).toNat) (((q : Int) - 1074) - p).toNat ≤ 9007199254740992 ∧ (q ≠ 0 → 4503599627370496 ≤ Toward.even.cut false (m <<< (p - ((q : Int) - 1074)).toNat) (((q : Int) - 1074) - p).toNat) := by
    by_cases hd : p ≤ (q : Int) - 1074
    · have e2 : (p - ((q : Int) - 1074)).toNat = 0 := by omega
      rw [e2, Nat.shiftLeft_zero]
      obtain ⟨d, hd'⟩ : ∃ d : Nat, (q : Int) - 1074 = p + d := ⟨((q : Int) - 1074 - p).toNat, by omega⟩
      have e3 : ((q : Int) - 1074 - p).toNat = d := by omega
      rw [e3]
      by_cases hdl : d ≤ m.log2 + 2
      · obtain ⟨c1, c2⟩ := cut_mid hdl
        generalize Toward.even.cut false m d = c at *
        constructor
        · -- m < 2^(log2+1) ≤ 2^(53+d)
          have : 2 ^ (m.log2 + 1) ≤ 2 ^ (53 + d) := Nat.pow_le_pow_right (by omega) (by omega)
          rw [Nat.pow_add 2 53 d] at this
          have hp := Nat.two_pow_pos d
          generalize 2 ^ d = g at *
          have h53 : 2 ^ 53 = 9007199254740992 := by decide
          rw [h53] at this
          rcases Nat.lt_or_ge 9007199254740992 c with hc | hc
          · have := Nat.mul_le_mul_right g (show 9007199254740993 ≤ c by omega)
            omega
          · exact hc
        · intro hq0
          have hl : d + 52 = m.log2 := by omega
          have : 2 ^ (52 + d) ≤ m := by rw [show 52 + d = m.log2 by omega]; exact h1
          rw [Nat.pow_add 2 52 d] at this
          have hp := Nat.two_pow_pos d
          generalize 2 ^ d = g at *
          have h52 : 2 ^ 52 = 4503599627370496 := by decide
          rw [h52] at this
          rcases Nat.lt_or_ge c 4503599627370496 with hc | hc
          · have := Nat.mul_le_mul_right g (show c ≤ 4503599627370495 by omega)
            omega
          · exact hc
      · rw [cut_far (by omega)]
        exact ⟨by omega, fun hq0 => by omega⟩
    · have e3 : ((q : Int) - 1074 - p).toNat = 0 := by omega
      rw [e3, cut_zero, Nat.shiftLeft_eq]
      obtain ⟨d, hd'⟩ : ∃ d : Nat, p = (q : Int) - 1074 + d := ⟨(p - ((q : Int) - 1074)).toNat, by omega⟩
      have e4 : (p - ((q : Int) - 1074)).toNat = d := by omega
      rw [e4]
      constructor
      · have : 2 ^ (m.log2 + 1) * 2 ^ d ≤ 2 ^ 53 := by rw [← Nat.pow_add]; exact Nat.pow_le_pow_right (by omega) (by omega)
        have h53 : 2 ^ 53 = 9007199254740992 := by decide
        have := Nat.mul_le_mul_right (2 ^ d) (Nat.le_of_lt h2)
        omega
      · intro hq0
        have : 2 ^ m.log2 * 2 ^ d = 2 ^ 52 := by rw [← Nat.pow_add]; congr 1; omega
        have h52 : 2 ^ 52 = 4503599627370496 := by decide
        have := Nat.mul_le_mul_right (2 ^ d) h1
        omega
  refine ⟨q, _, Nat.min_eq_left ?_, key.1, key.2, rfl, rfl⟩
  omega
theorem p2_natC (n : Nat) : p2 n = ((2 ^ n : Nat) : Rat) := by
  rw [p2_nat]
  have : ((2 : Int) ^ n) = ((2 ^ n : Nat) : Int) := by rw [Int.natCast_pow]; rfl
  rw [this]; rfl
theorem p2_le {a b : Int} (h : a ≤ b) : p2 a ≤ p2 b := by
  obtain ⟨d, rfl⟩ : ∃ d : Nat, b = a + d := ⟨(b - a).toNat, by omega⟩
  rw [p2_add, p2_natC]
  have h1 : (1 : Rat) ≤ ((2 ^ d : Nat) : Rat) := by
    have := Nat.two_pow_pos d
    exact_mod_cast this
  have h2 := p2_pos a
  calc p2 a = p2 a * 1 := (Rat.mul_one _).symm
    _ ≤ p2 a * ((2 ^ d : Nat) : Rat) := Rat.mul_le_mul_of_nonneg_left h1 (Rat.le_of_lt h2)
def Near (x y t : Rat) : Prop := x - y ≤ t ∧ y - x ≤ t
theorem natCast_le {a b : Nat} (h : a ≤ b) : (a : Rat) ≤ (b : Rat) := by exact_mod_cast h
/-- what is kept is the nearest: half a place away at most -/
theorem rung_err {m : Nat} {p : Int} (hm : m ≠ 0) (hf : rungF m p < 9218868437227405312) : pK (rungF m p) = 0 ∧ sNeg (rungF m p) = false ∧ 0 ≤ fv (rungF m p) ∧
    ∃ t, 0 ≤ t ∧ Near (fv (rungF m p)) ((m : Rat) * p2 p) t ∧ t ≤ (m : Rat) * p2 p * p2 (-53) + p2 (-1075) ∧ t ≤ fv (rungF m p) * p2 (-53) + p2 (-1075) := by
  obtain ⟨q, c, hr, hc, hq, hl, hcut⟩ := rung_kept hm hf
  rw [hr] at hf
  obtain ⟨r1, r2, r3⟩ := fv_rung hc hq hf
  rw [hr, r3]
  have hL := p2_pos ((q : Int) - 1074)
  have hp := p2_pos p
  have hc0 : (0 : Rat) ≤ c := by exact_mod_cast Nat.zero_le c
  have hm0 : (0 : Rat) ≤ m := by exact_mod_cast Nat.zero_le m
  have h53 := p2_pos (-53)
  have h75 := p2_pos (-1075)
  have hcL : 0 ≤ (c : Rat) * p2 ((q : Int) - 1074) := Rat.mul_nonneg hc0 (Rat.le_of_lt hL)
  have hmp : 0 ≤ (m : Rat) * p2 p := Rat.mul_nonneg hm0 (Rat.le_of_lt hp)
  refine ⟨r1, r2, hcL, ?_⟩
  by_cases hd : p ≤ (q : Int) - 1074
  · refine ⟨p2 ((q : Int) - 1074) * p2 (-1), Rat.mul_nonneg (Rat.le_of_lt hL) (Rat.le_of_lt (p2_pos _)), ?_, ?_⟩
    · obtain ⟨d, hd'⟩ : ∃ d : Nat, (q : Int) - 1074 = p + d := ⟨((q : Int) - 1074 - p).toNat, by omega⟩
      have e2 : (p - ((q : Int) - 1074)).toNat = 0 := by omega
      have e3 : ((q : Int) - 1074 - p).toNat = d := by omega
      rw [e2, Nat.shiftLeft_zero, e3] at hcut
      have key : 2 * (c * 2 ^ d) ≤ 2 * m + 2 ^ d ∧ 2 * m ≤ 2 * (c * 2 ^ d) + 2 ^ d := by
        by_cases hdl : d ≤ m.log2 + 2
        · rw [hcut]; exact cut_mid hdl
        · rw [cut_far (by omega)] at hcut
          subst hcut
          have h2 : m < 2 ^ (m.log2 + 1) := Nat.lt_log2_self
          have : 2 ^ (m.log2 + 1 + 1) ≤ 2 ^ d := Nat.pow_le_pow_right (by omega) (by omega)
          rw [Nat.pow_succ 2 (m.log2 + 1)] at this
          omega
      rw [hd', p2_add p d, p2_natC]
      have e1 : p2 (-1) = 1/2 := by decide +kernel
      rw [e1]
      obtain ⟨k1, k2⟩ := key
      have k1' := natCast_le k1
      have k2' := natCast_le k2
      simp only [Rat.natCast_mul, Rat.natCast_add] at k1' k2'
      generalize ((2 ^ d : Nat) : Rat) = g at *
      generalize (c : Rat) = C at *
      generalize (m : Rat) = M at *
      have t2 : ((2 : Nat) : Rat) = 2 := rfl
      rw [t2] at k1' k2'
      have m1 := Rat.mul_le_mul_of_nonneg_left k1' (Rat.le_of_lt hp)
      have m2 := Rat.mul_le_mul_of_nonneg_left k2' (Rat.le_of_lt hp)
      generalize p2 p = P at *
      unfold Near
      constructor <;> grind
    · have e1 : p2 ((q : Int) - 1074) * p2 (-1) = p2 ((q : Int) - 1075) := by rw [← p2_add]; congr 1; omega
      by_cases hq0 : q = 0
      · subst hq0
        rw [e1]
        have e0 : p2 (((0 : Nat) : Int) - 1075) = p2 (-1075) := rfl
        rw [e0]
        have n1 := Rat.mul_nonneg hcL (Rat.le_of_lt h53)
        have n2 := Rat.mul_nonneg hmp (Rat.le_of_lt h53)
        constructor <;> grind
      · have hq' := hq hq0
        have hL52 : p2 ((q : Int) - 1074) * p2 (-1) = p2 52 * p2 ((q : Int) - 1074) * p2 (-53) := by
          rw [← p2_add, ← p2_add, ← p2_add]; congr 1; omega
        have c52 : p2 52 ≤ (c : Rat) := by
          have : p2 52 = ((4503599627370496 : Nat) : Rat) := by decide +kernel
          rw [this]; exact natCast_le hq'
        have x1 : p2 52 * p2 ((q : Int) - 1074) ≤ (c : Rat) * p2 ((q : Int) - 1074) := Rat.mul_le_mul_of_nonneg_right c52 (Rat.le_of_lt hL)
        have x2 : p2 52 * p2 ((q : Int) - 1074) ≤ (m : Rat) * p2 p := by
          rw [← p2_add, show (52 : Int) + ((q : Int) - 1074) = (m.log2 : Int) + p by omega, p2_add, p2_natC]
          exact Rat.mul_le_mul_of_nonneg_right (natCast_le (Nat.log2_self_le hm)) (Rat.le_of_lt hp)
        rw [hL52]
        have y1 := Rat.mul_le_mul_of_nonneg_right x1 (Rat.le_of_lt h53)
        have y2 := Rat.mul_le_mul_of_nonneg_right x2 (Rat.le_of_lt h53)
        constructor <;> grind
  · refine ⟨0, Rat.le_refl, ?_, ?_⟩
    · have e3 : ((q : Int) - 1074 - p).toNat = 0 := by omega
      rw [e3, cut_zero, Nat.shiftLeft_eq] at hcut
      obtain ⟨d, hd'⟩ : ∃ d : Nat, p = (q : Int) - 1074 + d := ⟨(p - ((q : Int) - 1074)).toNat, by omega⟩
      have e4 : (p - ((q : Int) - 1074)).toNat = d := by omega
      rw [e4] at hcut
      rw [hcut, hd', p2_add, p2_natC, Rat.natCast_mul]
      unfold Near
      generalize ((2 ^ d : Nat) : Rat) = g at *
      generalize (m : Rat) = M at *
      generalize p2 ((q : Int) - 1074) = L at *
      constructor <;> grind
    · have n1 := Rat.mul_nonneg hcL (Rat.le_of_lt h53)
      have n2 := Rat.mul_nonneg hmp (Rat.le_of_lt h53)
      constructor <;> grind
end Go.Sx
