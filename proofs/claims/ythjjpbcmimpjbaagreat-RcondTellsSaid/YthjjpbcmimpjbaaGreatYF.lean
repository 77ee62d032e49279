/- A part of the proofs of this seat: YF. No condition is set. -/
import Derived.KernelRfl
import Derived.Test.YthjjpbcmimpjbaaGreatXD
import Derived.Test.YthjjpbcmimpjbaaGreatXN
import Derived.Test.YthjjpbcmimpjbaaGreatYA
import Derived.Test.YthjjpbcmimpjbaaGreatYE
set_option linter.unusedVariables false
set_option linter.unusedSimpArgs false
set_option maxRecDepth 20000
namespace Go.Sx
open Go.Proofs

theorem rnext_0 (H : List (List AV)) (mid : Nat) (hb : mid < H.length) (M : MS) (h1 : 1 ≤ M.n) (h64 : M.n ≤ 64) (hst : M.st = 0) (H0 H' : List (List AV)) (h0 : H.set mid (mCe M) = H0) (h' : H.set mid (mCe (nxt M []).1) = H') :
    CSpec Tryz.prog 57 [mP mid, .slnil] H0 (.tup [.sl none M.n (fl (nxt M []).2.1), .int .i64 (nxt M []).2.2]) H' := by
  obtain ⟨n, st, est, v, s, j, ct⟩ := M
  simp only at hst h1 h64; subst hst
  exact rx_0 H mid hb n h1 h64 est (LV v) (LV s) (LV_mx _) (LV_mx _) j ct H0 H' h0 h'
theorem rnext_1 (H : List (List AV)) (mid : Nat) (hb : mid < H.length) (M : MS) (hok : MOk M) (hst : 1 ≤ M.st) (h5 : M.st ≤ 5) (hsl : M.s.length ≤ 2 ^ 30) (X : AV) (x : List Nat) (hX : ∀ H', FL H' X x) (hx : x.length = M.n) (H0 H' : List (List AV)) (h0 : H.set mid (mCe M) = H0) (h' : H.set mid (mCe (nxt M x).1) = H') :
    ((nxt M x).2.2 ≠ 0 → CSpec Tryz.prog 57 [mP mid, X] H0 (.tup [.sl none M.n (fl (nxt M x).2.1), .int .i64 (nxt M x).2.2]) H') ∧
    ((nxt M x).2.2 = 0 → CSpec Tryz.prog 57 [mP mid, X] H0 (.tup [.slnil, .int .i64 0]) H') := by
  obtain ⟨n, st, est, v, s, j, ct⟩ := M
  obtain ⟨a1, a2, a3, a4, a5, a6, a7⟩ := hok
  simp only at hst h5 hx a1 a2 a3 a4 a5 a6 a7 hsl
  have hx0 : 0 < x.length := by omega
  have hLx : LV x = .sl none n (fl x) := by rw [LV_ne hx0, hx]
  have hLs : LV (sgL x) = .sl none n (fl (sgL x)) := by rw [LV_ne (by simpa using hx0), sgL_len, hx]
  have hS := fun H => LV_FL H s
  rcases (by omega : st = 1 ∨ st = 2 ∨ st = 3 ∨ st = 4 ∨ st = 5) with e | e | e | e | e <;> subst e
  · by_cases hn2 : 1 < n
    · have e : nxt ⟨n, 1, est, v, s, j, ct⟩ x = (⟨n, 2, asumF x, x, sgL x, j, ct⟩, sgL x, 2) := by simp [nxt, hn2]
      rw [e] at h' ⊢
      refine ⟨fun _ => ?_, fun h => absurd h (by simp)⟩
      rw [mCe_D] at h'; simp only [hLx, hLs] at h'
      exact rx_1p H mid hb n a1 a2 est (LV v) (LV s) (LV_mx _) (LV_mx _) j ct X x hX hx hn2 H0 H' h0 h'
    · have e : nxt ⟨n, 1, est, v, s, j, ct⟩ x = (⟨n, 6, asumF x, x, s, j, ct⟩, [], 0) := by simp [nxt, hn2]
      rw [e] at h' ⊢
      refine ⟨fun h => absurd rfl h, fun _ => ?_⟩
      rw [mCe_D] at h'; simp only [hLx] at h'
      exact rx_1d H mid hb n a1 a2 est (LV v) (LV s) (LV_mx _) (LV_mx _) j ct X x hX hx (by omega) H0 H' h0 h'
  · have e : nxt ⟨n, 2, est, v, s, j, ct⟩ x = (⟨n, 3, est, v, s, moN x n, 2⟩, rml (yU (moN x n)) n, 1) := by simp [nxt, hx]
    rw [e] at h' ⊢
    exact ⟨fun _ => rx_2 H mid hb n a1 a2 est (LV v) (LV s) (LV_mx _) (LV_mx _) j ct X x hX hx H0 H' h0 h', fun h => absurd h (by simp)⟩
  · by_cases hc : sgL x = s ∨ (flt (asumF x) est || feq (asumF x) est) = true
    · have e : nxt ⟨n, 3, est, v, s, j, ct⟩ x = ({ bet ⟨n, 3, est, v, s, j, ct⟩ (asumF x) x with st := 5 }, rml (yL n) n, 1) := by simp only [nxt]; rw [if_pos hc]
      rw [e] at h' ⊢
      refine ⟨fun _ => ?_, fun h => absurd h (by simp)⟩
      rw [mC_bet' _ _ _ hx hx0] at h'
      by_cases ht : flt est (asumF x) = true
      · simp only [ht, if_true] at h'
        exact rx_3ft H mid hb n a1 a2 est (LV v) (LV s) (LV_mx _) (LV_mx _) j ct X x hX hx s hS hsl ht hc H0 H' h0 h'
      · simp only [Bool.not_eq_true] at ht
        simp only [ht, Bool.false_eq_true, if_false] at h'
        exact rx_3ff H mid hb n a1 a2 est (LV v) (LV s) (LV_mx _) (LV_mx _) j ct X x hX hx s hS hsl ht hc H0 H' h0 h'
    · have e : nxt ⟨n, 3, est, v, s, j, ct⟩ x = ({ bet ⟨n, 3, est, v, s, j, ct⟩ (asumF x) x with s := sgL x, st := 4 }, sgL x, 2) := by simp only [nxt]; rw [if_neg hc]
      rw [e] at h' ⊢
      refine ⟨fun _ => ?_, fun h => absurd h (by simp)⟩
      rw [mC_bet _ _ _ hx hx0, hLs] at h'
      by_cases ht : flt est (asumF x) = true
      · simp only [ht, if_true] at h'
        exact rx_3st H mid hb n a1 a2 est (LV v) (LV s) (LV_mx _) (LV_mx _) j ct X x hX hx s hS hsl ht hc H0 H' h0 h'
      · simp only [Bool.not_eq_true] at ht
        simp only [ht, Bool.false_eq_true, if_false] at h'
        exact rx_3sf H mid hb n a1 a2 est (LV v) (LV s) (LV_mx _) (LV_mx _) j ct X x hX hx s hS hsl ht hc H0 H' h0 h'
  · by_cases hc : feq (absF (x.getD j 0)) (absF (x.getD (moN x n) 0)) = false ∧ ct < 5
    · have e : nxt ⟨n, 4, est, v, s, j, ct⟩ x = (⟨n, 3, est, v, s, moN x n, ct + 1⟩, rml (yU (moN x n)) n, 1) := by simp only [nxt, hx]; rw [if_pos hc]
      rw [e] at h' ⊢
      exact ⟨fun _ => rx_4u H mid hb n a1 a2 est (LV v) (LV s) (LV_mx _) (LV_mx _) j ct X x hX hx a3 hc H0 H' h0 h', fun h => absurd h (by simp)⟩
    · have e : nxt ⟨n, 4, est, v, s, j, ct⟩ x = (⟨n, 5, est, v, s, moN x n, ct⟩, rml (yL n) n, 1) := by simp only [nxt, hx]; rw [if_neg hc]
      rw [e] at h' ⊢
      exact ⟨fun _ => rx_4f H mid hb n a1 a2 est (LV v) (LV s) (LV_mx _) (LV_mx _) j ct X x hX hx a3 hc H0 H' h0 h', fun h => absurd h (by simp)⟩
  · have e : nxt ⟨n, 5, est, v, s, j, ct⟩ x = ({ bet ⟨n, 5, est, v, s, j, ct⟩ (t5 n (asumF x)) x with st := 6 }, [], 0) := by simp only [nxt]
    rw [e] at h' ⊢
    refine ⟨fun h => absurd rfl h, fun _ => ?_⟩
    rw [mC_bet' _ _ _ hx hx0] at h'
    by_cases ht : flt est (t5 n (asumF x)) = true
    · simp only [ht, if_true] at h'
      exact rx_5t H mid hb n a1 a2 est (LV v) (LV s) (LV_mx _) (LV_mx _) j ct X x hX hx ht H0 H' h0 h'
    · simp only [Bool.not_eq_true] at ht
      simp only [ht, Bool.false_eq_true, if_false] at h'
      exact rx_5f H mid hb n a1 a2 est (LV v) (LV s) (LV_mx _) (LV_mx _) j ct X x hX hx ht H0 H' h0 h'
attribute [local irreducible] Ex exOps exD opX opE thenX blkX RetQ Spec CSpec Fr condK guardK guardD ckK valK pickK loadK faK callK argK gK fK rK RetV lpX prK
set_option maxHeartbeats 4000000 in
theorem new_m (H : List (List AV)) (n : Nat) (hn1 : 1 ≤ n) (hn : n ≤ 64) (H' : List (List AV)) (h' : H ++ [(mDc (n : Int) 0 0 .slnil .slnil 0 0)] = H') (m : Nat) (hm9 : H.length = m) :
    CSpec Tryz.prog 43 [.int .i64 (n : Int)] H (.tup [mP m, .int .i64 0]) H' := by
  subst h' hm9
  refine .mk (fun args w => Tryz.call43 args w) (Spec.intro' (fn := Tryz.f43) Tryz.func43 rfl (by kernel_rfl) (by simp) true [] (draw := drawX Tryz.prog ⟨true, _, []⟩) dOk ?_)
  simp only [argE, Nat.reduceAdd]
  repeat' (first
    | (refine gateE ?_; (first | refine b_c0 ?_ | refine b_nil ?_ | refine m13 ?_ | refine m12 ?_ | refine m11 ?_ | (refine m10 ?_; (first | refine g_TT ?_ | refine g_FF ?_ | refine g_TF ?_ | refine g_FT ?_ | refine g_PT ?_ ?_ | refine g_PF ?_ ?_ | refine g_BT ?_ ?_ | refine g_BF ?_ ?_ | fail)) | (refine m09 ?_; (first | refine g_TT ?_ | refine g_FF ?_ | refine g_TF ?_ | refine g_FT ?_ | refine g_PT ?_ ?_ | refine g_PF ?_ ?_ | refine g_BT ?_ ?_ | refine g_BF ?_ ?_ | fail)) | refine m38 ?_ | fail))
    | (refine gateO ?_; (first | refine m14 ?_ | refine b_boxE (by (conv => {lhs; whnf}); done) (by exact rfl) (by exact rfl) (by exact rfl) (by (conv => {lhs; whnf}); done) (by (conv => {lhs; simp only [List.nil_append, List.cons_append]}); done) ?_ | (refine m00 ?_; (first | refine m47 ?_ | refine m48 ?_ | refine m49 ?_ | refine m50 ?_ | refine v_k ?_ | refine m51 ?_ | fail)) | (refine m22 ?_; (first | refine m26 ?_ | refine m27 ?_ | fail)) | refine m42 ?_ | refine b_assignI ?_ | refine b_assignN ?_ | refine m08 ?_ | refine m01 ?_ | refine b_build ?_ | fail))
    | (refine gateT ?_; (first | refine b_thn ?_ | refine b_thr ?_ | refine b_the ?_ | fail))
    | (refine gateX ?_; (first | refine b_seq ?_ | refine b_region ?_ | (refine m06 ?_; (first | refine c_T ?_ | refine c_F ?_ | refine c_P ?_ ?_ | refine c_B ?_ ?_ | fail)) | refine b_ret ?_ | refine b_skip ?_ | refine b_block ?_ | refine b_exit ?_ | fail))
    | refine m58 ?_
    | refine fk_nil ?_
    | (refine gateQ ?_; refine m05 ?_)
    | (refine gateR ?_; (first | refine m04 ?_ | refine m02 ?_ | refine m03 ?_ | refine rk_nil ?_ | fail))
    | intro _)
  all_goals first
    | (exfalso; omega)
    | exact rv_kp (j := 0) (cs := (mDc (n : Int) 0 0 .slnil .slnil 0 0)) rfl rfl (by rw [mDc_mx rfl rfl]; exact Nat.zero_le _) (Fr.tup (Frs.cons (Fr.kpp (j := 0) (cs := (mDc (n : Int) 0 0 .slnil .slnil 0 0)) rfl (hg_new rfl rfl) rfl) (Frs.cons (Fr.old (by simp [mx])) Frs.nil)))

set_option maxHeartbeats 4000000 in
theorem est_m (H : List (List AV)) (mid : Nat) (n st : Int) (est : Nat) (V S : AV) (j ct : Int) (hm : H[mid]? = some (mDc n st est V S j ct)) :
    CSpec Tryz.prog 49 [mP mid] H (.flt est) H := by
  refine .mk (fun args w => Tryz.call49 args w) (Spec.intro' (fn := Tryz.f49) Tryz.func49 rfl (by kernel_rfl) (by simp) false [] (draw := drawX Tryz.prog ⟨false, _, []⟩) dOk ?_)
  simp only [argE, Nat.reduceAdd]
  repeat' (first
    | (refine gateE ?_; (first | refine b_c0 ?_ | refine b_nil ?_ | fail))
    | (refine gateO ?_; (first | refine m14 ?_ | (refine m17 ?_; first | refine m19 ?_ | refine m18 ?_) | (refine m07 ?_; (first | refine m15 ?_ | refine m16 ?_ | refine l_o1 hm (by exact rfl) (by exact rfl) ?_ | fail)) | refine b_nilC (by (conv => {lhs; whnf}); done) ?_ | (refine m45 ?_; (first | refine v_bbT (by exact rfl) ?_ | refine v_k ?_ | fail)) | (refine m00 ?_; (first | refine m52 ?_ | refine m53 ?_ | refine v_eP ?_ | refine m49 ?_ | refine m50 ?_ | refine v_k ?_ | refine m51 ?_ | fail)) | refine m42 ?_ | refine b_assignI ?_ | refine b_assignN ?_ | refine m08 ?_ | fail))
    | (refine gateT ?_; (first | refine b_thn ?_ | refine b_thr ?_ | refine b_the ?_ | fail))
    | (refine gateX ?_; (first | refine b_seq ?_ | refine b_region ?_ | (refine m06 ?_; (first | refine c_T ?_ | refine c_F ?_ | refine c_P ?_ ?_ | refine c_B ?_ ?_ | fail)) | refine b_ret ?_ | refine b_skip ?_ | refine b_block ?_ | refine b_exit ?_ | fail))
    | (refine gateQ ?_; refine m05 ?_)
    | (refine gateR ?_; (first | refine m04 ?_ | refine m02 ?_ | refine m03 ?_ | refine rk_nil ?_ | fail))
    | intro _)
  all_goals first
    | (exfalso; contradiction)
    | (exfalso; omega)
    | (refine rv_old rfl (by simp [mx, mxL, resOne, aOf, aOf1]) ?_; simp only [cn_1, cn_2, cn_m1]; exact rfl)
    | (refine rv_old rfl (by simp [mx, mxL, resOne, aOf, aOf1]) ?_; exact rfl)
    | (exfalso; simp_all; done)

set_option maxHeartbeats 4000000 in
theorem vec_m (H : List (List AV)) (mid : Nat) (m : Nat) (v : List Nat) (hv : v.length = m) (hm1 : 1 ≤ m) (hm64 : m ≤ 64) (n st : Int) (est : Nat) (S : AV) (j ct : Int) (hm : H[mid]? = some (mDc n st est (.sl none m (fl v)) S j ct)) :
    CSpec Tryz.prog 50 [mP mid] H (.sl none m (fl v)) H := by
  refine .mk (fun args w => Tryz.call50 args w) (Spec.intro' (fn := Tryz.f50) Tryz.func50 rfl (by kernel_rfl) (by simp) false [] (draw := drawX Tryz.prog ⟨false, _, []⟩) dOk ?_)
  simp only [argE, Nat.reduceAdd]
  repeat' (first
    | (refine gateE ?_; (first | refine b_c0 ?_ | refine b_nil ?_ | fail))
    | (refine gateO ?_; (first | refine m14 ?_ | (refine m17 ?_; first | refine m19 ?_ | refine m18 ?_) | (refine m07 ?_; (first | refine m15 ?_ | refine m16 ?_ | refine l_o1 hm (by exact rfl) (by exact rfl) ?_ | fail)) | refine b_nilC (by (conv => {lhs; whnf}); done) ?_ | (refine m45 ?_; (first | refine v_bbT (by exact rfl) ?_ | refine v_k ?_ | fail)) | (refine m00 ?_; (first | refine m52 ?_ | refine m53 ?_ | refine v_eP ?_ | refine m49 ?_ | refine m50 ?_ | refine v_k ?_ | refine m51 ?_ | fail)) | refine m42 ?_ | refine b_assignI ?_ | refine b_assignN ?_ | refine m08 ?_ | refine b_callB ?_ | fail))
    | (refine gateT ?_; (first | refine b_thn ?_ | refine b_thr ?_ | refine b_the ?_ | fail))
    | (refine gateX ?_; (first | refine b_seq ?_ | refine b_region ?_ | (refine m06 ?_; (first | refine c_T ?_ | refine c_F ?_ | refine c_P ?_ ?_ | refine c_B ?_ ?_ | fail)) | refine b_ret ?_ | refine b_skip ?_ | refine b_block ?_ | refine b_exit ?_ | fail))
    | refine m21 ?_
    | refine a_nil ?_
    | (refine gateK ?_; (first | refine c_call (clone_n9 _ _ v (FLz _ _ _ hv) m hv hm64 (NN.sl (by omega))) (OldOk.app (by simp)) ?_ | fail))
    | (refine gateQ ?_; refine m05 ?_)
    | (refine gateR ?_; (first | refine m04 ?_ | refine m02 ?_ | refine m03 ?_ | refine rk_nil ?_ | fail))
    | intro _)
  all_goals first
    | (exfalso; contradiction)
    | (exfalso; omega)
    | (refine rv_old rfl (by simp [mx, mxL, mxL_fl, resOne, aOf, aOf1]) ?_; simp only [cn_1, cn_2, cn_m1]; exact rfl)
    | (refine rv_old rfl (by simp [mx, mxL, mxL_fl, resOne, aOf, aOf1]) ?_; exact rfl)
    | (exfalso; simp_all; done)

set_option maxHeartbeats 4000000 in
theorem ask_r (Hi : List (List AV)) (mid n : Nat) (i1 i2 : Nat) (c1 c2 : List AV) (Hs Hm : Nat → List (List AV)) (yV : Nat → AV) (kd : Nat → Int) (N : Nat) (h0 : CSpec Tryz.prog 102 [mP mid, .slnil] (Hi ++ []) (.tup [yV 0, .int .i64 (kd 0)]) (Hs 0 ++ [])) (o0 : OldOk Hi.length (Hi ++ []) (Hs 0 ++ [])) (hpos : ∀ k, k < N → 0 < kd k) (hz : kd N = 0) (hlen : ∀ k, k < N → slen (yV k) = some n) (hd1 : ∀ k, k < N → kd k ≠ 2 → CSpec Tryz.prog i1 ([vt (yV k) 0 (n : Int) 1] ++ c1) (Hs k ++ []) (.int .i64 0) (Hm k ++ [])) (hd2 : ∀ k, k < N → kd k = 2 → CSpec Tryz.prog i2 ([vt (yV k) 0 (n : Int) 1] ++ c2) (Hs k ++ []) (.int .i64 0) (Hm k ++ [])) (od : ∀ k, k < N → OldOk Hi.length (Hs k ++ []) (Hm k ++ [])) (hnx : ∀ k, k < N → CSpec Tryz.prog 102 [mP mid, yV k] (Hm k ++ []) (.tup [yV (k + 1), .int .i64 (kd (k + 1))]) (Hs (k + 1) ++ [])) (on : ∀ k, k < N → OldOk Hi.length (Hm k ++ []) (Hs (k + 1) ++ [])) (A P : List (List AV)) (hA : A.length = Hi.length) (hfin : Hs N = A ++ P) (hmx : ∀ k, k < N → True) :
    CSpec Tryz.prog 44 [mP mid, .func i1 [] c1, .func i2 [] c2] Hi (.tup []) A := by
  refine .mk (fun args w => Tryz.call44 args w) (Spec.intro' (fn := Tryz.f44) Tryz.func44 rfl (by kernel_rfl) (by simp) false [] (draw := drawX Tryz.prog ⟨false, _, []⟩) dOk ?_)
  simp only [argE, Nat.reduceAdd]
  repeat' (first
    | (refine gateE ?_; (first | refine b_c0 ?_ | refine b_nil ?_ | fail))
    | (refine gateO ?_; (first | refine m14 ?_ | refine b_mkF ?_ | refine b_lenA (by (conv => {lhs; whnf}); done) (by exact hlen k hk) ?_ | (refine m45 ?_; (first | refine v_T (by have := hpos k hk; omega) ?_ | refine v_bbT (by exact rfl) ?_ | refine v_k ?_ | fail)) | (refine m00 ?_; (first | refine v_T (by have := hpos k hk; omega) ?_ | refine m52 ?_ | refine m53 ?_ | refine v_eP ?_ | refine m47 ?_ | refine m48 ?_ | refine m49 ?_ | refine m50 ?_ | refine v_k ?_ | refine m51 ?_ | fail)) | refine m08 ?_ | refine b_callB ?_ | refine m39 ?_ | refine b_lenA (by (conv => {lhs; whnf}); done) (by first | rfl | assumption) ?_ | refine m23 ?_ | refine b_build ?_ | fail))
    | (refine gateT ?_; (first | refine b_thn ?_ | refine b_thr ?_ | refine b_the ?_ | fail))
    | (refine gateX ?_; (first | refine b_seq ?_ | refine b_region ?_ | (refine m06 ?_; (first | refine c_T ?_ | refine c_F ?_ | refine c_P ?_ ?_ | refine c_B ?_ ?_ | fail)) | refine b_ret ?_ | refine b_skip ?_ | refine b_block ?_ | refine b_exit ?_ | (refine b_loop [1, 2, 6, 7, 8] N (fun k => ⟨[(1, .val (.func i1 [] c1)), (2, .val (.func i2 [] c2)), (6, .val (.func 102 [mP mid] [])), (7, .val (yV k)), (8, .val (.int .i64 (kd k)))], [], Hs k ++ []⟩) (by exact rfl) ?_ ?_ <;> (first | intro k hk K hK | intro K) <;> (try dsimp only at *)) | fail))
    | refine m43 ?_
    | refine a_consI ?_
    | refine m21 ?_
    | refine a_nil ?_
    | (refine gateK ?_; (first | refine c_call h0 o0 ?_ | refine c_call (hd1 k hk (by omega)) (od k hk) ?_ | refine c_call (hd2 k hk (by omega)) (od k hk) ?_ | refine c_call (hnx k hk) (on k hk) ?_ | fail))
    | refine fk_cons (by (conv => {lhs; whnf}); done) (by first | exact (by exact rfl) | exact cells_of_len (hlen k hk) | fail) (by exact rfl) (by exact rfl) (by (conv => {lhs; simp only [sc, List.set_cons_zero, List.set_cons_succ]}); done) ?_
    | refine fk_nil ?_
    | refine m44 ?_
    | refine m40 ?_
    | (refine gk_nilN (by (conv => {lhs; simp only [List.nil_append, List.cons_append]}); done) ?_; first | refine ⟨by exact rfl, ?_⟩ | skip)
    | refine gk_nil ?_
    | (intro N' hN'; simp only [List.nil_append, List.cons_append] at hN'; subst hN')
    | (refine gateB ?_; (first | refine b_bln ?_ | refine b_blr ?_ | refine b_ble ?_ | refine m57 ?_ | fail))
    | (refine gateL ?_; (first | refine lp_n ?_ | refine lp_r ?_ | refine lp_e ?_ | fail))
    | (refine pr_k (by exact rfl) ?_; first | exact hK | fail | (exfalso; first | omega | (simp_all; done) | (simp_all; omega)))
    | (refine gateQ ?_; refine m05 ?_)
    | (refine gateR ?_; (first | refine m04 ?_ | refine m02 ?_ | refine m03 ?_ | refine rk_nil ?_ | fail))
    | intro _)
  all_goals first
    | (exfalso; have := hpos k hk; omega)
    | (exfalso; omega)
    | (rw [hfin, List.append_nil]; exact rv_old hA (by simp [mx, mxL, resOne]) rfl)


end Go.Sx

set_option linter.unusedVariables false
set_option linter.unusedSimpArgs false
set_option maxRecDepth 20000
namespace Go.Sx
open Go.Proofs

def slvL (a : Nat → Nat → Nat) (p : List Int) (n : Nat) (y : List Nat) : List Nat := rml (up2 a (lo1 a (tkF p (fun i => y.getD i 0) n) n) n n) n
def sltL (a : Nat → Nat → Nat) (p : List Int) (n : Nat) (y : List Nat) : List Nat := rml (tkB p (lt3 a (ut4 a (fun i => y.getD i 0) n) n n) n) n
@[simp] theorem slvL_len (a : Nat → Nat → Nat) (p : List Int) (n : Nat) (y : List Nat) : (slvL a p n y).length = n := by simp [slvL]
@[simp] theorem sltL_len (a : Nat → Nat → Nat) (p : List Int) (n : Nat) (y : List Nat) : (sltL a p n y).length = n := by simp [sltL]
theorem rml_slf' {l : List Nat} {n : Nat} (h : l.length = n) : rml (fun i => l.getD i 0) n = l := by subst h; exact rml_slf l
def M0 (n : Nat) : MS := ⟨n, 0, 0, [], [], 0, 0⟩
theorem M0_ok {n : Nat} (h1 : 1 ≤ n) (h64 : n ≤ 64) : MOk (M0 n) := ⟨h1, h64, by simp [M0]; omega, by simp [M0], by simp [M0], by simp [M0], by simp [M0]⟩
/-- the products, one behind the other -/
def prL (f1 f2 : List Nat → List Nat) (M : MS) : Nat → List (List AV)
  | 0 => []
  | k + 1 => prL f1 f2 M k ++ [fl (prM f1 f2 (runM f1 f2 M k))]
theorem prL_len (f1 f2 : List Nat → List Nat) (M : MS) (k : Nat) : (prL f1 f2 M k).length = k := by
  induction k with
  | zero => rfl
  | succ k ih => simp [prL, ih]
theorem set_lst9 (Hb : List (List AV)) (c c' : List AV) (L : List (List AV)) : (Hb ++ [c] ++ L).set Hb.length c' = Hb ++ [c'] ++ L := by
  rw [List.append_assoc, List.set_append_right _ _ (Nat.le_refl _)]; simp
/-- what is so of a machine's run until it is done -/
structure REnd (f1 f2 : List Nat → List Nat) (M : MS) (N : Nat) : Prop where
  z : (runM f1 f2 M N).2.2 = 0
  nN : (runM f1 f2 M N).1.n = M.n
  st : ∀ k, k < N → ((runM f1 f2 M k).2.2 = 1 ∨ (runM f1 f2 M k).2.2 = 2) ∧ (runM f1 f2 M k).2.1.length = M.n ∧ (runM f1 f2 M k).1.n = M.n ∧ MOk (runM f1 f2 M k).1 ∧ (runM f1 f2 M k).1.st ≤ 5 ∧ 1 ≤ (runM f1 f2 M k).1.st
theorem r_end {f1 f2 : List Nat → List Nat} {n : Nat} (h1 : 1 ≤ n) (h64 : n ≤ 64) (hf1 : ∀ y, y.length = n → (f1 y).length = n) (hf2 : ∀ y, y.length = n → (f2 y).length = n) : ∃ N, REnd f1 f2 (M0 n) N := by
  obtain ⟨N, a1, a2, a3⟩ := run_end (f1 := f1) (f2 := f2) (M0_ok h1 h64) rfl ⟨rfl, rfl⟩ hf1 hf2
  exact ⟨N, a1, a2, fun k hk => by obtain ⟨b1, b2, b3, b4, b5, b6, _⟩ := a3 k hk; exact ⟨b1, b2, b3, b4, b5, b6⟩⟩
theorem REnd.pos {f1 f2 : List Nat → List Nat} {n N : Nat} (h : REnd f1 f2 (M0 n) N) : 0 < N := by
  rcases Nat.eq_zero_or_pos N with e | e
  · exfalso; have := h.z; rw [e] at this; simp [runM, nxt, M0] at this
  · exact e
theorem REnd.pl {f1 f2 : List Nat → List Nat} {n N k : Nat} (h : REnd f1 f2 (M0 n) N) (hf1 : ∀ y, y.length = n → (f1 y).length = n) (hf2 : ∀ y, y.length = n → (f2 y).length = n) (hk : k < N) : (prM f1 f2 (runM f1 f2 (M0 n) k)).length = n := by
  obtain ⟨_, b, _⟩ := h.st k hk
  unfold prM; split
  · exact hf2 _ b
  · exact hf1 _ b
theorem REnd.v {f1 f2 : List Nat → List Nat} {n N : Nat} (h : REnd f1 f2 (M0 n) N) (hf1 : ∀ y, y.length = n → (f1 y).length = n) (hf2 : ∀ y, y.length = n → (f2 y).length = n) : (runM f1 f2 (M0 n) N).1.v.length = n := by
  obtain ⟨k, rfl⟩ : ∃ k, N = k + 1 := ⟨N - 1, by have := h.pos; omega⟩
  exact run_v (M := M0 n) (N := k + 1) rfl hf1 hf2 (fun k hk => by obtain ⟨_, b2, b3, _, b5, b6⟩ := h.st k hk; exact ⟨b2, b3, b5, b6⟩) k (by omega)
section
variable (f1 f2 : List Nat → List Nat) (n : Nat) (Hb : List (List AV))
def yVa (k : Nat) : AV := if (runM f1 f2 (M0 n) k).2.2 = 0 then .slnil else .slm (Hb.length + 1 + k) n 0 n 1
def yTa (k : Nat) : List (List AV) := if (runM f1 f2 (M0 n) k).2.2 = 0 then [] else [fl (runM f1 f2 (M0 n) k).2.1]
def HsA (k : Nat) : List (List AV) := Hb ++ [mCe (runM f1 f2 (M0 n) k).1] ++ (prL f1 f2 (M0 n) k ++ yTa f1 f2 n k)
def HmA (k : Nat) : List (List AV) := Hb ++ [mCe (runM f1 f2 (M0 n) k).1] ++ prL f1 f2 (M0 n) (k + 1)
end
theorem odl {Hb : List (List AV)} {c c' : List AV} {L L' : List (List AV)} (hc : mxL c' = 0) : OldOk (Hb ++ [c]).length (Hb ++ [c] ++ L ++ []) (Hb ++ [c'] ++ L' ++ []) := by
  intro id cs hid h
  have hl : (Hb ++ [c']).length = (Hb ++ [c]).length := by simp
  rw [List.append_nil, List.getElem?_append_left (by omega)] at h
  rw [List.append_nil, List.getElem?_append_left hid]
  rcases Nat.lt_or_ge id Hb.length with h1 | h1
  · left; rw [List.getElem?_append_left h1] at h ⊢; exact h
  · right
    have : id = Hb.length := by simp at hid; omega
    subst this
    rw [List.getElem?_append_right (Nat.le_refl _)] at h
    simp at h; subst h; omega
/-- a machine is answered until it is done -/
theorem ask_g {f1 f2 : List Nat → List Nat} {n N : Nat} (hn1 : 1 ≤ n) (hn : n ≤ 64) (hf1 : ∀ y, y.length = n → (f1 y).length = n) (hf2 : ∀ y, y.length = n → (f2 y).length = n) (hR : REnd f1 f2 (M0 n) N) (Hb : List (List AV)) (i1 i2 : Nat) (c1 c2 : List AV)
    (hc1 : ∀ (c : List AV) (B : List (List AV)) (y : List Nat), y.length = n → CSpec Tryz.prog i1 ([vt (.slm (Hb.length + 1 + B.length) n 0 n 1) 0 (n : Int) 1] ++ c1) (Hb ++ [c] ++ (B ++ [fl y])) (.int .i64 0) (Hb ++ [c] ++ (B ++ [fl (f1 y)])))
    (hc2 : ∀ (c : List AV) (B : List (List AV)) (y : List Nat), y.length = n → CSpec Tryz.prog i2 ([vt (.slm (Hb.length + 1 + B.length) n 0 n 1) 0 (n : Int) 1] ++ c2) (Hb ++ [c] ++ (B ++ [fl y])) (.int .i64 0) (Hb ++ [c] ++ (B ++ [fl (f2 y)]))) :
    CSpec Tryz.prog 44 [mP Hb.length, .func i1 [] c1, .func i2 [] c2] (Hb ++ [mCe (M0 n)]) (.tup []) (Hb ++ [mCe (runM f1 f2 (M0 n) N).1]) := by
  have hne : ∀ k, k < N → (runM f1 f2 (M0 n) k).2.2 ≠ 0 := fun k hk => by
    obtain ⟨b1, _⟩ := hR.st k hk; omega
  have hyV : ∀ k, k < N → yVa f1 f2 n Hb k = .slm (Hb.length + 1 + k) n 0 n 1 := fun k hk => if_neg (hne k hk)
  have hyT : ∀ k, k < N → yTa f1 f2 n k = [fl (runM f1 f2 (M0 n) k).2.1] := fun k hk => if_neg (hne k hk)
  have hHs : ∀ k, k < N → HsA f1 f2 n Hb k = Hb ++ [mCe (runM f1 f2 (M0 n) k).1] ++ (prL f1 f2 (M0 n) k ++ [fl (runM f1 f2 (M0 n) k).2.1]) := fun k hk => by unfold HsA; rw [hyT k hk]
  have hbl : ∀ (c : List AV) (L : List (List AV)), Hb.length < (Hb ++ [c] ++ L).length := fun c L => by simp <;> omega
  have hn0 : ∀ k, k ≤ N → (runM f1 f2 (M0 n) k).1.n = n := fun k hk => by
    rcases Nat.lt_or_ge k N with h | h
    · exact (hR.st k h).2.2.1
    · have : k = N := by omega
      subst this; exact hR.nN
  refine ask_r (Hb ++ [mCe (M0 n)]) Hb.length n i1 i2 c1 c2 (HsA f1 f2 n Hb) (HmA f1 f2 n Hb) (yVa f1 f2 n Hb) (fun k => (runM f1 f2 (M0 n) k).2.2) N ?_ ?_ ?_ hR.z ?_ ?_ ?_ ?_ ?_ ?_ (Hb ++ [mCe (runM f1 f2 (M0 n) N).1]) (prL f1 f2 (M0 n) N ++ yTa f1 f2 n N) (by simp) rfl (fun _ _ => trivial)
  · rw [hyV 0 hR.pos, hHs 0 hR.pos]
    have h := next_0 (Hb ++ [mCe (M0 n)] ++ []) Hb.length (hbl _ _) (M0 n) hn1 hn rfl _ _ (set_lst9 Hb _ _ []) rfl _ rfl
    rw [set_lst9] at h
    have e : (Hb ++ [mCe (M0 n)] ++ []).length = Hb.length + 1 + 0 := by simp
    rw [e, show (M0 n).n = n from rfl] at h
    simpa [prL, runM] using h
  · unfold HsA
    have h := odl (Hb := Hb) (c := mCe (M0 n)) (c' := mCe (runM f1 f2 (M0 n) 0).1) (L := []) (L' := prL f1 f2 (M0 n) 0 ++ yTa f1 f2 n 0) (mCe_mx _)
    simpa using h
  · intro k hk
    obtain ⟨b1, _⟩ := hR.st k hk
    show 0 < (runM f1 f2 (M0 n) k).2.2
    omega
  · intro k hk; rw [hyV k hk]; rfl
  · intro k hk h2
    obtain ⟨b1, b2, _⟩ := hR.st k hk
    have hp : prM f1 f2 (runM f1 f2 (M0 n) k) = f1 (runM f1 f2 (M0 n) k).2.1 := if_neg h2
    have h := hc1 (mCe (runM f1 f2 (M0 n) k).1) (prL f1 f2 (M0 n) k) (runM f1 f2 (M0 n) k).2.1 b2
    rw [prL_len] at h
    rw [hyV k hk, hHs k hk, List.append_nil, List.append_nil]
    unfold HmA; rw [prL, hp]; exact h
  · intro k hk h2
    obtain ⟨b1, b2, _⟩ := hR.st k hk
    have hp : prM f1 f2 (runM f1 f2 (M0 n) k) = f2 (runM f1 f2 (M0 n) k).2.1 := if_pos h2
    have h := hc2 (mCe (runM f1 f2 (M0 n) k).1) (prL f1 f2 (M0 n) k) (runM f1 f2 (M0 n) k).2.1 b2
    rw [prL_len] at h
    rw [hyV k hk, hHs k hk, List.append_nil, List.append_nil]
    unfold HmA; rw [prL, hp]; exact h
  · intro k hk
    have e : (Hb ++ [mCe (M0 n)]).length = (Hb ++ [mCe (runM f1 f2 (M0 n) k).1]).length := by simp
    rw [e]
    exact odl (mCe_mx _)
  · intro k hk
    obtain ⟨b1, b2, b3, b4, b5, b6⟩ := hR.st k hk
    have hx : (prM f1 f2 (runM f1 f2 (M0 n) k)).length = n := hR.pl hf1 hf2 hk
    have hX : ∀ c Nn, FL ((Hb ++ [mCe (runM f1 f2 (M0 n) k).1] ++ prL f1 f2 (M0 n) (k + 1)).set Hb.length c ++ Nn) (yVa f1 f2 n Hb k) (prM f1 f2 (runM f1 f2 (M0 n) k)) := fun c Nn => by
      rw [set_lst9, hyV k hk]
      refine FL.old ?_ hx.symm hx.symm
      rw [List.getElem?_append_left (by simp [prL, prL_len]; omega), List.getElem?_append_right (by simp)]
      simp [prL, prL_len]
    have h := next_1 (Hb ++ [mCe (runM f1 f2 (M0 n) k).1] ++ prL f1 f2 (M0 n) (k + 1)) Hb.length (hbl _ _) (runM f1 f2 (M0 n) k).1 b4 b6 b5 (by have := b4.sl; have := b4.n64; omega) (yVa f1 f2 n Hb k) _ hX (by rw [hx, b3]; rfl) (by rw [hyV k hk]; exact NN.slm _ _ _ _ _) _ rfl
    rw [set_lst9] at h
    have er : nxt (runM f1 f2 (M0 n) k).1 (prM f1 f2 (runM f1 f2 (M0 n) k)) = runM f1 f2 (M0 n) (k + 1) := rfl
    rw [er, show (runM f1 f2 (M0 n) k).1.n = n from b3] at h
    rw [List.append_nil, List.append_nil]
    by_cases hk0 : (runM f1 f2 (M0 n) (k + 1)).2.2 = 0
    · have h2 := h.2 _ hk0 rfl
      rw [set_lst9] at h2
      unfold HmA HsA yVa yTa
      rw [if_pos hk0, if_pos hk0, List.append_nil]
      show CSpec Tryz.prog 102 [mP Hb.length, yVa f1 f2 n Hb k] _ (.tup [.slnil, .int .i64 (runM f1 f2 (M0 n) (k + 1)).2.2]) _
      rw [hk0]; exact h2
    · have h2 := h.1 _ _ hk0 rfl rfl
      rw [set_lst9] at h2
      have e : (Hb ++ [mCe (runM f1 f2 (M0 n) k).1] ++ prL f1 f2 (M0 n) (k + 1)).length = Hb.length + 1 + (k + 1) := by simp [prL_len]; omega
      rw [e] at h2
      have e2 : yVa f1 f2 n Hb (k + 1) = .slm (Hb.length + 1 + (k + 1)) n 0 n 1 := if_neg hk0
      have e3 : yTa f1 f2 n (k + 1) = [fl (runM f1 f2 (M0 n) (k + 1)).2.1] := if_neg hk0
      rw [e2]
      unfold HmA HsA
      rw [e3, ← List.append_assoc]
      exact h2
  · intro k hk
    have e : (Hb ++ [mCe (M0 n)]).length = (Hb ++ [mCe (runM f1 f2 (M0 n) k).1]).length := by simp
    rw [e]
    exact odl (mCe_mx _)
attribute [local irreducible] Ex exOps exD opX opE thenX blkX RetQ Spec CSpec Fr condK guardK guardD ckK valK pickK loadK faK callK argK gK fK rK RetV lpX prK

end Go.Sx

set_option linter.unusedVariables false
set_option linter.unusedSimpArgs false
set_option maxRecDepth 20000
namespace Go.Sx
open Go.Proofs

theorem cn_0 : cn 0 = 0 := by decide
theorem CSpec.nil {P : Program} {f : Nat} {args : List AV} {H H' : List (List AV)} {r : AV} (h : CSpec P f args H r H') : CSpec P f args (H ++ []) r (H' ++ []) := by rwa [List.append_nil, List.append_nil]
attribute [local irreducible] Ex exOps exD opX opE thenX blkX RetQ Spec CSpec Fr condK guardK guardD ckK valK pickK loadK faK callK argK gK fK rK RetV lpX prK
set_option maxHeartbeats 4000000 in
theorem rck_1 (H : List (List AV)) (q : Nat × Nat) (la : List Nat) (ao ar ac al : Int) (hJ : MI la.length ao ar ac al) (q' : Nat × Nat) (p : List Int) (hpm : p.length ≤ 2 ^ 30) (hbad : ¬ (GoodP la.length ao ar ac al ∧ ar = ac ∧ ar = (p.length : Int) ∧ pivP p)) :
    CSpec Tryz.prog 42 [(.agg [aD q la, .int .i64 ao, .int .i64 ar, .int .i64 ac, .int .i64 al, aI q' p])] H (.int .i64 1) H := by
  obtain ⟨hm', ho1', ho2', hr1', hr2', hc1', hc2', hl1', hl2'⟩ := id hJ
  refine .mk (fun args w => Tryz.call42 args w) (Spec.intro' (fn := Tryz.f42) Tryz.func42 rfl (by kernel_rfl) (by simp) false [] (draw := drawX Tryz.prog ⟨false, _, []⟩) dOk ?_)
  simp only [argE, Nat.reduceAdd]
  repeat' (first
    | (refine gateE ?_; (first | refine b_c0 ?_ | refine b_nil ?_ | refine m13 ?_ | refine m12 ?_ | refine m11 ?_ | (refine m10 ?_; (first | refine g_TT ?_ | refine g_FF ?_ | refine g_TF ?_ | refine g_FT ?_ | refine g_PT ?_ ?_ | refine g_PF ?_ ?_ | refine g_BT ?_ ?_ | refine g_BF ?_ ?_ | fail)) | (refine m09 ?_; (first | refine g_TT ?_ | refine g_FF ?_ | refine g_TF ?_ | refine g_FT ?_ | refine g_PT ?_ ?_ | refine g_PF ?_ ?_ | refine g_BT ?_ ?_ | refine g_BF ?_ ?_ | fail)) | refine m38 ?_ | fail))
    | (refine gateO ?_; (first | refine m41 ?_ | refine b_moveI ?_ | refine m14 ?_ | (refine m17 ?_; first | refine m19 ?_ | refine m18 ?_) | (refine m07 ?_; (first | refine m15 ?_ | refine m16 ?_ | fail)) | (refine m45 ?_; (first | refine v_bbT (by exact rfl) ?_ | refine v_k ?_ | fail)) | (refine m00 ?_; (first | refine m52 ?_ | refine m53 ?_ | refine v_eP ?_ | refine m47 ?_ | refine m48 ?_ | refine m49 ?_ | refine m50 ?_ | refine v_nT ?_ | refine v_nF ?_ | refine v_nP ?_ | refine v_k ?_ | refine m51 ?_ | fail)) | (refine m22 ?_; (first | refine m26 ?_ | refine m27 ?_ | fail)) | refine m42 ?_ | refine b_assignI ?_ | refine b_assignN ?_ | refine m08 ?_ | (refine m20 ?_; (first | refine m52 ?_ | refine m53 ?_ | refine v_eP ?_ | refine m47 ?_ | refine m48 ?_ | refine m49 ?_ | refine m50 ?_ | refine v_nT ?_ | refine v_nF ?_ | refine v_nP ?_ | refine v_k ?_ | refine m51 ?_ | fail)) | refine b_callB ?_ | refine b_lenA (by (conv => {lhs; whnf}); done) (by first | rfl | assumption) ?_ | refine m23 ?_ | refine m01 ?_ | fail))
    | (refine gateT ?_; (first | refine b_thn ?_ | refine b_thr ?_ | refine b_the ?_ | fail))
    | (refine gateX ?_; (first | refine b_seq ?_ | refine b_region ?_ | (refine m06 ?_; (first | refine c_T ?_ | refine c_F ?_ | refine c_P ?_ ?_ | refine c_B ?_ ?_ | fail)) | refine b_ret ?_ | refine b_skip ?_ | refine b_block ?_ | refine b_exit ?_ | fail))
    | refine m21 ?_
    | refine a_nil ?_
    | (refine gateK ?_; (first | refine c_call (lright_c _ (aD q la) la (aD_FL _ q la) ao ar ac al hJ (aI q' p) p (aI_IL _ q' p) hpm) (OldOk.app (by simp)) ?_ | fail))
    | (refine gateB ?_; (first | refine b_bln ?_ | refine b_blr ?_ | refine b_ble ?_ | refine m57 ?_ | fail))
    | (refine gateL ?_; (first | refine lp_n ?_ | refine lp_r ?_ | refine lp_e ?_ | fail))
    | (refine pr_k (by exact rfl) ?_; first | exact hK | (exfalso; first | omega | (simp_all; done) | (simp_all; omega)))
    | (refine gateQ ?_; refine m05 ?_)
    | (refine gateR ?_; (first | refine m04 ?_ | refine m02 ?_ | refine m03 ?_ | refine rk_nil ?_ | fail))
    | intro _)
  all_goals first
    | (exfalso; contradiction)
    | (exfalso; omega)
    | (exfalso; simp_all; done)
    | (refine rv_old rfl (by simp [mx, mxL, resOne, aOf, aOf1]) ?_; exact rfl)

set_option maxHeartbeats 4000000 in
theorem rck_3 (H : List (List AV)) (q : Nat × Nat) (la : List Nat) (ao ar ac al : Int) (hJ : MI la.length ao ar ac al) (q' : Nat × Nat) (p : List Int) (hpm : p.length ≤ 2 ^ 30) (hr : (GoodP la.length ao ar ac al ∧ ar = ac ∧ ar = (p.length : Int) ∧ pivP p)) (hs : ¬ (1 ≤ ar ∧ ar ≤ 64)) :
    CSpec Tryz.prog 42 [(.agg [aD q la, .int .i64 ao, .int .i64 ar, .int .i64 ac, .int .i64 al, aI q' p])] H (.int .i64 3) H := by
  obtain ⟨hm', ho1', ho2', hr1', hr2', hc1', hc2', hl1', hl2'⟩ := id hJ
  refine .mk (fun args w => Tryz.call42 args w) (Spec.intro' (fn := Tryz.f42) Tryz.func42 rfl (by kernel_rfl) (by simp) false [] (draw := drawX Tryz.prog ⟨false, _, []⟩) dOk ?_)
  simp only [argE, Nat.reduceAdd]
  repeat' (first
    | (refine gateE ?_; (first | refine b_c0 ?_ | refine b_nil ?_ | refine m13 ?_ | refine m12 ?_ | refine m11 ?_ | (refine m10 ?_; (first | refine g_TT ?_ | refine g_FF ?_ | refine g_TF ?_ | refine g_FT ?_ | refine g_PT ?_ ?_ | refine g_PF ?_ ?_ | refine g_BT ?_ ?_ | refine g_BF ?_ ?_ | fail)) | (refine m09 ?_; (first | refine g_TT ?_ | refine g_FF ?_ | refine g_TF ?_ | refine g_FT ?_ | refine g_PT ?_ ?_ | refine g_PF ?_ ?_ | refine g_BT ?_ ?_ | refine g_BF ?_ ?_ | fail)) | refine m38 ?_ | fail))
    | (refine gateO ?_; (first | refine m41 ?_ | refine b_moveI ?_ | refine m14 ?_ | (refine m17 ?_; first | refine m19 ?_ | refine m18 ?_) | (refine m07 ?_; (first | refine m15 ?_ | refine m16 ?_ | fail)) | (refine m45 ?_; (first | refine v_bbT (by exact rfl) ?_ | refine v_k ?_ | fail)) | (refine m00 ?_; (first | refine m52 ?_ | refine m53 ?_ | refine v_eP ?_ | refine m47 ?_ | refine m48 ?_ | refine m49 ?_ | refine m50 ?_ | refine v_nT ?_ | refine v_nF ?_ | refine v_nP ?_ | refine v_k ?_ | refine m51 ?_ | fail)) | (refine m22 ?_; (first | refine m26 ?_ | refine m27 ?_ | fail)) | refine m42 ?_ | refine b_assignI ?_ | refine b_assignN ?_ | refine m08 ?_ | (refine m20 ?_; (first | refine m52 ?_ | refine m53 ?_ | refine v_eP ?_ | refine m47 ?_ | refine m48 ?_ | refine m49 ?_ | refine m50 ?_ | refine v_nT ?_ | refine v_nF ?_ | refine v_nP ?_ | refine v_k ?_ | refine m51 ?_ | fail)) | refine b_callB ?_ | refine b_lenA (by (conv => {lhs; whnf}); done) (by first | rfl | assumption) ?_ | refine m23 ?_ | refine m01 ?_ | fail))
    | (refine gateT ?_; (first | refine b_thn ?_ | refine b_thr ?_ | refine b_the ?_ | fail))
    | (refine gateX ?_; (first | refine b_seq ?_ | refine b_region ?_ | (refine m06 ?_; (first | refine c_T ?_ | refine c_F ?_ | refine c_P ?_ ?_ | refine c_B ?_ ?_ | fail)) | refine b_ret ?_ | refine b_skip ?_ | refine b_block ?_ | refine b_exit ?_ | fail))
    | refine m21 ?_
    | refine a_nil ?_
    | (refine gateK ?_; (first | refine c_call (lright_c _ (aD q la) la (aD_FL _ q la) ao ar ac al hJ (aI q' p) p (aI_IL _ q' p) hpm) (OldOk.app (by simp)) ?_ | fail))
    | (refine gateB ?_; (first | refine b_bln ?_ | refine b_blr ?_ | refine b_ble ?_ | refine m57 ?_ | fail))
    | (refine gateL ?_; (first | refine lp_n ?_ | refine lp_r ?_ | refine lp_e ?_ | fail))
    | (refine pr_k (by exact rfl) ?_; first | exact hK | (exfalso; first | omega | (simp_all; done) | (simp_all; omega)))
    | (refine gateQ ?_; refine m05 ?_)
    | (refine gateR ?_; (first | refine m04 ?_ | refine m02 ?_ | refine m03 ?_ | refine rk_nil ?_ | fail))
    | intro _)
  all_goals first
    | (exfalso; contradiction)
    | (exfalso; omega)
    | (exfalso; simp_all; done)
    | (refine rv_old rfl (by simp [mx, mxL, resOne, aOf, aOf1]) ?_; exact rfl)

set_option maxHeartbeats 4000000 in
theorem rck_0 (H : List (List AV)) (q : Nat × Nat) (la : List Nat) (ao al : Int) (n : Nat) (hJ : MI la.length ao n n al) (hGa : GoodP la.length ao n n al) (q' : Nat × Nat) (p : List Int) (hpl : p.length = n) (hpv : pivP p) (hn1 : 1 ≤ n) (hn : n ≤ 64) (hz : ∀ k, k < n → feq ((mel la ao al) k k) 0 = false) :
    CSpec Tryz.prog 42 [(.agg [aD q la, .int .i64 ao, .int .i64 (n : Int), .int .i64 (n : Int), .int .i64 al, aI q' p])] H (.int .i64 0) H := by
  obtain ⟨hm', ho1', ho2', hr1', hr2', hc1', hc2', hl1', hl2'⟩ := id hJ
  have hd : ∀ k, k < n → (rml (fun i => (mel la ao al) i i) n).getD k 0 = (mel la ao al) k k := fun k hk => rml_get hk
  refine .mk (fun args w => Tryz.call42 args w) (Spec.intro' (fn := Tryz.f42) Tryz.func42 rfl (by kernel_rfl) (by simp) false [] (draw := drawX Tryz.prog ⟨false, _, []⟩) dOk ?_)
  simp only [argE, Nat.reduceAdd]
  repeat' (first
    | (refine gateE ?_; (first | refine b_c0 ?_ | refine b_nil ?_ | refine m13 ?_ | refine m12 ?_ | refine m11 ?_ | (refine m10 ?_; (first | refine g_TT ?_ | refine g_FF ?_ | refine g_TF ?_ | refine g_FT ?_ | refine g_PT ?_ ?_ | refine g_PF ?_ ?_ | refine g_BT ?_ ?_ | refine g_BF ?_ ?_ | fail)) | (refine m09 ?_; (first | refine g_TT ?_ | refine g_FF ?_ | refine g_TF ?_ | refine g_FT ?_ | refine g_PT ?_ ?_ | refine g_PF ?_ ?_ | refine g_BT ?_ ?_ | refine g_BF ?_ ?_ | fail)) | refine m38 ?_ | fail))
    | (refine gateO ?_; (first | refine m41 ?_ | refine b_moveI ?_ | refine m14 ?_ | (refine m17 ?_; first | refine m19 ?_ | refine m18 ?_) | (refine m07 ?_; (first | refine m15 ?_ | refine m16 ?_ | refine l_FL (FLz _ _ _ (by simp)) (by simp; omega) ?_ | fail)) | refine b_lenA (by (conv => {lhs; whnf}); done) (by exact rfl) ?_ | refine b_iaN (by (conv => {lhs; whnf}); done) (by (conv => {lhs; whnf}); done) (by exact rfl) (by omega) ?_ | (refine m45 ?_; (first | refine v_to ((k + 1 : Nat) : Int) (by omega) (by omega) ?_ | refine v_bbT (by exact rfl) ?_ | refine v_k ?_ | fail)) | (refine m00 ?_; (first | refine v_to ((k + 1 : Nat) : Int) (by omega) (by omega) ?_ | refine m52 ?_ | refine m53 ?_ | refine v_eP ?_ | refine m47 ?_ | refine m48 ?_ | refine m49 ?_ | refine m50 ?_ | refine v_nT ?_ | refine v_nF ?_ | refine v_nP ?_ | refine v_k ?_ | refine m51 ?_ | fail)) | (refine m22 ?_; (first | refine m26 ?_ | refine m27 ?_ | fail)) | refine m42 ?_ | refine b_assignI ?_ | refine b_assignN ?_ | refine m08 ?_ | (refine m20 ?_; (first | refine v_to ((k + 1 : Nat) : Int) (by omega) (by omega) ?_ | refine m52 ?_ | refine m53 ?_ | refine v_eP ?_ | refine m47 ?_ | refine m48 ?_ | refine m49 ?_ | refine m50 ?_ | refine v_nT ?_ | refine v_nF ?_ | refine v_nP ?_ | refine v_k ?_ | refine m51 ?_ | fail)) | refine b_callB ?_ | refine b_lenA (by (conv => {lhs; whnf}); done) (by first | rfl | assumption) ?_ | refine m23 ?_ | refine m01 ?_ | fail))
    | (refine gateT ?_; (first | refine b_thn ?_ | refine b_thr ?_ | refine b_the ?_ | fail))
    | (refine gateX ?_; (first | refine b_seq ?_ | refine b_region ?_ | (refine m06 ?_; (first | refine c_T ?_ | refine c_F ?_ | refine c_P ?_ ?_ | refine c_B ?_ ?_ | fail)) | refine b_ret ?_ | refine b_skip ?_ | refine b_block ?_ | refine b_exit ?_ | (refine b_loop [25, 26, 27] n (fun k => ⟨[(25, .val (.sl none n (fl (rml (fun i => (mel la ao al) i i) n)))), (26, .val (.int .i64 ((n : Nat) : Int))), (27, .val (.int .i64 ((k : Nat) : Int)))], [], H ++ []⟩) (by exact rfl) ?_ ?_ <;> (first | intro k hk K hK | intro K) <;> (try dsimp only at *)) | fail))
    | refine m21 ?_
    | refine a_nil ?_
    | (refine gateK ?_; (first | refine c_call (lright_t _ (aD q la) la (aD_FL _ q la) ao n al hJ (aI q' p) p (aI_IL _ q' p) (by omega) hGa hpl hpv) (OldOk.app (by simp)) ?_ | refine c_call (diag_g _ n hn (aD q la) la (aD_FL _ q la) ao al hJ hGa (aI q' p) p (aI_IL _ q' p) (by omega) hpl hpv) (OldOk.app (by simp)) ?_ | fail))
    | (refine gateB ?_; (first | refine b_bln ?_ | refine b_blr ?_ | refine b_ble ?_ | refine m57 ?_ | fail))
    | (refine gateL ?_; (first | refine lp_n ?_ | refine lp_r ?_ | refine lp_e ?_ | fail))
    | (refine pr_k (by exact rfl) ?_; first | exact hK | (exfalso; have h8 := hd k (by omega); have h9 := hz k (by omega); simp only [h8, cn_0] at *; simp_all; done) | (exfalso; first | omega | (simp_all; done) | (simp_all; omega)))
    | (refine gateQ ?_; refine m05 ?_)
    | (refine gateR ?_; (first | refine m04 ?_ | refine m02 ?_ | refine m03 ?_ | refine rk_nil ?_ | fail))
    | intro _)
  all_goals first
    | (exfalso; contradiction)
    | (exfalso; omega)
    | (exfalso; have h9 := ‹feq ((rml (fun i => (mel la ao al) i i) n).getD k 0) (cn 0) = true›; rw [hd k (by omega), cn_0, hz k (by omega)] at h9; cases h9)
    | (exfalso; simp_all; done)
    | (refine rv_old rfl (by simp [mx, mxL, resOne, aOf, aOf1]) ?_; exact rfl)

set_option maxHeartbeats 4000000 in
theorem rck_4 (H : List (List AV)) (q : Nat × Nat) (la : List Nat) (ao al : Int) (n : Nat) (hJ : MI la.length ao n n al) (hGa : GoodP la.length ao n n al) (q' : Nat × Nat) (p : List Int) (hpl : p.length = n) (hpv : pivP p) (hn1 : 1 ≤ n) (hn : n ≤ 64) (z : Nat) (hzn : z < n) (hz : ∀ k, k < z → feq ((mel la ao al) k k) 0 = false) (hz1 : feq ((mel la ao al) z z) 0 = true) :
    CSpec Tryz.prog 42 [(.agg [aD q la, .int .i64 ao, .int .i64 (n : Int), .int .i64 (n : Int), .int .i64 al, aI q' p])] H (.int .i64 4) H := by
  obtain ⟨hm', ho1', ho2', hr1', hr2', hc1', hc2', hl1', hl2'⟩ := id hJ
  have hd : ∀ k, k < n → (rml (fun i => (mel la ao al) i i) n).getD k 0 = (mel la ao al) k k := fun k hk => rml_get hk
  refine .mk (fun args w => Tryz.call42 args w) (Spec.intro' (fn := Tryz.f42) Tryz.func42 rfl (by kernel_rfl) (by simp) false [] (draw := drawX Tryz.prog ⟨false, _, []⟩) dOk ?_)
  simp only [argE, Nat.reduceAdd]
  repeat' (first
    | (refine gateE ?_; (first | refine b_c0 ?_ | refine b_nil ?_ | refine m13 ?_ | refine m12 ?_ | refine m11 ?_ | (refine m10 ?_; (first | refine g_TT ?_ | refine g_FF ?_ | refine g_TF ?_ | refine g_FT ?_ | refine g_PT ?_ ?_ | refine g_PF ?_ ?_ | refine g_BT ?_ ?_ | refine g_BF ?_ ?_ | fail)) | (refine m09 ?_; (first | refine g_TT ?_ | refine g_FF ?_ | refine g_TF ?_ | refine g_FT ?_ | refine g_PT ?_ ?_ | refine g_PF ?_ ?_ | refine g_BT ?_ ?_ | refine g_BF ?_ ?_ | fail)) | refine m38 ?_ | fail))
    | (refine gateO ?_; (first | refine m41 ?_ | refine b_moveI ?_ | refine m14 ?_ | (refine m17 ?_; first | refine m19 ?_ | refine m18 ?_) | (refine m07 ?_; (first | refine m15 ?_ | refine m16 ?_ | refine l_FL (FLz _ _ _ (by simp)) (by simp; omega) ?_ | fail)) | refine b_lenA (by (conv => {lhs; whnf}); done) (by exact rfl) ?_ | refine b_iaN (by (conv => {lhs; whnf}); done) (by (conv => {lhs; whnf}); done) (by exact rfl) (by omega) ?_ | (refine m45 ?_; (first | refine v_to ((k + 1 : Nat) : Int) (by omega) (by omega) ?_ | refine v_bbT (by exact rfl) ?_ | refine v_k ?_ | fail)) | (refine m00 ?_; (first | refine v_to ((k + 1 : Nat) : Int) (by omega) (by omega) ?_ | refine m52 ?_ | refine m53 ?_ | refine v_eP ?_ | refine m47 ?_ | refine m48 ?_ | refine m49 ?_ | refine m50 ?_ | refine v_nT ?_ | refine v_nF ?_ | refine v_nP ?_ | refine v_k ?_ | refine m51 ?_ | fail)) | (refine m22 ?_; (first | refine m26 ?_ | refine m27 ?_ | fail)) | refine m42 ?_ | refine b_assignI ?_ | refine b_assignN ?_ | refine m08 ?_ | (refine m20 ?_; (first | refine v_to ((k + 1 : Nat) : Int) (by omega) (by omega) ?_ | refine m52 ?_ | refine m53 ?_ | refine v_eP ?_ | refine m47 ?_ | refine m48 ?_ | refine m49 ?_ | refine m50 ?_ | refine v_nT ?_ | refine v_nF ?_ | refine v_nP ?_ | refine v_k ?_ | refine m51 ?_ | fail)) | refine b_callB ?_ | refine b_lenA (by (conv => {lhs; whnf}); done) (by first | rfl | assumption) ?_ | refine m23 ?_ | refine m01 ?_ | fail))
    | (refine gateT ?_; (first | refine b_thn ?_ | refine b_thr ?_ | refine b_the ?_ | fail))
    | (refine gateX ?_; (first | refine b_seq ?_ | refine b_region ?_ | (refine m06 ?_; (first | refine c_T ?_ | refine c_F ?_ | refine c_P ?_ ?_ | refine c_B ?_ ?_ | fail)) | refine b_ret ?_ | refine b_skip ?_ | refine b_block ?_ | refine b_exit ?_ | (refine b_loop [25, 26, 27] z (fun k => ⟨[(25, .val (.sl none n (fl (rml (fun i => (mel la ao al) i i) n)))), (26, .val (.int .i64 ((n : Nat) : Int))), (27, .val (.int .i64 ((k : Nat) : Int)))], [], H ++ []⟩) (by exact rfl) ?_ ?_ <;> (first | intro k hk K hK | intro K) <;> (try dsimp only at *)) | fail))
    | refine m21 ?_
    | refine a_nil ?_
    | (refine gateK ?_; (first | refine c_call (lright_t _ (aD q la) la (aD_FL _ q la) ao n al hJ (aI q' p) p (aI_IL _ q' p) (by omega) hGa hpl hpv) (OldOk.app (by simp)) ?_ | refine c_call (diag_g _ n hn (aD q la) la (aD_FL _ q la) ao al hJ hGa (aI q' p) p (aI_IL _ q' p) (by omega) hpl hpv) (OldOk.app (by simp)) ?_ | fail))
    | (refine gateB ?_; (first | refine b_bln ?_ | refine b_blr ?_ | refine b_ble ?_ | refine m57 ?_ | fail))
    | (refine gateL ?_; (first | refine lp_n ?_ | refine lp_r ?_ | refine lp_e ?_ | fail))
    | (refine pr_k (by exact rfl) ?_; first | exact hK | (exfalso; have h8 := hd k (by omega); have h9 := hz k (by omega); simp only [h8, cn_0] at *; simp_all; done) | (exfalso; first | omega | (simp_all; done) | (simp_all; omega)))
    | (refine gateQ ?_; refine m05 ?_)
    | (refine gateR ?_; (first | refine m04 ?_ | refine m02 ?_ | refine m03 ?_ | refine rk_nil ?_ | fail))
    | intro _)
  all_goals first
    | (exfalso; contradiction)
    | (exfalso; omega)
    | (exfalso; have h8 := hd z hzn; simp only [h8, cn_0] at *; simp_all; done)
    | (exfalso; simp_all; done)
    | (refine rv_old rfl (by simp [mx, mxL, resOne, aOf, aOf1]) ?_; exact rfl)


theorem ody (G : List (List AV)) (y z : List Nat) : OldOk (G ++ [fl y]).length (G ++ [fl y] ++ []) (G ++ [fl z] ++ []) := by
  intro id cs hid h
  rw [List.append_nil] at h ⊢
  rcases Nat.lt_or_ge id G.length with h1 | h1
  · left; rw [List.getElem?_append_left h1] at h ⊢; exact h
  · right
    have : id = G.length := by simp at hid; omega
    subst this
    rw [List.getElem?_append_right (Nat.le_refl _)] at h
    simp at h; subst h; rw [mxL_fl]; exact Nat.zero_le _
theorem iv1_s (G : List (List AV)) (q : Nat × Nat) (la : List Nat) (ao al : Int) (n : Nat) (hJ : MI la.length ao n n al) (hGa : GoodP la.length ao n n al) (q' : Nat × Nat) (p : List Int) (hpl : p.length = n) (hpv : pivP p) (hn1 : 1 ≤ n) (hn : n ≤ 64) (hz : ∀ k, k < n → feq ((mel la ao al) k k) 0 = false) (y : List Nat) (hy : y.length = n) (m : Nat) (hm : G.length = m) : CSpec Tryz.prog 46 [(.agg [aD q la, .int .i64 ao, .int .i64 (n : Int), .int .i64 (n : Int), .int .i64 al, aI q' p]), vt (.slm m n 0 n 1) 0 (n : Int) 1] (G ++ [fl y] ++ []) (.int .i64 0) (G ++ [fl (slvL (mel la ao al) p n y)] ++ []) := by
  subst hm
  have h := slv_w G n hn (fun i => y.getD i 0) q la ao al hJ hGa (aI q' p) p (fun H => aI_IL H q' p) hpl hpv hz
  rw [rml_slf' hy, Nat.add_zero] at h
  exact h.nil
set_option maxHeartbeats 4000000 in
theorem iv1_c (G : List (List AV)) (q : Nat × Nat) (la : List Nat) (ao al : Int) (n : Nat) (hJ : MI la.length ao n n al) (hGa : GoodP la.length ao n n al) (q' : Nat × Nat) (p : List Int) (hpl : p.length = n) (hpv : pivP p) (hn1 : 1 ≤ n) (hn : n ≤ 64) (hz : ∀ k, k < n → feq ((mel la ao al) k k) 0 = false) (bk : Nat) (hbk : G[bk]? = some [aD q la, .int .i64 ao, .int .i64 (n : Int), .int .i64 (n : Int), .int .i64 al, aI q' p]) (y : List Nat) (hy : y.length = n) (m : Nat) (hm : G.length = m) :
    CSpec Tryz.prog 45 [vt (.slm m n 0 n 1) 0 (n : Int) 1, .eptr (.slm bk 6 0 1 6) 0] (G ++ [fl y]) (.int .i64 0) (G ++ [fl (slvL (mel la ao al) p n y)]) := by
  refine .mk (fun args w => Tryz.call45 args w) (Spec.intro' (fn := Tryz.f45) Tryz.func45 rfl (by kernel_rfl) (by simp) false [] (draw := drawX Tryz.prog ⟨false, _, []⟩) dOk ?_)
  simp only [argE, Nat.reduceAdd]
  repeat' (first
    | (refine gateE ?_; (first | refine b_c0 ?_ | refine b_nil ?_ | fail))
    | (refine gateO ?_; (first | (refine m07 ?_; (first | refine m15 ?_ | refine m16 ?_ | refine l_oA (hg_old hbk) (by exact rfl) (by exact rfl) ?_ | fail)) | refine m42 ?_ | refine b_assignI ?_ | refine b_assignN ?_ | refine m08 ?_ | refine b_callB ?_ | refine m01 ?_ | fail))
    | (refine gateT ?_; (first | refine b_thn ?_ | refine b_thr ?_ | refine b_the ?_ | fail))
    | (refine gateX ?_; (first | refine b_seq ?_ | refine b_region ?_ | (refine m06 ?_; (first | refine c_T ?_ | refine c_F ?_ | refine c_P ?_ ?_ | refine c_B ?_ ?_ | fail)) | refine b_ret ?_ | refine b_skip ?_ | refine b_block ?_ | refine b_exit ?_ | fail))
    | refine m21 ?_
    | refine a_nil ?_
    | (refine gateK ?_; (first | refine c_call (iv1_s G q la ao al n hJ hGa q' p hpl hpv hn1 hn hz y hy m hm) (ody G _ _) ?_ | fail))
    | (refine gateQ ?_; refine m05 ?_)
    | (refine gateR ?_; (first | refine m04 ?_ | refine m02 ?_ | refine m03 ?_ | refine rk_nil ?_ | fail))
    | intro _)
  all_goals first
    | (refine rv_old (by simp) (by simp [mx, mxL, resOne]) ?_; exact rfl)


theorem iv2_s (G : List (List AV)) (q : Nat × Nat) (la : List Nat) (ao al : Int) (n : Nat) (hJ : MI la.length ao n n al) (hGa : GoodP la.length ao n n al) (q' : Nat × Nat) (p : List Int) (hpl : p.length = n) (hpv : pivP p) (hn1 : 1 ≤ n) (hn : n ≤ 64) (hz : ∀ k, k < n → feq ((mel la ao al) k k) 0 = false) (y : List Nat) (hy : y.length = n) (m : Nat) (hm : G.length = m) : CSpec Tryz.prog 48 [(.agg [aD q la, .int .i64 ao, .int .i64 (n : Int), .int .i64 (n : Int), .int .i64 al, aI q' p]), vt (.slm m n 0 n 1) 0 (n : Int) 1] (G ++ [fl y] ++ []) (.int .i64 0) (G ++ [fl (sltL (mel la ao al) p n y)] ++ []) := by
  subst hm
  have h := slt_w G n hn (fun i => y.getD i 0) q la ao al hJ hGa (aI q' p) p (fun H => aI_IL H q' p) hpl hpv hz
  rw [rml_slf' hy, Nat.add_zero] at h
  exact h.nil
set_option maxHeartbeats 4000000 in
theorem iv2_c (G : List (List AV)) (q : Nat × Nat) (la : List Nat) (ao al : Int) (n : Nat) (hJ : MI la.length ao n n al) (hGa : GoodP la.length ao n n al) (q' : Nat × Nat) (p : List Int) (hpl : p.length = n) (hpv : pivP p) (hn1 : 1 ≤ n) (hn : n ≤ 64) (hz : ∀ k, k < n → feq ((mel la ao al) k k) 0 = false) (bk : Nat) (hbk : G[bk]? = some [aD q la, .int .i64 ao, .int .i64 (n : Int), .int .i64 (n : Int), .int .i64 al, aI q' p]) (y : List Nat) (hy : y.length = n) (m : Nat) (hm : G.length = m) :
    CSpec Tryz.prog 47 [vt (.slm m n 0 n 1) 0 (n : Int) 1, .eptr (.slm bk 6 0 1 6) 0] (G ++ [fl y]) (.int .i64 0) (G ++ [fl (sltL (mel la ao al) p n y)]) := by
  refine .mk (fun args w => Tryz.call47 args w) (Spec.intro' (fn := Tryz.f47) Tryz.func47 rfl (by kernel_rfl) (by simp) false [] (draw := drawX Tryz.prog ⟨false, _, []⟩) dOk ?_)
  simp only [argE, Nat.reduceAdd]
  repeat' (first
    | (refine gateE ?_; (first | refine b_c0 ?_ | refine b_nil ?_ | fail))
    | (refine gateO ?_; (first | (refine m07 ?_; (first | refine m15 ?_ | refine m16 ?_ | refine l_oA (hg_old hbk) (by exact rfl) (by exact rfl) ?_ | fail)) | refine m42 ?_ | refine b_assignI ?_ | refine b_assignN ?_ | refine m08 ?_ | refine b_callB ?_ | refine m01 ?_ | fail))
    | (refine gateT ?_; (first | refine b_thn ?_ | refine b_thr ?_ | refine b_the ?_ | fail))
    | (refine gateX ?_; (first | refine b_seq ?_ | refine b_region ?_ | (refine m06 ?_; (first | refine c_T ?_ | refine c_F ?_ | refine c_P ?_ ?_ | refine c_B ?_ ?_ | fail)) | refine b_ret ?_ | refine b_skip ?_ | refine b_block ?_ | refine b_exit ?_ | fail))
    | refine m21 ?_
    | refine a_nil ?_
    | (refine gateK ?_; (first | refine c_call (iv2_s G q la ao al n hJ hGa q' p hpl hpv hn1 hn hz y hy m hm) (ody G _ _) ?_ | fail))
    | (refine gateQ ?_; refine m05 ?_)
    | (refine gateR ?_; (first | refine m04 ?_ | refine m02 ?_ | refine m03 ?_ | refine rk_nil ?_ | fail))
    | intro _)
  all_goals first
    | (refine rv_old (by simp) (by simp [mx, mxL, resOne]) ?_; exact rfl)


theorem run_cell (q : Nat × Nat) (la : List Nat) (ao al : Int) (n : Nat) (hJ : MI la.length ao n n al) (hGa : GoodP la.length ao n n al) (q' : Nat × Nat) (p : List Int) (hpl : p.length = n) (hpv : pivP p) (hn1 : 1 ≤ n) (hn : n ≤ 64)  (N : Nat) (hR : REnd (slvL (mel la ao al) p n) (sltL (mel la ao al) p n) (M0 n) N) : mCe (runM (slvL (mel la ao al) p n) (sltL (mel la ao al) p n) (M0 n) N).1 = (mDc ((runM (slvL (mel la ao al) p n) (sltL (mel la ao al) p n) (M0 n) N).1.n : Int) ((runM (slvL (mel la ao al) p n) (sltL (mel la ao al) p n) (M0 n) N).1.st : Int) (runM (slvL (mel la ao al) p n) (sltL (mel la ao al) p n) (M0 n) N).1.est (.sl none n (fl (runM (slvL (mel la ao al) p n) (sltL (mel la ao al) p n) (M0 n) N).1.v)) (LV (runM (slvL (mel la ao al) p n) (sltL (mel la ao al) p n) (M0 n) N).1.s) ((runM (slvL (mel la ao al) p n) (sltL (mel la ao al) p n) (M0 n) N).1.j : Int) ((runM (slvL (mel la ao al) p n) (sltL (mel la ao al) p n) (M0 n) N).1.ct : Int)) := by
  have hv := hR.v (fun y _ => by simp) (fun y _ => by simp)
  rw [mCe_D, LV_ne (by omega), hv]
theorem inv_ask (H : List (List AV)) (q : Nat × Nat) (la : List Nat) (ao al : Int) (n : Nat) (hJ : MI la.length ao n n al) (hGa : GoodP la.length ao n n al) (q' : Nat × Nat) (p : List Int) (hpl : p.length = n) (hpv : pivP p) (hn1 : 1 ≤ n) (hn : n ≤ 64) (hz : ∀ k, k < n → feq ((mel la ao al) k k) 0 = false) (N : Nat) (hR : REnd (slvL (mel la ao al) p n) (sltL (mel la ao al) p n) (M0 n) N) : CSpec Tryz.prog 44 [mP (H.length + 1), .func 45 [] [.eptr (.slm (H.length + 0) 6 0 1 6) 0], .func 47 [] [.eptr (.slm (H.length + 0) 6 0 1 6) 0]] (H ++ [[aD q la, .int .i64 ao, .int .i64 (n : Int), .int .i64 (n : Int), .int .i64 al, aI q' p], (mDc (n : Int) 0 0 .slnil .slnil 0 0)]) (.tup []) (H ++ [[aD q la, .int .i64 ao, .int .i64 (n : Int), .int .i64 (n : Int), .int .i64 al, aI q' p], (mDc ((runM (slvL (mel la ao al) p n) (sltL (mel la ao al) p n) (M0 n) N).1.n : Int) ((runM (slvL (mel la ao al) p n) (sltL (mel la ao al) p n) (M0 n) N).1.st : Int) (runM (slvL (mel la ao al) p n) (sltL (mel la ao al) p n) (M0 n) N).1.est (.sl none n (fl (runM (slvL (mel la ao al) p n) (sltL (mel la ao al) p n) (M0 n) N).1.v)) (LV (runM (slvL (mel la ao al) p n) (sltL (mel la ao al) p n) (M0 n) N).1.s) ((runM (slvL (mel la ao al) p n) (sltL (mel la ao al) p n) (M0 n) N).1.j : Int) ((runM (slvL (mel la ao al) p n) (sltL (mel la ao al) p n) (M0 n) N).1.ct : Int))]) := by
  have h := ask_g hn1 hn (fun y _ => by simp) (fun y _ => by simp) hR (H ++ [[aD q la, .int .i64 ao, .int .i64 (n : Int), .int .i64 (n : Int), .int .i64 al, aI q' p]]) 45 47 [.eptr (.slm (H.length + 0) 6 0 1 6) 0] [.eptr (.slm (H.length + 0) 6 0 1 6) 0] (fun c B y hy => ?_) (fun c B y hy => ?_)
  · rw [run_cell q la ao al n hJ hGa q' p hpl hpv hn1 hn N hR] at h
    have e : mCe (M0 n) = (mDc (n : Int) 0 0 .slnil .slnil 0 0) := rfl
    rw [e] at h
    simpa [List.append_assoc] using h
  · have h := iv1_c (H ++ [[aD q la, .int .i64 ao, .int .i64 (n : Int), .int .i64 (n : Int), .int .i64 al, aI q' p]] ++ [c] ++ B) q la ao al n hJ hGa q' p hpl hpv hn1 hn hz (H.length + 0) (by simp) y hy ((H ++ [[aD q la, .int .i64 ao, .int .i64 (n : Int), .int .i64 (n : Int), .int .i64 al, aI q' p]]).length + 1 + B.length) (by simp; omega)
    rw [List.append_assoc _ B, List.append_assoc _ B] at h; exact h
  · have h := iv2_c (H ++ [[aD q la, .int .i64 ao, .int .i64 (n : Int), .int .i64 (n : Int), .int .i64 al, aI q' p]] ++ [c] ++ B) q la ao al n hJ hGa q' p hpl hpv hn1 hn hz (H.length + 0) (by simp) y hy ((H ++ [[aD q la, .int .i64 ao, .int .i64 (n : Int), .int .i64 (n : Int), .int .i64 al, aI q' p]]).length + 1 + B.length) (by simp; omega)
    rw [List.append_assoc _ B, List.append_assoc _ B] at h; exact h
set_option maxHeartbeats 4000000 in
theorem inv_e (H : List (List AV)) (c0 c1 c2 c3 c4 c5 : AV) (e : Int) (he : e ≠ 0) (hck : ∀ N, CSpec Tryz.prog 42 [.agg [c0, c1, c2, c3, c4, c5]] (H ++ N) (.int .i64 e) (H ++ N)) :
    CSpec Tryz.prog 8 [.agg [c0, c1, c2, c3, c4, c5]] H (.tup [.flt 0, .slnil, .int .i64 e]) H := by
  refine .mk (fun args w => Tryz.call8 args w) (Spec.intro' (fn := Tryz.f8) Tryz.func8 rfl (by kernel_rfl) (by simp) true [] (draw := drawX Tryz.prog ⟨true, _, []⟩) dOk ?_)
  simp only [argE, Nat.reduceAdd]
  repeat' (first
    | (refine gateE ?_; (first | refine b_c0 ?_ | refine b_nil ?_ | fail))
    | (refine gateO ?_; (first | refine m14 ?_ | (refine m17 ?_; first | refine m19 ?_ | refine m18 ?_) | (refine m07 ?_; (first | refine m15 ?_ | refine m16 ?_ | refine l_nA (by exact rfl) (by exact rfl) (by exact rfl) (by exact rfl) ?_ | refine l_n1 (by exact rfl) (by exact rfl) (by exact rfl) (by exact rfl) ?_ | fail)) | refine b_boxE (by (conv => {lhs; whnf}); done) (by exact rfl) (by exact rfl) (by exact rfl) (by (conv => {lhs; whnf}); done) (by (conv => {lhs; simp only [List.nil_append, List.cons_append]}); done) ?_ | refine b_mkF ?_ | (refine m00 ?_; (first | refine m54 ?_ | refine m55 ?_ | refine v_neP ?_ | refine m49 ?_ | refine m50 ?_ | refine v_k ?_ | refine m51 ?_ | fail)) | refine m42 ?_ | refine b_assignI ?_ | refine b_assignN ?_ | refine m08 ?_ | refine b_callB ?_ | refine m23 ?_ | refine m01 ?_ | fail))
    | (refine gateT ?_; (first | refine b_thn ?_ | refine b_thr ?_ | refine b_the ?_ | fail))
    | (refine gateX ?_; (first | refine b_seq ?_ | refine b_region ?_ | (refine m06 ?_; (first | refine c_T ?_ | refine c_F ?_ | refine c_P ?_ ?_ | refine c_B ?_ ?_ | fail)) | refine b_ret ?_ | refine b_skip ?_ | refine b_block ?_ | refine b_exit ?_ | fail))
    | refine m21 ?_
    | refine a_nil ?_
    | (refine gateK ?_; (first | refine c_call (hck _) (OldOk.app (by simp)) ?_ | fail))
    | refine m44 ?_
    | refine m40 ?_
    | (refine gk_nilN (by (conv => {lhs; simp only [List.nil_append, List.cons_append]}); done) ?_; first | refine ⟨by exact rfl, ?_⟩ | skip)
    | refine gk_nil ?_
    | (intro N' hN'; simp only [List.nil_append, List.cons_append] at hN'; subst hN')
    | (refine gateQ ?_; refine m05 ?_)
    | (refine gateR ?_; (first | refine m04 ?_ | refine m02 ?_ | refine m03 ?_ | refine rk_nil ?_ | fail))
    | intro _)
  all_goals first
    | (exfalso; contradiction)
    | (exfalso; omega)
    | (exfalso; simp_all; done)
    | (refine rv_old rfl (by simp [mx, mxL, resOne, aOf, aOf1]) ?_; exact rfl)

set_option maxHeartbeats 4000000 in
theorem inv_0 (H : List (List AV)) (q : Nat × Nat) (la : List Nat) (ao al : Int) (n : Nat) (hJ : MI la.length ao n n al) (hGa : GoodP la.length ao n n al) (q' : Nat × Nat) (p : List Int) (hpl : p.length = n) (hpv : pivP p) (hn1 : 1 ≤ n) (hn : n ≤ 64) (hz : ∀ k, k < n → feq ((mel la ao al) k k) 0 = false) (N : Nat) (hR : REnd (slvL (mel la ao al) p n) (sltL (mel la ao al) p n) (M0 n) N) :
    CSpec Tryz.prog 8 [(.agg [aD q la, .int .i64 ao, .int .i64 (n : Int), .int .i64 (n : Int), .int .i64 al, aI q' p])] H (.tup [.flt (runM (slvL (mel la ao al) p n) (sltL (mel la ao al) p n) (M0 n) N).1.est, .sl none n (fl (runM (slvL (mel la ao al) p n) (sltL (mel la ao al) p n) (M0 n) N).1.v), .int .i64 0]) H := by
  obtain ⟨hm', ho1', ho2', hr1', hr2', hc1', hc2', hl1', hl2'⟩ := id hJ
  refine .mk (fun args w => Tryz.call8 args w) (Spec.intro' (fn := Tryz.f8) Tryz.func8 rfl (by kernel_rfl) (by simp) true [] (draw := drawX Tryz.prog ⟨true, _, []⟩) dOk ?_)
  simp only [argE, Nat.reduceAdd]
  repeat' (first
    | (refine gateE ?_; (first | refine b_c0 ?_ | refine b_nil ?_ | fail))
    | (refine gateO ?_; (first | refine m14 ?_ | (refine m17 ?_; first | refine m19 ?_ | refine m18 ?_) | (refine m07 ?_; (first | refine m15 ?_ | refine m16 ?_ | refine l_nA (by exact rfl) (by exact rfl) (by exact rfl) (by exact rfl) ?_ | refine l_n1 (by exact rfl) (by exact rfl) (by exact rfl) (by exact rfl) ?_ | fail)) | refine b_boxE (by (conv => {lhs; whnf}); done) (by exact rfl) (by exact rfl) (by exact rfl) (by (conv => {lhs; whnf}); done) (by (conv => {lhs; simp only [List.nil_append, List.cons_append]}); done) ?_ | refine b_mkF ?_ | (refine m00 ?_; (first | refine m54 ?_ | refine m55 ?_ | refine v_neP ?_ | refine m49 ?_ | refine m50 ?_ | refine v_k ?_ | refine m51 ?_ | fail)) | refine m42 ?_ | refine b_assignI ?_ | refine b_assignN ?_ | refine m08 ?_ | refine b_callB ?_ | refine m23 ?_ | refine m01 ?_ | fail))
    | (refine gateT ?_; (first | refine b_thn ?_ | refine b_thr ?_ | refine b_the ?_ | fail))
    | (refine gateX ?_; (first | refine b_seq ?_ | refine b_region ?_ | (refine m06 ?_; (first | refine c_T ?_ | refine c_F ?_ | refine c_P ?_ ?_ | refine c_B ?_ ?_ | fail)) | refine b_ret ?_ | refine b_skip ?_ | refine b_block ?_ | refine b_exit ?_ | fail))
    | refine m21 ?_
    | refine a_nil ?_
    | (refine gateK ?_; (first | refine c_call (rck_0 _ q la ao al n hJ hGa q' p hpl hpv hn1 hn hz) (OldOk.app (by simp)) ?_ | refine c_call (new_m _ n hn1 hn _ (by (conv => {lhs; simp only [List.append_assoc, List.cons_append, List.nil_append]}); done) _ (by (conv => {lhs; simp only [List.length_append, List.length_cons, List.length_nil, List.length_set, Nat.reduceAdd, Nat.zero_add]}); done)) (OldOk.app (by simp)) ?_ | refine c_call (inv_ask H q la ao al n hJ hGa q' p hpl hpv hn1 hn hz N hR) (OldOk.app (by simp)) ?_ | refine c_call (est_m _ (H.length + 1) _ _ _ _ _ _ _ (hg_new (j := 1) (by exact rfl) rfl)) (OldOk.app (by simp)) ?_ | refine c_call (vec_m _ (H.length + 1) n _ (hR.v (fun y _ => by simp) (fun y _ => by simp)) hn1 hn _ _ _ _ _ _ (hg_new (j := 1) (by exact rfl) rfl)) (OldOk.app (by simp)) ?_ | fail))
    | refine m44 ?_
    | refine m40 ?_
    | (refine gk_nilN (by (conv => {lhs; simp only [List.nil_append, List.cons_append]}); done) ?_; first | refine ⟨by exact rfl, ?_⟩ | skip)
    | refine gk_nil ?_
    | (intro N' hN'; simp only [List.nil_append, List.cons_append] at hN'; subst hN')
    | (refine gateQ ?_; refine m05 ?_)
    | (refine gateR ?_; (first | refine m04 ?_ | refine m02 ?_ | refine m03 ?_ | refine rk_nil ?_ | fail))
    | intro _)
  all_goals first
    | (exfalso; contradiction)
    | (exfalso; omega)
    | (refine rv_old rfl (by simp [mx, mxL, mxL_fl, resOne]) ?_; exact rfl)


end Go.Sx

set_option linter.unusedVariables false
set_option linter.unusedSimpArgs false
set_option maxRecDepth 20000
namespace Go.Sx
open Go.Proofs

def rcF (est size : Nat) : Nat := if feq size (cn 0) = true then 0 else if feq est (cn 0) = true then 0 else fdiv (fdiv 4607182418800017408 est) size
theorem set_two (H : List (List AV)) (b c c' : List AV) : (H ++ [b, c]).set (H.length + 1) c' = H ++ [b, c'] := by
  rw [List.set_append_right _ _ (by omega)]; simp
theorem one_n (H : List (List AV)) (D : AV) (l : List Nat) (hF : FL H D l) (off ld : Int) (n : Nat) (hI : MI l.length off n n ld) (hG : GoodP l.length off n n ld) (hn : n ≤ 64) : CSpec Tryz.prog 53 [mt D off (n : Int) (n : Int) ld] H (.tup [.flt (oneF (mel l off ld) n n), .int .i64 0]) H := by
  have h := one_g H D l hF off n n ld hI hG (by omega)
  simpa only [Int.toNat_natCast] using h
theorem goodref_t (H : List (List AV)) (D : AV) (n : Nat) (off rows cols ld : Int) (hD : slen D = some n) (hI : MI n off rows cols ld) (hG : GoodP n off rows cols ld) : CSpec Tryz.prog 10 [mt D off rows cols ld] H (.bool true) H := by
  have h := goodref_c H D n off rows cols ld hD hI
  rwa [decide_eq_true hG] at h
theorem goodref_f (H : List (List AV)) (D : AV) (n : Nat) (off rows cols ld : Int) (hD : slen D = some n) (hI : MI n off rows cols ld) (hG : ¬ GoodP n off rows cols ld) : CSpec Tryz.prog 10 [mt D off rows cols ld] H (.bool false) H := by
  have h := goodref_c H D n off rows cols ld hD hI
  rwa [decide_eq_false hG] at h
attribute [local irreducible] Ex exOps exD opX opE thenX blkX RetQ Spec CSpec Fr condK guardK guardD ckK valK pickK loadK faK callK argK gK fK rK RetV lpX prK
set_option maxHeartbeats 4000000 in
theorem rinv_r (H : List (List AV)) (A : AV) (n : Nat) (Pv : AV) (hPm : mx Pv ≤ H.length) (hAm : mx A = 0) (yV : Nat → AV) (kd : Nat → Int) (Mc : Nat → List AV) (hMc : ∀ k, mxL (Mc k) = 0) (X1 X2 : Nat → AV) (N : Nat) (h0 : CSpec Tryz.prog 57 [mP (H.length + 1), .slnil] (H ++ [[.int .i64 (n : Int), .int .i64 (n : Int), A], (mDc (n : Int) 0 0 .slnil .slnil 0 0)]) (.tup [yV 0, .int .i64 (kd 0)]) (H ++ [[.int .i64 (n : Int), .int .i64 (n : Int), A], Mc 0])) (hpos : ∀ k, k < N → 0 < kd k) (hz : kd N = 0) (hs1 : ∀ k, k < N → CSpec Tryz.prog 58 [mM A n n, Pv, yV k] (H ++ [[.int .i64 (n : Int), .int .i64 (n : Int), A], Mc k]) (.tup [X1 k, .bool true]) (H ++ [[.int .i64 (n : Int), .int .i64 (n : Int), A], Mc k])) (hs2 : ∀ k, k < N → kd k = 2 → CSpec Tryz.prog 59 [mM A n n, Pv, yV k] (H ++ [[.int .i64 (n : Int), .int .i64 (n : Int), A], Mc k]) (.tup [X2 k, .bool true]) (H ++ [[.int .i64 (n : Int), .int .i64 (n : Int), A], Mc k])) (hn1 : ∀ k, k < N → kd k ≠ 2 → CSpec Tryz.prog 57 [mP (H.length + 1), X1 k] (H ++ [[.int .i64 (n : Int), .int .i64 (n : Int), A], Mc k]) (.tup [yV (k + 1), .int .i64 (kd (k + 1))]) (H ++ [[.int .i64 (n : Int), .int .i64 (n : Int), A], Mc (k + 1)])) (hn2 : ∀ k, k < N → kd k = 2 → CSpec Tryz.prog 57 [mP (H.length + 1), X2 k] (H ++ [[.int .i64 (n : Int), .int .i64 (n : Int), A], Mc k]) (.tup [yV (k + 1), .int .i64 (kd (k + 1))]) (H ++ [[.int .i64 (n : Int), .int .i64 (n : Int), A], Mc (k + 1)])) (n9 st : Int) (est : Nat) (V S9 : AV) (j9 ct9 : Int) (hV : mx V = 0) (hfin : Mc N = mDc n9 st est V S9 j9 ct9) :
    CSpec Tryz.prog 14 [mM A n n, Pv] H (.tup [.flt est, V]) H := by
  refine .mk (fun args w => Tryz.call14 args w) (Spec.intro' (fn := Tryz.f14) Tryz.func14 rfl (by kernel_rfl) (by simp) true [] (draw := drawX Tryz.prog ⟨true, _, []⟩) dOk ?_)
  simp only [argE, Nat.reduceAdd]
  repeat' (first
    | (refine gateE ?_; (first | refine b_c0 ?_ | refine b_nil ?_ | fail))
    | (refine gateO ?_; (first | refine m14 ?_ | (refine m17 ?_; first | refine m19 ?_ | refine m18 ?_) | (refine m07 ?_; (first | refine m15 ?_ | refine m16 ?_ | refine l_nA (by exact rfl) (by exact rfl) (by exact rfl) (by exact rfl) ?_ | refine l_n1 (by exact rfl) (by exact rfl) (by exact rfl) (by exact rfl) ?_ | refine l_n1 (j := 1) (cs := mDc n9 st est V S9 j9 ct9) (by exact rfl) (by rw [← hfin]; rfl) (by exact rfl) (by exact rfl) ?_ | fail)) | refine b_nilC (by (conv => {lhs; whnf}); done) ?_ | refine b_boxE (by (conv => {lhs; whnf}); done) (by exact rfl) (by exact rfl) (by exact rfl) (by (conv => {lhs; whnf}); done) (by (conv => {lhs; simp only [List.nil_append, List.cons_append]}); done) ?_ | refine b_mkF ?_ | (refine m45 ?_; (first | refine v_T (by have := hpos k hk; omega) ?_ | refine v_bbT (by exact rfl) ?_ | refine v_k ?_ | fail)) | (refine m00 ?_; (first | refine v_T (by have := hpos k hk; omega) ?_ | refine m52 ?_ | refine m53 ?_ | refine v_eP ?_ | refine m47 ?_ | refine m48 ?_ | refine m49 ?_ | refine m50 ?_ | refine v_k ?_ | refine m51 ?_ | fail)) | refine m42 ?_ | refine b_assignI ?_ | refine b_assignN ?_ | refine m08 ?_ | refine b_callB ?_ | refine m23 ?_ | refine m01 ?_ | refine b_build ?_ | fail))
    | (refine gateD ?_; (first | refine m36 ?_ | refine d_nil ?_ | fail))
    | (refine gateC ?_; (first | refine k_lt ?_ | refine k_fz ?_ | refine k_lb (by (conv => {lhs; whnf}); done) ?_ | refine k_ms ?_ | refine k_bx (by exact rfl) (by exact rfl) ?_ | refine m34 ?_ | refine m35 ?_ | refine m33 ?_ | refine k_mn ?_ | refine m56 ?_ | refine k_mnF ?_ | refine k_mnL (by exact rfl) ?_ | fail))
    | (refine gateT ?_; (first | refine b_thn ?_ | refine b_thr ?_ | refine b_the ?_ | fail))
    | (refine gateX ?_; (first | refine b_seq ?_ | refine b_region ?_ | (refine m06 ?_; (first | refine c_T ?_ | refine c_F ?_ | refine c_P ?_ ?_ | refine c_B ?_ ?_ | fail)) | refine b_ret ?_ | refine b_skip ?_ | refine b_block ?_ | refine b_exit ?_ | refine b_draw (id := 8) [] [] [(0, .lt), (1, .lt), (2, .lt), (3, .ld true), (4, .lt), (5, .lt), (6, .lt), (7, .ld true), (8, .lt), (9, .lt)] (by kernel_rfl) ?_ | (refine b_loop [1, 2, 6, 7, 8] N (fun k => ⟨[(1, .val Pv), (2, .val (.eptr (.slm (H.length + 0) 3 0 1 3) 0)), (6, .val (mP (H.length + 1))), (7, .val (yV k)), (8, .val (.int .i64 (kd k)))], [], H ++ [[.int .i64 (n : Int), .int .i64 (n : Int), A], Mc k]⟩) (by exact rfl) ?_ ?_ <;> (first | intro k hk K hK | intro K) <;> (try dsimp only at *)) | fail))
    | refine m43 ?_
    | refine a_consI ?_
    | refine m21 ?_
    | refine a_nil ?_
    | (refine gateK ?_; (first | refine c_call h0 (OldOk.app (by simp)) ?_ | refine c_call (hs1 k hk) (OldOk.app (by simp)) ?_ | refine c_call (hs2 k hk (by omega)) (OldOk.app (by simp)) ?_ | refine c_call (hn1 k hk (by omega)) (OldOk.app (by simp)) ?_ | refine c_call (hn2 k hk (by omega)) (OldOk.app (by simp)) ?_ | fail))
    | refine m58 ?_
    | refine fk_nil ?_
    | (refine gateB ?_; (first | refine b_bln ?_ | refine b_blr ?_ | refine b_ble ?_ | refine m57 ?_ | fail))
    | (refine gateL ?_; (first | refine lp_n ?_ | refine lp_r ?_ | refine lp_e ?_ | fail))
    | (refine pr_k (by exact rfl) ?_; first | exact hK | fail | (exfalso; first | omega | (simp_all; done) | (simp_all; omega)))
    | (refine gateQ ?_; refine m05 ?_)
    | (refine gateR ?_; (first | refine m04 ?_ | refine m02 ?_ | refine m03 ?_ | refine rk_nil ?_ | fail))
    | intro _)
  all_goals first
    | (exfalso; have := hpos k hk; omega)
    | (exfalso; omega)
    | (refine rv_old rfl (by simp [mx, mxL, resOne, hV]) ?_; exact rfl)


end Go.Sx

set_option linter.unusedVariables false
set_option linter.unusedSimpArgs false
set_option maxRecDepth 20000
namespace Go.Sx
open Go.Proofs

theorem rinv_0 (H : List (List AV)) (q : Nat × Nat) (la : List Nat) (ao al : Int) (n : Nat) (hJ : MI la.length ao n n al) (hGa : GoodP la.length ao n n al) (q' : Nat × Nat) (p : List Int) (hpl : p.length = n) (hpv : pivP p) (hn1 : 1 ≤ n) (hn : n ≤ 64) (A : AV) (hA : ∀ H, FL H A (rmA (mel la ao al) n n)) (hAm : mx A = 0) (hz : ∀ k, k < n → feq ((mel la ao al) k k) 0 = false) (N : Nat) (hR : REnd (slvL (mel la ao al) p n) (sltL (mel la ao al) p n) (M0 n) N) (hPm : mx (aI q' p) ≤ H.length) : CSpec Tryz.prog 14 [mM A n n, (aI q' p)] H (.tup [.flt (runM (slvL (mel la ao al) p n) (sltL (mel la ao al) p n) (M0 n) N).1.est, .sl none n (fl (runM (slvL (mel la ao al) p n) (sltL (mel la ao al) p n) (M0 n) N).1.v)]) H := by
  have hf1 : ∀ y : List Nat, y.length = n → ((slvL (mel la ao al) p n) y).length = n := fun y _ => by simp
  have hf2 : ∀ y : List Nat, y.length = n → ((sltL (mel la ao al) p n) y).length = n := fun y _ => by simp
  have hne : ∀ k, k < N → (runM (slvL (mel la ao al) p n) (sltL (mel la ao al) p n) (M0 n) k).2.2 ≠ 0 := fun k hk => by
    obtain ⟨b1, _⟩ := hR.st k hk; omega
  have hn0 : ∀ k, k ≤ N → (runM (slvL (mel la ao al) p n) (sltL (mel la ao al) p n) (M0 n) k).1.n = n := fun k hk => by
    rcases Nat.lt_or_ge k N with h | h
    · exact (hR.st k h).2.2.1
    · have : k = N := by omega
      subst this; exact hR.nN
  have hP : ∀ H, IL H (aI q' p) p := fun H => aI_IL H q' p
  refine rinv_r H A n (aI q' p) hPm hAm (fun k => if (runM (slvL (mel la ao al) p n) (sltL (mel la ao al) p n) (M0 n) k).2.2 = 0 then .slnil else .sl none n (fl (runM (slvL (mel la ao al) p n) (sltL (mel la ao al) p n) (M0 n) k).2.1)) (fun k => (runM (slvL (mel la ao al) p n) (sltL (mel la ao al) p n) (M0 n) k).2.2) (fun k => mCe (runM (slvL (mel la ao al) p n) (sltL (mel la ao al) p n) (M0 n) k).1) (fun k => mCe_mx _) (fun k => .sl none n (fl ((slvL (mel la ao al) p n) (runM (slvL (mel la ao al) p n) (sltL (mel la ao al) p n) (M0 n) k).2.1))) (fun k => .sl none n (fl ((sltL (mel la ao al) p n) (runM (slvL (mel la ao al) p n) (sltL (mel la ao al) p n) (M0 n) k).2.1))) N ?_ ?_ hR.z ?_ ?_ ?_ ?_ _ _ _ _ _ _ _ ?_ (run_cell q la ao al n hJ hGa q' p hpl hpv hn1 hn N hR)
  · have h := rnext_0 (H ++ [[.int .i64 (n : Int), .int .i64 (n : Int), A], (mDc (n : Int) 0 0 .slnil .slnil 0 0)]) (H.length + 1) (by simp) (M0 n) hn1 hn rfl _ _ (set_two H _ _ _) rfl
    rw [set_two] at h
    show CSpec Tryz.prog 57 [mP (H.length + 1), .slnil] _ (.tup [if (nxt (M0 n) []).2.2 = 0 then .slnil else .sl none n (fl (nxt (M0 n) []).2.1), .int .i64 (nxt (M0 n) []).2.2]) (H ++ [[.int .i64 (n : Int), .int .i64 (n : Int), A], mCe (nxt (M0 n) []).1])
    have hne0 : (nxt (M0 n) []).2.2 ≠ 0 := hne 0 hR.pos
    rw [if_neg hne0]
    exact h
  · intro k hk
    obtain ⟨b1, _⟩ := hR.st k hk
    show 0 < (runM (slvL (mel la ao al) p n) (sltL (mel la ao al) p n) (M0 n) k).2.2
    omega
  · intro k hk
    obtain ⟨_, b2, _⟩ := hR.st k hk
    show CSpec Tryz.prog 58 [mM A n n, (aI q' p), if (runM (slvL (mel la ao al) p n) (sltL (mel la ao al) p n) (M0 n) k).2.2 = 0 then .slnil else .sl none n (fl (runM (slvL (mel la ao al) p n) (sltL (mel la ao al) p n) (M0 n) k).2.1)] _ _ _
    rw [if_neg (hne k hk)]
    exact rslv_0 _ _ (fun i => (runM (slvL (mel la ao al) p n) (sltL (mel la ao al) p n) (M0 n) k).2.1.getD i 0) n (by rw [rml_slf' (n := n) b2]; exact FLz _ _ _ b2) (by omega) A (mel la ao al) (hA _) (aI q' p) p (hP _) hpl hpv hz
  · intro k hk _
    obtain ⟨_, b2, _⟩ := hR.st k hk
    show CSpec Tryz.prog 59 [mM A n n, (aI q' p), if (runM (slvL (mel la ao al) p n) (sltL (mel la ao al) p n) (M0 n) k).2.2 = 0 then .slnil else .sl none n (fl (runM (slvL (mel la ao al) p n) (sltL (mel la ao al) p n) (M0 n) k).2.1)] _ _ _
    rw [if_neg (hne k hk)]
    exact rslt_0 _ _ (fun i => (runM (slvL (mel la ao al) p n) (sltL (mel la ao al) p n) (M0 n) k).2.1.getD i 0) n (by rw [rml_slf' (n := n) b2]; exact FLz _ _ _ b2) (by omega) A (mel la ao al) (hA _) (aI q' p) p (hP _) hpl hpv hz
  · intro k hk h2
    obtain ⟨b1, b2, b3, b4, b5, b6⟩ := hR.st k hk
    have hp : prM (slvL (mel la ao al) p n) (sltL (mel la ao al) p n) (runM (slvL (mel la ao al) p n) (sltL (mel la ao al) p n) (M0 n) k) = (slvL (mel la ao al) p n) (runM (slvL (mel la ao al) p n) (sltL (mel la ao al) p n) (M0 n) k).2.1 := if_neg h2
    have h := rnext_1 (H ++ [[.int .i64 (n : Int), .int .i64 (n : Int), A], mCe (runM (slvL (mel la ao al) p n) (sltL (mel la ao al) p n) (M0 n) k).1]) (H.length + 1) (by simp) (runM (slvL (mel la ao al) p n) (sltL (mel la ao al) p n) (M0 n) k).1 b4 b6 b5 (by have := b4.sl; have := b4.n64; omega) (.sl none n (fl ((slvL (mel la ao al) p n) (runM (slvL (mel la ao al) p n) (sltL (mel la ao al) p n) (M0 n) k).2.1))) ((slvL (mel la ao al) p n) (runM (slvL (mel la ao al) p n) (sltL (mel la ao al) p n) (M0 n) k).2.1) (fun H' => FLz _ _ _ (by simp)) (by rw [b3]; simp; rfl) _ _ (set_two H _ _ _) rfl
    have er : nxt (runM (slvL (mel la ao al) p n) (sltL (mel la ao al) p n) (M0 n) k).1 ((slvL (mel la ao al) p n) (runM (slvL (mel la ao al) p n) (sltL (mel la ao al) p n) (M0 n) k).2.1) = runM (slvL (mel la ao al) p n) (sltL (mel la ao al) p n) (M0 n) (k + 1) := by rw [← hp]; rfl
    rw [er, set_two, show (runM (slvL (mel la ao al) p n) (sltL (mel la ao al) p n) (M0 n) k).1.n = n from b3] at h
    show CSpec Tryz.prog 57 [mP (H.length + 1), .sl none n (fl ((slvL (mel la ao al) p n) (runM (slvL (mel la ao al) p n) (sltL (mel la ao al) p n) (M0 n) k).2.1))] _ (.tup [if (runM (slvL (mel la ao al) p n) (sltL (mel la ao al) p n) (M0 n) (k + 1)).2.2 = 0 then .slnil else .sl none n (fl (runM (slvL (mel la ao al) p n) (sltL (mel la ao al) p n) (M0 n) (k + 1)).2.1), .int .i64 (runM (slvL (mel la ao al) p n) (sltL (mel la ao al) p n) (M0 n) (k + 1)).2.2]) (H ++ [[.int .i64 (n : Int), .int .i64 (n : Int), A], mCe (runM (slvL (mel la ao al) p n) (sltL (mel la ao al) p n) (M0 n) (k + 1)).1])
    by_cases hk0 : (runM (slvL (mel la ao al) p n) (sltL (mel la ao al) p n) (M0 n) (k + 1)).2.2 = 0
    · rw [if_pos hk0, hk0]; exact h.2 hk0
    · rw [if_neg hk0]; exact h.1 hk0
  · intro k hk h2
    obtain ⟨b1, b2, b3, b4, b5, b6⟩ := hR.st k hk
    have hp : prM (slvL (mel la ao al) p n) (sltL (mel la ao al) p n) (runM (slvL (mel la ao al) p n) (sltL (mel la ao al) p n) (M0 n) k) = (sltL (mel la ao al) p n) (runM (slvL (mel la ao al) p n) (sltL (mel la ao al) p n) (M0 n) k).2.1 := if_pos h2
    have h := rnext_1 (H ++ [[.int .i64 (n : Int), .int .i64 (n : Int), A], mCe (runM (slvL (mel la ao al) p n) (sltL (mel la ao al) p n) (M0 n) k).1]) (H.length + 1) (by simp) (runM (slvL (mel la ao al) p n) (sltL (mel la ao al) p n) (M0 n) k).1 b4 b6 b5 (by have := b4.sl; have := b4.n64; omega) (.sl none n (fl ((sltL (mel la ao al) p n) (runM (slvL (mel la ao al) p n) (sltL (mel la ao al) p n) (M0 n) k).2.1))) ((sltL (mel la ao al) p n) (runM (slvL (mel la ao al) p n) (sltL (mel la ao al) p n) (M0 n) k).2.1) (fun H' => FLz _ _ _ (by simp)) (by rw [b3]; simp; rfl) _ _ (set_two H _ _ _) rfl
    have er : nxt (runM (slvL (mel la ao al) p n) (sltL (mel la ao al) p n) (M0 n) k).1 ((sltL (mel la ao al) p n) (runM (slvL (mel la ao al) p n) (sltL (mel la ao al) p n) (M0 n) k).2.1) = runM (slvL (mel la ao al) p n) (sltL (mel la ao al) p n) (M0 n) (k + 1) := by rw [← hp]; rfl
    rw [er, set_two, show (runM (slvL (mel la ao al) p n) (sltL (mel la ao al) p n) (M0 n) k).1.n = n from b3] at h
    show CSpec Tryz.prog 57 [mP (H.length + 1), .sl none n (fl ((sltL (mel la ao al) p n) (runM (slvL (mel la ao al) p n) (sltL (mel la ao al) p n) (M0 n) k).2.1))] _ (.tup [if (runM (slvL (mel la ao al) p n) (sltL (mel la ao al) p n) (M0 n) (k + 1)).2.2 = 0 then .slnil else .sl none n (fl (runM (slvL (mel la ao al) p n) (sltL (mel la ao al) p n) (M0 n) (k + 1)).2.1), .int .i64 (runM (slvL (mel la ao al) p n) (sltL (mel la ao al) p n) (M0 n) (k + 1)).2.2]) (H ++ [[.int .i64 (n : Int), .int .i64 (n : Int), A], mCe (runM (slvL (mel la ao al) p n) (sltL (mel la ao al) p n) (M0 n) (k + 1)).1])
    by_cases hk0 : (runM (slvL (mel la ao al) p n) (sltL (mel la ao al) p n) (M0 n) (k + 1)).2.2 = 0
    · rw [if_pos hk0, hk0]; exact h.2 hk0
    · rw [if_neg hk0]; exact h.1 hk0
  · simp only [mx, mxL_fl]
attribute [local irreducible] Ex exOps exD opX opE thenX blkX RetQ Spec CSpec Fr condK guardK guardD ckK valK pickK loadK faK callK argK gK fK rK RetV lpX prK
set_option maxHeartbeats 4000000 in
theorem rrc_0 (H : List (List AV)) (q : Nat × Nat) (la : List Nat) (ao al : Int) (n : Nat) (hJ : MI la.length ao n n al) (hGa : GoodP la.length ao n n al) (q' : Nat × Nat) (p : List Int) (hpl : p.length = n) (hpv : pivP p) (hn1 : 1 ≤ n) (hn : n ≤ 64) (A : AV) (hA : ∀ H, FL H A (rmA (mel la ao al) n n)) (hAm : mx A = 0) (hz : ∀ k, k < n → feq ((mel la ao al) k k) 0 = false) (N : Nat) (hR : REnd (slvL (mel la ao al) p n) (sltL (mel la ao al) p n) (M0 n) N) (hPm : mx (aI q' p) ≤ H.length) (Am : AV) (g : Nat → Nat → Nat) (hAg : ∀ H, FL H Am (rmA g n n)) (hAgm : mx Am = 0) :
    CSpec Tryz.prog 17 [mM Am n n, mM A n n, (aI q' p)] H (.flt (rcF (runM (slvL (mel la ao al) p n) (sltL (mel la ao al) p n) (M0 n) N).1.est (oneF g n n))) H := by
  refine .mk (fun args w => Tryz.call17 args w) (Spec.intro' (fn := Tryz.f17) Tryz.func17 rfl (by kernel_rfl) (by simp) false [] (draw := drawX Tryz.prog ⟨false, _, []⟩) dOk ?_)
  simp only [argE, Nat.reduceAdd]
  repeat' (first
    | (refine gateE ?_; (first | refine b_c0 ?_ | refine b_nil ?_ | refine m13 ?_ | refine m12 ?_ | refine m11 ?_ | (refine m10 ?_; (first | refine g_TT ?_ | refine g_FF ?_ | refine g_TF ?_ | refine g_FT ?_ | refine g_PT ?_ ?_ | refine g_PF ?_ ?_ | refine g_BT ?_ ?_ | refine g_BF ?_ ?_ | fail)) | (refine m09 ?_; (first | refine g_TT ?_ | refine g_FF ?_ | refine g_TF ?_ | refine g_FT ?_ | refine g_PT ?_ ?_ | refine g_PF ?_ ?_ | refine g_BT ?_ ?_ | refine g_BF ?_ ?_ | fail)) | refine m38 ?_ | fail))
    | (refine gateO ?_; (first | refine m14 ?_ | (refine m07 ?_; (first | refine m15 ?_ | refine m16 ?_ | fail)) | (refine m45 ?_; (first | refine v_bbT (by exact rfl) ?_ | refine v_k ?_ | fail)) | (refine m00 ?_; (first | refine m52 ?_ | refine m53 ?_ | refine v_eP ?_ | refine m49 ?_ | refine m50 ?_ | refine v_k ?_ | refine m51 ?_ | fail)) | (refine m22 ?_; (first | refine m26 ?_ | refine m27 ?_ | fail)) | refine m42 ?_ | refine b_assignI ?_ | refine b_assignN ?_ | refine m08 ?_ | refine b_callB ?_ | refine m23 ?_ | refine m01 ?_ | fail))
    | (refine gateT ?_; (first | refine b_thn ?_ | refine b_thr ?_ | refine b_the ?_ | fail))
    | (refine gateX ?_; (first | refine b_seq ?_ | refine b_region ?_ | (refine m06 ?_; (first | refine c_T ?_ | refine c_F ?_ | refine c_P ?_ ?_ | refine c_B ?_ ?_ | fail)) | refine b_ret ?_ | refine b_skip ?_ | refine b_block ?_ | refine b_exit ?_ | fail))
    | refine m43 ?_
    | refine a_consI ?_
    | refine m21 ?_
    | refine a_nil ?_
    | (refine gateK ?_; (first | refine c_call (rinv_0 _ q la ao al n hJ hGa q' p hpl hpv hn1 hn A hA hAm hz N hR (by simp only [List.append_nil, List.length_append]; omega)) (OldOk.app (by simp)) ?_ | refine c_call (rone_m _ Am g n n (hAg _) (by omega) (by omega)) (OldOk.app (by simp)) ?_ | refine c_call (rover_c _ _ _) (OldOk.app (by simp)) ?_ | fail))
    | (refine gateQ ?_; refine m05 ?_)
    | (refine gateR ?_; (first | refine m04 ?_ | refine m02 ?_ | refine m03 ?_ | refine rk_nil ?_ | fail))
    | intro _)
  all_goals first
    | (refine rv_old rfl (by simp [mx, mxL, resOne]) ?_; unfold rcF; rw [if_pos ‹feq (oneF g n n) (cn 0) = true›]; exact rfl)
    | (refine rv_old rfl (by simp [mx, mxL, resOne]) ?_; unfold rcF; rw [if_neg (by rw [‹feq (oneF g n n) (cn 0) = false›]; exact Bool.false_ne_true), if_pos ‹feq (runM (slvL (mel la ao al) p n) (sltL (mel la ao al) p n) (M0 n) N).1.est (cn 0) = true›]; exact rfl)
    | (refine rv_old rfl (by simp [mx, mxL, resOne]) ?_; unfold rcF; rw [if_neg (by rw [‹feq (oneF g n n) (cn 0) = false›]; exact Bool.false_ne_true), if_neg (by rw [‹feq (runM (slvL (mel la ao al) p n) (sltL (mel la ao al) p n) (M0 n) N).1.est (cn 0) = false›]; exact Bool.false_ne_true)]; (try simp only [cn_1]); exact rfl)
    | (exfalso; contradiction)
    | (exfalso; omega)
    | (exfalso; simp_all; done)
    | (refine rv_old rfl (by simp [mx, mxL, resOne, aOf, aOf1]) ?_; exact rfl)

set_option maxHeartbeats 4000000 in
theorem rc_1 (H : List (List AV)) (x : Nat × Nat) (l : List Nat) (off rows cols ld : Int) (hI : MI l.length off rows cols ld) (q : Nat × Nat) (la : List Nat) (ao ar ac al : Int) (hJ : MI la.length ao ar ac al) (q' : Nat × Nat) (p : List Int) (hpm : p.length ≤ 2 ^ 30) (hbad : ¬ (GoodP l.length off rows cols ld ∧ (GoodP la.length ao ar ac al ∧ ar = ac ∧ ar = (p.length : Int) ∧ pivP p))) :
    CSpec Tryz.prog 9 [mt (aD x l) off rows cols ld, (.agg [aD q la, .int .i64 ao, .int .i64 ar, .int .i64 ac, .int .i64 al, aI q' p])] H (.tup [.flt 0, .int .i64 1]) H := by
  obtain ⟨hm, ho1, ho2, hr1, hr2, hc1, hc2, hl1, hl2⟩ := id hI
  obtain ⟨hm', ho1', ho2', hr1', hr2', hc1', hc2', hl1', hl2'⟩ := id hJ
  refine .mk (fun args w => Tryz.call9 args w) (Spec.intro' (fn := Tryz.f9) Tryz.func9 rfl (by kernel_rfl) (by simp) false [] (draw := drawX Tryz.prog ⟨false, _, []⟩) dOk ?_)
  simp only [argE, Nat.reduceAdd]
  repeat' (first
    | (refine gateE ?_; (first | refine b_c0 ?_ | refine b_nil ?_ | refine m13 ?_ | refine m12 ?_ | refine m11 ?_ | (refine m10 ?_; (first | refine g_TT ?_ | refine g_FF ?_ | refine g_TF ?_ | refine g_FT ?_ | refine g_PT ?_ ?_ | refine g_PF ?_ ?_ | refine g_BT ?_ ?_ | refine g_BF ?_ ?_ | fail)) | (refine m09 ?_; (first | refine g_TT ?_ | refine g_FF ?_ | refine g_TF ?_ | refine g_FT ?_ | refine g_PT ?_ ?_ | refine g_PF ?_ ?_ | refine g_BT ?_ ?_ | refine g_BF ?_ ?_ | fail)) | refine m38 ?_ | fail))
    | (refine gateO ?_; (first | refine m14 ?_ | (refine m17 ?_; first | refine m19 ?_ | refine m18 ?_) | (refine m07 ?_; (first | refine m15 ?_ | refine m16 ?_ | fail)) | (refine m45 ?_; (first | refine v_bbT (by exact rfl) ?_ | refine v_k ?_ | fail)) | (refine m00 ?_; (first | refine m52 ?_ | refine m53 ?_ | refine v_eP ?_ | refine m54 ?_ | refine m55 ?_ | refine v_neP ?_ | refine m49 ?_ | refine m50 ?_ | refine v_qc (by omega) (by omega) ?_ | refine v_nT ?_ | refine v_nF ?_ | refine v_nP ?_ | refine v_k ?_ | refine m51 ?_ | fail)) | (refine m22 ?_; (first | refine m26 ?_ | refine m27 ?_ | fail)) | refine m42 ?_ | refine b_assignI ?_ | refine b_assignN ?_ | refine m08 ?_ | (refine m20 ?_; (first | refine m52 ?_ | refine m53 ?_ | refine v_eP ?_ | refine m54 ?_ | refine m55 ?_ | refine v_neP ?_ | refine m49 ?_ | refine m50 ?_ | refine v_qc (by omega) (by omega) ?_ | refine v_nT ?_ | refine v_nF ?_ | refine v_nP ?_ | refine v_k ?_ | refine m51 ?_ | fail)) | refine b_callB ?_ | refine m23 ?_ | refine m01 ?_ | fail))
    | (refine gateT ?_; (first | refine b_thn ?_ | refine b_thr ?_ | refine b_the ?_ | fail))
    | (refine gateX ?_; (first | refine b_seq ?_ | refine b_region ?_ | (refine m06 ?_; (first | refine c_T ?_ | refine c_F ?_ | refine c_P ?_ ?_ | refine c_B ?_ ?_ | fail)) | refine b_ret ?_ | refine b_skip ?_ | refine b_block ?_ | refine b_exit ?_ | fail))
    | refine m21 ?_
    | refine a_nil ?_
    | (refine gateK ?_; (first | refine c_call (good_c _ (aD x l) l.length off rows cols ld (aD_len x l) hI) (OldOk.app (by simp)) ?_ | refine c_call (lright_c _ (aD q la) la (aD_FL _ q la) ao ar ac al hJ (aI q' p) p (aI_IL _ q' p) hpm) (OldOk.app (by simp)) ?_ | fail))
    | (refine gateB ?_; (first | refine b_bln ?_ | refine b_blr ?_ | refine b_ble ?_ | refine m57 ?_ | fail))
    | (refine gateQ ?_; refine m05 ?_)
    | (refine gateR ?_; (first | refine m04 ?_ | refine m02 ?_ | refine m03 ?_ | refine rk_nil ?_ | fail))
    | intro _)
  all_goals first
    | (exfalso; contradiction)
    | (exfalso; omega)
    | (exfalso; simp_all; done)
    | (refine rv_old rfl (by simp [mx, mxL, resOne, aOf, aOf1]) ?_; exact rfl)

set_option maxHeartbeats 4000000 in
theorem rc_3 (H : List (List AV)) (x : Nat × Nat) (l : List Nat) (off rows cols ld : Int) (hI : MI l.length off rows cols ld) (q : Nat × Nat) (la : List Nat) (ao ar ac al : Int) (hJ : MI la.length ao ar ac al) (q' : Nat × Nat) (p : List Int) (hpm : p.length ≤ 2 ^ 30) (hg : GoodP l.length off rows cols ld) (hr : (GoodP la.length ao ar ac al ∧ ar = ac ∧ ar = (p.length : Int) ∧ pivP p)) (hs : ¬ (rows = ar ∧ cols = ac)) :
    CSpec Tryz.prog 9 [mt (aD x l) off rows cols ld, (.agg [aD q la, .int .i64 ao, .int .i64 ar, .int .i64 ac, .int .i64 al, aI q' p])] H (.tup [.flt 0, .int .i64 3]) H := by
  obtain ⟨hm, ho1, ho2, hr1, hr2, hc1, hc2, hl1, hl2⟩ := id hI
  obtain ⟨hm', ho1', ho2', hr1', hr2', hc1', hc2', hl1', hl2'⟩ := id hJ
  refine .mk (fun args w => Tryz.call9 args w) (Spec.intro' (fn := Tryz.f9) Tryz.func9 rfl (by kernel_rfl) (by simp) false [] (draw := drawX Tryz.prog ⟨false, _, []⟩) dOk ?_)
  simp only [argE, Nat.reduceAdd]
  repeat' (first
    | (refine gateE ?_; (first | refine b_c0 ?_ | refine b_nil ?_ | refine m13 ?_ | refine m12 ?_ | refine m11 ?_ | (refine m10 ?_; (first | refine g_TT ?_ | refine g_FF ?_ | refine g_TF ?_ | refine g_FT ?_ | refine g_PT ?_ ?_ | refine g_PF ?_ ?_ | refine g_BT ?_ ?_ | refine g_BF ?_ ?_ | fail)) | (refine m09 ?_; (first | refine g_TT ?_ | refine g_FF ?_ | refine g_TF ?_ | refine g_FT ?_ | refine g_PT ?_ ?_ | refine g_PF ?_ ?_ | refine g_BT ?_ ?_ | refine g_BF ?_ ?_ | fail)) | refine m38 ?_ | fail))
    | (refine gateO ?_; (first | refine m14 ?_ | (refine m17 ?_; first | refine m19 ?_ | refine m18 ?_) | (refine m07 ?_; (first | refine m15 ?_ | refine m16 ?_ | fail)) | (refine m45 ?_; (first | refine v_bbT (by exact rfl) ?_ | refine v_k ?_ | fail)) | (refine m00 ?_; (first | refine m52 ?_ | refine m53 ?_ | refine v_eP ?_ | refine m54 ?_ | refine m55 ?_ | refine v_neP ?_ | refine m49 ?_ | refine m50 ?_ | refine v_qc (by omega) (by omega) ?_ | refine v_nT ?_ | refine v_nF ?_ | refine v_nP ?_ | refine v_k ?_ | refine m51 ?_ | fail)) | (refine m22 ?_; (first | refine m26 ?_ | refine m27 ?_ | fail)) | refine m42 ?_ | refine b_assignI ?_ | refine b_assignN ?_ | refine m08 ?_ | (refine m20 ?_; (first | refine m52 ?_ | refine m53 ?_ | refine v_eP ?_ | refine m54 ?_ | refine m55 ?_ | refine v_neP ?_ | refine m49 ?_ | refine m50 ?_ | refine v_qc (by omega) (by omega) ?_ | refine v_nT ?_ | refine v_nF ?_ | refine v_nP ?_ | refine v_k ?_ | refine m51 ?_ | fail)) | refine b_callB ?_ | refine m23 ?_ | refine m01 ?_ | fail))
    | (refine gateT ?_; (first | refine b_thn ?_ | refine b_thr ?_ | refine b_the ?_ | fail))
    | (refine gateX ?_; (first | refine b_seq ?_ | refine b_region ?_ | (refine m06 ?_; (first | refine c_T ?_ | refine c_F ?_ | refine c_P ?_ ?_ | refine c_B ?_ ?_ | fail)) | refine b_ret ?_ | refine b_skip ?_ | refine b_block ?_ | refine b_exit ?_ | fail))
    | refine m21 ?_
    | refine a_nil ?_
    | (refine gateK ?_; (first | refine c_call (good_c _ (aD x l) l.length off rows cols ld (aD_len x l) hI) (OldOk.app (by simp)) ?_ | refine c_call (lright_c _ (aD q la) la (aD_FL _ q la) ao ar ac al hJ (aI q' p) p (aI_IL _ q' p) hpm) (OldOk.app (by simp)) ?_ | fail))
    | (refine gateB ?_; (first | refine b_bln ?_ | refine b_blr ?_ | refine b_ble ?_ | refine m57 ?_ | fail))
    | (refine gateQ ?_; refine m05 ?_)
    | (refine gateR ?_; (first | refine m04 ?_ | refine m02 ?_ | refine m03 ?_ | refine rk_nil ?_ | fail))
    | intro _)
  all_goals first
    | (exfalso; contradiction)
    | (exfalso; omega)
    | (exfalso; simp_all; done)
    | (refine rv_old rfl (by simp [mx, mxL, resOne, aOf, aOf1]) ?_; exact rfl)

set_option maxHeartbeats 4000000 in
theorem rc_e (H : List (List AV)) (x : Nat × Nat) (l : List Nat) (off rows cols ld : Int) (hI : MI l.length off rows cols ld) (q : Nat × Nat) (la : List Nat) (ao ar ac al : Int) (hJ : MI la.length ao ar ac al) (q' : Nat × Nat) (p : List Int) (hpm : p.length ≤ 2 ^ 30) (hg : GoodP l.length off rows cols ld) (hr : (GoodP la.length ao ar ac al ∧ ar = ac ∧ ar = (p.length : Int) ∧ pivP p)) (hs : rows = ar ∧ cols = ac) (e : Int) (he : e ≠ 0) (hck : ∀ N, CSpec Tryz.prog 42 [(.agg [aD q la, .int .i64 ao, .int .i64 ar, .int .i64 ac, .int .i64 al, aI q' p])] (H ++ N) (.int .i64 e) (H ++ N)) :
    CSpec Tryz.prog 9 [mt (aD x l) off rows cols ld, (.agg [aD q la, .int .i64 ao, .int .i64 ar, .int .i64 ac, .int .i64 al, aI q' p])] H (.tup [.flt 0, .int .i64 e]) H := by
  obtain ⟨hm, ho1, ho2, hr1, hr2, hc1, hc2, hl1, hl2⟩ := id hI
  obtain ⟨hm', ho1', ho2', hr1', hr2', hc1', hc2', hl1', hl2'⟩ := id hJ
  refine .mk (fun args w => Tryz.call9 args w) (Spec.intro' (fn := Tryz.f9) Tryz.func9 rfl (by kernel_rfl) (by simp) false [] (draw := drawX Tryz.prog ⟨false, _, []⟩) dOk ?_)
  simp only [argE, Nat.reduceAdd]
  repeat' (first
    | (refine gateE ?_; (first | refine b_c0 ?_ | refine b_nil ?_ | refine m13 ?_ | refine m12 ?_ | refine m11 ?_ | (refine m10 ?_; (first | refine g_TT ?_ | refine g_FF ?_ | refine g_TF ?_ | refine g_FT ?_ | refine g_PT ?_ ?_ | refine g_PF ?_ ?_ | refine g_BT ?_ ?_ | refine g_BF ?_ ?_ | fail)) | (refine m09 ?_; (first | refine g_TT ?_ | refine g_FF ?_ | refine g_TF ?_ | refine g_FT ?_ | refine g_PT ?_ ?_ | refine g_PF ?_ ?_ | refine g_BT ?_ ?_ | refine g_BF ?_ ?_ | fail)) | refine m38 ?_ | fail))
    | (refine gateO ?_; (first | refine m14 ?_ | (refine m17 ?_; first | refine m19 ?_ | refine m18 ?_) | (refine m07 ?_; (first | refine m15 ?_ | refine m16 ?_ | fail)) | (refine m45 ?_; (first | refine v_bbT (by exact rfl) ?_ | refine v_k ?_ | fail)) | (refine m00 ?_; (first | refine m52 ?_ | refine m53 ?_ | refine v_eP ?_ | refine m54 ?_ | refine m55 ?_ | refine v_neP ?_ | refine m49 ?_ | refine m50 ?_ | refine v_qc (by omega) (by omega) ?_ | refine v_nT ?_ | refine v_nF ?_ | refine v_nP ?_ | refine v_k ?_ | refine m51 ?_ | fail)) | (refine m22 ?_; (first | refine m26 ?_ | refine m27 ?_ | fail)) | refine m42 ?_ | refine b_assignI ?_ | refine b_assignN ?_ | refine m08 ?_ | (refine m20 ?_; (first | refine m52 ?_ | refine m53 ?_ | refine v_eP ?_ | refine m54 ?_ | refine m55 ?_ | refine v_neP ?_ | refine m49 ?_ | refine m50 ?_ | refine v_qc (by omega) (by omega) ?_ | refine v_nT ?_ | refine v_nF ?_ | refine v_nP ?_ | refine v_k ?_ | refine m51 ?_ | fail)) | refine b_callB ?_ | refine m23 ?_ | refine m01 ?_ | fail))
    | (refine gateT ?_; (first | refine b_thn ?_ | refine b_thr ?_ | refine b_the ?_ | fail))
    | (refine gateX ?_; (first | refine b_seq ?_ | refine b_region ?_ | (refine m06 ?_; (first | refine c_T ?_ | refine c_F ?_ | refine c_P ?_ ?_ | refine c_B ?_ ?_ | fail)) | refine b_ret ?_ | refine b_skip ?_ | refine b_block ?_ | refine b_exit ?_ | fail))
    | refine m21 ?_
    | refine a_nil ?_
    | (refine gateK ?_; (first | refine c_call (good_c _ (aD x l) l.length off rows cols ld (aD_len x l) hI) (OldOk.app (by simp)) ?_ | refine c_call (lright_c _ (aD q la) la (aD_FL _ q la) ao ar ac al hJ (aI q' p) p (aI_IL _ q' p) hpm) (OldOk.app (by simp)) ?_ | refine c_call (inv_e _ _ _ _ _ _ _ e he (fun N => by rw [List.append_assoc]; exact hck _)) (OldOk.app (by simp)) ?_ | fail))
    | (refine gateB ?_; (first | refine b_bln ?_ | refine b_blr ?_ | refine b_ble ?_ | refine m57 ?_ | fail))
    | (refine gateQ ?_; refine m05 ?_)
    | (refine gateR ?_; (first | refine m04 ?_ | refine m02 ?_ | refine m03 ?_ | refine rk_nil ?_ | fail))
    | intro _)
  all_goals first
    | (exfalso; contradiction)
    | (exfalso; omega)
    | (exfalso; simp_all; done)
    | (refine rv_old rfl (by simp [mx, mxL, resOne, aOf, aOf1]) ?_; exact rfl)

set_option maxHeartbeats 4000000 in
theorem rc_0 (H : List (List AV)) (q : Nat × Nat) (la : List Nat) (ao al : Int) (n : Nat) (hJ : MI la.length ao n n al) (hGa : GoodP la.length ao n n al) (q' : Nat × Nat) (p : List Int) (hpl : p.length = n) (hpv : pivP p) (hn1 : 1 ≤ n) (hn : n ≤ 64) (x : Nat × Nat) (l : List Nat) (off ld : Int) (hI : MI l.length off n n ld) (hG : GoodP l.length off n n ld) (hz : ∀ k, k < n → feq ((mel la ao al) k k) 0 = false) (N : Nat) (hR : REnd (slvL (mel la ao al) p n) (sltL (mel la ao al) p n) (M0 n) N) :
    CSpec Tryz.prog 9 [mt (aD x l) off (n : Int) (n : Int) ld, (.agg [aD q la, .int .i64 ao, .int .i64 (n : Int), .int .i64 (n : Int), .int .i64 al, aI q' p])] H (.tup [.flt (rcF (runM (slvL (mel la ao al) p n) (sltL (mel la ao al) p n) (M0 n) N).1.est (oneF (mel l off ld) n n)), .int .i64 0]) H := by
  obtain ⟨hm, ho1, ho2, hr1, hr2, hc1, hc2, hl1, hl2⟩ := id hI
  obtain ⟨hm', ho1', ho2', hr1', hr2', hc1', hc2', hl1', hl2'⟩ := id hJ
  refine .mk (fun args w => Tryz.call9 args w) (Spec.intro' (fn := Tryz.f9) Tryz.func9 rfl (by kernel_rfl) (by simp) false [] (draw := drawX Tryz.prog ⟨false, _, []⟩) dOk ?_)
  simp only [argE, Nat.reduceAdd]
  repeat' (first
    | (refine gateE ?_; (first | refine b_c0 ?_ | refine b_nil ?_ | refine m13 ?_ | refine m12 ?_ | refine m11 ?_ | (refine m10 ?_; (first | refine g_TT ?_ | refine g_FF ?_ | refine g_TF ?_ | refine g_FT ?_ | refine g_PT ?_ ?_ | refine g_PF ?_ ?_ | refine g_BT ?_ ?_ | refine g_BF ?_ ?_ | fail)) | (refine m09 ?_; (first | refine g_TT ?_ | refine g_FF ?_ | refine g_TF ?_ | refine g_FT ?_ | refine g_PT ?_ ?_ | refine g_PF ?_ ?_ | refine g_BT ?_ ?_ | refine g_BF ?_ ?_ | fail)) | refine m38 ?_ | fail))
    | (refine gateO ?_; (first | refine m14 ?_ | (refine m17 ?_; first | refine m19 ?_ | refine m18 ?_) | (refine m07 ?_; (first | refine m15 ?_ | refine m16 ?_ | fail)) | (refine m45 ?_; (first | refine v_bbT (by exact rfl) ?_ | refine v_k ?_ | fail)) | (refine m00 ?_; (first | refine m52 ?_ | refine m53 ?_ | refine v_eP ?_ | refine m54 ?_ | refine m55 ?_ | refine v_neP ?_ | refine m49 ?_ | refine m50 ?_ | refine v_qc (by omega) (by omega) ?_ | refine v_nT ?_ | refine v_nF ?_ | refine v_nP ?_ | refine v_k ?_ | refine m51 ?_ | fail)) | (refine m22 ?_; (first | refine m26 ?_ | refine m27 ?_ | fail)) | refine m42 ?_ | refine b_assignI ?_ | refine b_assignN ?_ | refine m08 ?_ | (refine m20 ?_; (first | refine m52 ?_ | refine m53 ?_ | refine v_eP ?_ | refine m54 ?_ | refine m55 ?_ | refine v_neP ?_ | refine m49 ?_ | refine m50 ?_ | refine v_qc (by omega) (by omega) ?_ | refine v_nT ?_ | refine v_nF ?_ | refine v_nP ?_ | refine v_k ?_ | refine m51 ?_ | fail)) | refine b_callB ?_ | refine m23 ?_ | refine m01 ?_ | fail))
    | (refine gateT ?_; (first | refine b_thn ?_ | refine b_thr ?_ | refine b_the ?_ | fail))
    | (refine gateX ?_; (first | refine b_seq ?_ | refine b_region ?_ | (refine m06 ?_; (first | refine c_T ?_ | refine c_F ?_ | refine c_P ?_ ?_ | refine c_B ?_ ?_ | fail)) | refine b_ret ?_ | refine b_skip ?_ | refine b_block ?_ | refine b_exit ?_ | fail))
    | refine m21 ?_
    | refine a_nil ?_
    | (refine gateK ?_; (first | refine c_call (good_c _ (aD x l) l.length off n n ld (aD_len x l) hI) (OldOk.app (by simp)) ?_ | refine c_call (lright_t _ (aD q la) la (aD_FL _ q la) ao n al hJ (aI q' p) p (aI_IL _ q' p) (by omega) hGa hpl hpv) (OldOk.app (by simp)) ?_ | refine c_call (inv_0 _ q la ao al n hJ hGa q' p hpl hpv hn1 hn hz N hR) (OldOk.app (by simp)) ?_ | refine c_call (one_n _ (aD x l) l (aD_FL _ x l) off ld n hI hG hn) (OldOk.app (by simp)) ?_ | fail))
    | (refine gateB ?_; (first | refine b_bln ?_ | refine b_blr ?_ | refine b_ble ?_ | refine m57 ?_ | fail))
    | (refine gateQ ?_; refine m05 ?_)
    | (refine gateR ?_; (first | refine m04 ?_ | refine m02 ?_ | refine m03 ?_ | refine rk_nil ?_ | fail))
    | intro _)
  all_goals first
    | (refine rv_old rfl (by simp [mx, mxL, resOne]) ?_; unfold rcF; rw [if_pos ‹feq (oneF (mel l off ld) n n) (cn 0) = true›]; exact rfl)
    | (refine rv_old rfl (by simp [mx, mxL, resOne]) ?_; unfold rcF; rw [if_neg (by rw [‹feq (oneF (mel l off ld) n n) (cn 0) = false›]; exact Bool.false_ne_true), if_pos ‹feq (runM (slvL (mel la ao al) p n) (sltL (mel la ao al) p n) (M0 n) N).1.est (cn 0) = true›]; exact rfl)
    | (refine rv_old rfl (by simp [mx, mxL, resOne]) ?_; unfold rcF; rw [if_neg (by rw [‹feq (oneF (mel l off ld) n n) (cn 0) = false›]; exact Bool.false_ne_true), if_neg (by rw [‹feq (runM (slvL (mel la ao al) p n) (sltL (mel la ao al) p n) (M0 n) N).1.est (cn 0) = false›]; exact Bool.false_ne_true)]; (try simp only [cn_1]); exact rfl)
    | (exfalso; contradiction)
    | (exfalso; omega)
    | (exfalso; simp_all; done)
    | (refine rv_old rfl (by simp [mx, mxL, resOne, aOf, aOf1]) ?_; exact rfl)


end Go.Sx

set_option linter.unusedVariables false
set_option linter.unusedSimpArgs false
namespace Go.Sx

/-! ### a run by the kernel: the predicate transformer, made a function -/

def condB (op : BinOp) (b : Int) : Bool :=
  match op with
  | .quo | .rem => !(b == 0)
  | .shl | .shr => decide (0 ≤ b)
  | _ => true
def strB (op : BinOp) (x y : AV) : Bool :=
  match op, x, y with
  | .add, .str a, .str b => decide (a.size + b.size ≤ 9223372036854775807)
  | _, _, _ => true
def condBV (op : BinOp) (x y : EV) : Bool :=
  match x, y with
  | .val (.int _ _), .val (.int _ b) => condB op b
  | .val x, .val y => strB op x y
  | _, _ => true
def condS (P : Program) (n : Nat) (l : Int) (h : Option Int) : Bool :=
  match h with
  | some h => decide (0 ≤ l) && decide (l ≤ h) && decide (h ≤ (n : Int))
  | none => false
def arrB (P : Program) (t : TypeId) (n : Int) : Bool :=
  match tarr P t with
  | some (len, _) => decide (0 ≤ n) && decide (n < (len : Int))
  | none => false
/-- what an operation asks, as a truth value -/
def condP (P : Program) (ρ : Operand → EV) : Op → Bool
  | .binOp op t x y _ => condBV op (ρ x) (ρ y)
  | .indexAddr t x i =>
    match ρ x, tailI (ρ i) with
    | .val s, some n => match slen s with
      | some len => decide (0 ≤ n) && decide (n < (len : Int))
      | none => arrB P t n
    | _, some n => arrB P t n
    | _, _ => false
  | .slice t x lo hi none =>
    match ρ x, bndI ρ 0 lo with
    | .val v, some l => (match v with
      | .str s => condS P s.size l (bndI ρ s.size hi)
      | v => match slen v with
        | some n => condS P n l (bndI ρ n hi)
        | none => false)
    | _, _ => false
  | .index t x i =>
    match ρ x, tailI (ρ i) with
    | .val (.str s), some n => decide (0 ≤ n) && decide (n < s.size)
    | _, _ => false
  | _ => true

theorem binI_cond {op : BinOp} {k : IntKind} {a b : Int} {c : Prop} {v : AV} (h : binI op k a b = some (c, v)) (hc : condB op b = true) : c := by
  cases op <;> simp only [binI, Option.some.injEq, Prod.mk.injEq, reduceCtorEq] at h <;> (try exact h.elim) <;> obtain ⟨rfl, _⟩ := h <;> first | trivial | (simpa [condB] using hc)
theorem shI_cond {op : BinOp} {k : IntKind} {a b : Int} {c : Prop} {v : AV} (h : shI op k a b = some (c, v)) (hc : condB op b = true) : c := by
  cases op <;> simp only [shI, Option.some.injEq, Prod.mk.injEq, reduceCtorEq] at h <;> (try exact h.elim) <;> obtain ⟨rfl, _⟩ := h <;> first | trivial | (simpa [condB] using hc)
theorem binF_cond {op : BinOp} {a b : Nat} {c : Prop} {v : AV} (h : binF op a b = some (c, v)) : c := by
  cases op <;> simp only [binF, Option.some.injEq, Prod.mk.injEq, reduceCtorEq] at h <;> (try exact h.elim) <;> obtain ⟨rfl, _⟩ := h <;> trivial
theorem othV_cond {P : Program} {op : BinOp} {t : TypeId} {x y : AV} {c : Prop} {v : AV} (h : othV P op t x y = some (c, v)) (hc : strB op x y = true) : c := by
  unfold othV at h
  split at h
  · cases op <;> simp only [strV, Option.some.injEq, Prod.mk.injEq, reduceCtorEq] at h <;> (try exact h.elim) <;> obtain ⟨rfl, _⟩ := h <;> first | trivial | (simpa [strB] using hc)
  · split at h
    · simp only [Option.map_eq_some_iff, Prod.mk.injEq] at h
      obtain ⟨_, _, rfl, _⟩ := h; trivial
    · simp only [Option.map_eq_some_iff, Prod.mk.injEq] at h
      obtain ⟨_, _, rfl, _⟩ := h; trivial
    · cases h
  · split at h
    · simp only [Option.map_eq_some_iff, Prod.mk.injEq] at h
      obtain ⟨_, _, rfl, _⟩ := h; trivial
    · simp only [Option.map_eq_some_iff, Prod.mk.injEq] at h
      obtain ⟨_, _, rfl, _⟩ := h; trivial
    · cases h
theorem binV_cond {P : Program} {op : BinOp} {t : TypeId} {x y : EV} {c : Prop} {v : AV} (h : binV P op t x y = some (c, v)) (hc : condBV op x y = true) : c := by
  unfold binV at h
  split at h
  · rename_i k a k' b
    have hc' : condB op b = true := hc
    cases op <;> first
      | exact shI_cond h hc'
      | (dsimp only at h; split at h; · exact binI_cond h hc'
         · cases h)
  · split at h <;> first | (cases h; trivial) | cases h
  · rename_i x y hi _
    split at h
    · exact binF_cond h
    · refine othV_cond h ?_
      unfold condBV at hc
      split at hc
      · rename_i he1 he2; cases he1; cases he2; exact (hi _ _ _ _ rfl rfl).elim
      · rename_i he1 he2; cases he1; cases he2; exact hc
      · rename_i hne; exact (hne _ _ rfl rfl).elim
  · cases h
theorem unV_cond {op : UnOp} {x : EV} {c : Prop} {v : AV} (h : unV op x = some (c, v)) : c := by
  unfold unV at h
  split at h
  · cases h; trivial
  · cases h; trivial
  · cases h; trivial
  · simp only [Option.map_eq_some_iff, Prod.mk.injEq] at h
    obtain ⟨_, _, rfl, _⟩ := h; trivial
  · cases h
theorem cnvV_cond {P : Program} {t : TypeId} {x : EV} {c : Prop} {v : AV} (h : cnvV P t x = some (c, v)) : c := by
  unfold cnvV at h
  split at h
  · cases h; trivial
  · cases h; trivial
  · simp only [Option.map_eq_some_iff, Prod.mk.injEq] at h
    obtain ⟨_, _, rfl, _⟩ := h; trivial
  · cases h

theorem mapC {α β : Type} {o : Option (α)} {f : α → Prop × β} {c : Prop} {v : β} (h : o.map f = some (c, v)) : ∃ a, o = some a ∧ f a = (c, v) := by
  simpa [Option.map_eq_some_iff] using h

theorem pureV_cond {P : Program} {ρ : Operand → EV} {lL : Nat → Option (List AV)} {H : List (List AV)} {op : Op} {c : Prop} {v : EV} (h : pureV P ρ lL H op = some (c, v)) (hc : condP P ρ op = true) : c := by
  cases op
  case binOp op t x y t' =>
    simp only [pureV] at h
    simp only [condP] at hc
    split at h
    · rename_i he
      cases h
      exact binV_cond he hc
    · obtain ⟨a, _, hh⟩ := mapC h
      cases hh; trivial
  case unOp op t x =>
    simp only [pureV] at h
    obtain ⟨⟨c', v'⟩, h1, hh⟩ := mapC h
    cases hh
    exact unV_cond h1
  case convert s d x =>
    simp only [pureV] at h
    split at h
    · obtain ⟨⟨c', v'⟩, h1, hh⟩ := mapC h
      cases hh
      exact cnvV_cond h1
    · cases h
  case indexAddr t x i =>
    simp only [pureV] at h
    simp only [condP] at hc
    split at h
    · rename_i h1 h2 h3
      rw [h2, h3] at hc
      dsimp only at hc
      cases hs : slen _ with
      | none => rw [hs] at h; cases h
      | some len =>
        rw [hs] at h hc
        simp only [Option.bind_some, Option.map_eq_some_iff, Prod.mk.injEq] at h
        obtain ⟨_, _, rfl, _⟩ := h
        simpa using hc
    · rename_i x2 x3 n h1 h3
      rw [h3] at hc
      simp only [Option.bind_eq_some_iff] at h
      obtain ⟨⟨len, e⟩, ht, z, hz, h⟩ := h
      have hA : arrB P t n = true → 0 ≤ n ∧ n < (len : Int) := by
        intro hh
        unfold arrB at hh
        rw [ht] at hh
        simpa using hh
      dsimp only at h
      split at h
      · rename_i key off he
        rw [he] at hc
        simp only [Option.some.injEq, Prod.mk.injEq] at h
        obtain ⟨rfl, _⟩ := h
        exact hA hc
      · rename_i s off he
        rw [he] at hc
        simp only [Option.some.injEq, Prod.mk.injEq] at h
        obtain ⟨rfl, _⟩ := h
        exact hA hc
      · cases h
    · cases h
  case slice t x lo hi m =>
    cases m with
    | some m => simp [pureV] at h
    | none =>
      simp only [pureV] at h
      simp only [condP] at hc
      obtain ⟨⟨c', v'⟩, h1, hh⟩ := mapC h
      cases hh
      unfold sliceV at h1
      split at h1
      · rename_i s l hx hl
        rw [hx, hl] at hc
        split at h1
        · obtain ⟨a, h2, hh⟩ := mapC h1
          cases hh
          have h2' : bndI ρ s.size hi = some a := h2
          have hc' : condS P s.size l (bndI ρ s.size hi) = true := hc
          rw [h2'] at hc'
          simp only [condS, Bool.and_eq_true, decide_eq_true_eq] at hc'
          exact ⟨hc'.1.1, hc'.1.2, hc'.2⟩
        · cases h1
      · rename_i v₂ l hne hx hl
        rw [hx, hl] at hc
        simp only [Option.bind_eq_some_iff, Option.map_eq_some_iff, Prod.mk.injEq] at h1
        obtain ⟨e, h2, z, h3, n, h4, hh, h5, a, h6, rfl, _⟩ := h1
        have hc' : condS P n l (bndI ρ n hi) = true := by
          cases v₂ <;> first
            | (simp only [slen] at h4; cases h4; done)
            | (simp only [slen, Option.some.injEq] at h4; subst h4; exact hc)
            | skip
        rw [h5] at hc'
        simp only [condS, Bool.and_eq_true, decide_eq_true_eq] at hc'
        exact ⟨hc'.1.1, hc'.1.2, hc'.2⟩
      · cases h1
  case index t x i =>
    simp only [pureV] at h
    simp only [condP] at hc
    obtain ⟨⟨c', v'⟩, h1, hh⟩ := mapC h
    cases hh
    unfold indexV at h1
    split at h1
    · rename_i s n h2 h3 h4
      rw [h3, h4] at hc
      simp only [Bool.and_eq_true, decide_eq_true_eq] at hc
      cases h1
      exact hc
    · cases h1
  case move => cases h; trivial
  case assign => cases h; trivial
  case pick a b d =>
    simp only [pureV] at h
    obtain ⟨_, _, hh⟩ := mapC h
    cases hh; trivial
  case call c' =>
    obtain ⟨callee, args, ts⟩ := c'
    cases callee with
    | value f => simp [pureV] at h
    | invoke r m => simp [pureV] at h
    | builtin b =>
      cases b <;> simp only [pureV, reduceCtorEq] at h
      all_goals (repeat' split at h) <;> first
        | (cases h; done)
        | (cases h; trivial)
        | (simp only [Option.map_eq_some_iff, Prod.mk.injEq] at h; obtain ⟨_, _, rfl, _⟩ := h; trivial)
  case makeFunc f first caps =>
    cases f <;> simp only [pureV, reduceCtorEq] at h
    split at h <;> first
      | (cases h; done)
      | (cases h; trivial)
  all_goals first
    | (simp [pureV] at h; done)
    | skip
  all_goals
    simp only [pureV, Option.bind_eq_some_iff, Option.map_eq_some_iff, Prod.mk.injEq] at h
    first
    | (obtain ⟨_, _, rfl, _⟩ := h; trivial)
    | (repeat' split at h
       all_goals first
        | (cases h; done)
        | (cases h; trivial)
        | (simp only [Option.bind_eq_some_iff, Option.map_eq_some_iff, Prod.mk.injEq] at h; obtain ⟨_, _, _, _, rfl, _⟩ := h; trivial)
        | (simp only [Option.bind_eq_some_iff, Option.map_eq_some_iff, Prod.mk.injEq] at h; obtain ⟨_, _, _, _, _, _, rfl, _⟩ := h; trivial)
        | (simp only [Option.bind_eq_some_iff, Option.map_eq_some_iff, Prod.mk.injEq] at h; obtain ⟨_, _, _, _, _, _, _, _, rfl, _⟩ := h; trivial)
        | (simp only [Option.bind_eq_some_iff, Option.map_eq_some_iff, Prod.mk.injEq] at h; obtain ⟨_, _, rfl, _⟩ := h; trivial)
        | skip)
    | skip
  all_goals
    obtain ⟨_, _, h⟩ := h
    first
    | (cases h; done)
    | (split at h <;> first | (cases h; done) | (cases h; trivial))

end Go.Sx

set_option linter.unusedVariables false
set_option linter.unusedSimpArgs false
namespace Go.Sx

/-- what an operation does, blocks where they change -/
structure EffR where
  v : Option EV
  l : Option (Nat × List AV)
  H : Option (List (List AV))
def EffR.eff (e : EffR) (H : List (List AV)) : Eff := ⟨e.v, e.l, e.H.getD H⟩

def newR (cfg : Cfg) (nl : Nat → Bool) (H : List (List AV)) (dst : Option Tmp) (cs : List AV) : Option EffR :=
  match dst with
  | none => none
  | some d =>
    if cfg.esc then some ⟨some (.val (.eptr (.slm H.length cs.length 0 1 cs.length) 0)), none, some (H ++ [cs])⟩
    else if nl d then some ⟨some (.loc d 0), some (d, cs), none⟩ else none
theorem newR_ok {cfg : Cfg} {nl : Nat → Bool} {NL : Nat → Prop} (hnl : ∀ d, nl d = true → NL d) {H : List (List AV)} {dst : Option Tmp} {cs : List AV} {e : EffR} {K : Eff → Prop} (h : newR cfg nl H dst cs = some e) (hK : K (e.eff H)) : newX cfg NL H dst cs K := by
  unfold newR at h; unfold newX
  cases dst with
  | none => cases h
  | some d =>
    dsimp only at h ⊢
    split at h
    · rename_i he; cases h; rw [if_pos he]; exact hK
    · rename_i he
      rw [if_neg he]
      split at h
      · rename_i hn; cases h; exact ⟨hnl d hn, hK⟩
      · cases h

def storeR (cfg : Cfg) (lL : Nat → Option (List AV)) (H : List (List AV)) (x : EV) (vs : List AV) : Option EffR :=
  match x with
  | .loc key off =>
    match lL key with
    | some cs => if off + vs.length ≤ cs.length then some ⟨none, some (key, sc cs off vs), none⟩ else none
    | none => none
  | .val (.eptr (.slm id gen o _ _) off) =>
    match H[id]? with
    | some cs => if cs.length = gen ∧ o + off + vs.length ≤ cs.length ∧ (cfg.n0 ≤ id ∨ mxL vs ≤ cfg.n0) then some ⟨none, none, some (H.set id (sc cs (o + off) vs))⟩ else none
    | none => none
  | _ => none
theorem storeR_ok {cfg : Cfg} {lL : Nat → Option (List AV)} {H : List (List AV)} {x : EV} {vs : List AV} {e : EffR} {K : Eff → Prop} (h : storeR cfg lL H x vs = some e) (hK : K (e.eff H)) : storeX cfg lL H x vs K := by
  unfold storeR at h; unfold storeX
  split at h
  · dsimp only
    split at h
    · rename_i hl
      rw [hl]; dsimp only
      split at h
      · rename_i hh; cases h; exact ⟨hh, hK⟩
      · cases h
    · cases h
  · dsimp only
    split at h
    · rename_i hl
      rw [hl]; dsimp only
      split at h
      · rename_i hh; cases h; exact ⟨hh.1, hh.2.1, hh.2.2, hK⟩
      · cases h
    · cases h
  · cases h

def appR (cfg : Cfg) (sz : Nat) (H : List (List AV)) (s : AV) (n : Nat) (xs : List AV) : Option EffR :=
  match s with
  | .slnil => if n ≤ 4294967296 then (if n = 0 then some ⟨some (.val .slnil), none, none⟩ else some ⟨some (.val (.slm H.length xs.length 0 n sz)), none, some (H ++ [xs])⟩) else none
  | .slm id gen o len z =>
    match H[id]? with
    | some cs => if z = sz ∧ cs.length = gen ∧ o = 0 ∧ len * sz = gen ∧ len + n ≤ 4294967296 ∧ (cfg.n0 ≤ id ∨ mxL xs ≤ cfg.n0) then
        some ⟨some (.val (.slm id (cs.length + xs.length) 0 (len + n) sz)), none, some (H.set id (cs ++ xs))⟩ else none
    | none => none
  | _ => none
theorem appR_ok {cfg : Cfg} {sz : Nat} {H : List (List AV)} {s : AV} {n : Nat} {xs : List AV} {e : EffR} {K : Eff → Prop} (h : appR cfg sz H s n xs = some e) (hK : K (e.eff H)) : appX cfg sz H s n xs K := by
  unfold appR at h; unfold appX
  split at h
  · dsimp only
    split at h
    · rename_i hn
      split at h
      · rename_i h0; cases h; exact ⟨hn, fun _ => hK, fun hh => (hh h0).elim⟩
      · rename_i h0; cases h; exact ⟨hn, fun hh => (h0 hh).elim, fun _ => hK⟩
    · cases h
  · dsimp only
    split at h
    · rename_i hl
      rw [hl]; dsimp only
      split at h
      · rename_i hh; cases h; exact ⟨hh.1, hh.2.1, hh.2.2.1, hh.2.2.2.1, hh.2.2.2.2.1, hh.2.2.2.2.2, hK⟩
      · cases h
    · cases h
  · cases h

def cpyR (cfg : Cfg) (sz : Nat) (H : List (List AV)) (d : AV) (n : Nat) (xs : List AV) : Option EffR :=
  match d with
  | .slm id gen o len z =>
    match H[id]? with
    | some cs => if z = sz ∧ cs.length = gen ∧ (cfg.n0 ≤ id ∨ mxL xs ≤ cfg.n0) ∧ o + len * sz ≤ cs.length then
        some ⟨some (.val (.int .i64 (min n len : Nat))), none, some (H.set id (sc cs o (xs.take (min n len * sz))))⟩ else none
    | none => none
  | _ => none
theorem cpyR_ok {cfg : Cfg} {sz : Nat} {H : List (List AV)} {s : AV} {n : Nat} {xs : List AV} {e : EffR} {K : Eff → Prop} (h : cpyR cfg sz H s n xs = some e) (hK : K (e.eff H)) : cpyX cfg sz H s n xs K := by
  unfold cpyR at h; unfold cpyX
  split at h
  · dsimp only
    split at h
    · rename_i hl
      rw [hl]; dsimp only
      split at h
      · rename_i hh; cases h; exact ⟨hh.1, hh.2.1, hh.2.2.1, hh.2.2.2, hK⟩
      · cases h
    · cases h
  · cases h

/-- a call by the kernel -/
abbrev CallR := Nat → List AV → List (List AV) → Option (AV × List (List AV))

def pureR (P : Program) (ρ : Operand → EV) (lL : Nat → Option (List AV)) (H : List (List AV)) (op : Op) : Option EffR :=
  match pureV P ρ lL H op with
  | some (c, v) => if condP P ρ op then some ⟨some v, none, none⟩ else none
  | none => none
def opR (P : Program) (cfg : Cfg) (call : CallR) (ρ : Operand → EV) (nl : Nat → Bool) (lL : Nat → Option (List AV)) (H : List (List AV)) (o : Oper) : Option EffR :=
  match o.op with
  | .alloc t =>
    match (tzero P t).bind AV.cells with
    | some cs => newR cfg nl H o.dst cs
    | none => none
  | .box t x =>
    match ((ρ x).asV).bind AV.cells with
    | some cs => newR cfg nl H o.dst cs
    | none => none
  | .store t x v =>
    match ((ρ v).asV).bind AV.cells with
    | some vs => if tsz P t = some vs.length ∧ o.dst.isNone = true then storeR cfg lL H (ρ x) vs else none
    | none => none
  | .buildSlice t len parts =>
    match einfo P t with
    | some (s, _, zc) =>
      match fillA (fun i => some (i * s, s)) (zrep len zc) (parts.toList.map fun (i, x) => (i, (ρ x).asV)) with
      | some cs => if zc.length = s ∧ 0 < s ∧ len * s ≤ 16777216 then
          (if o.dst.any cfg.fz.contains then some ⟨some (.val (.sl none len cs)), none, none⟩ else some ⟨some (.val (.slm H.length cs.length 0 len s)), none, some (H ++ [cs])⟩) else none
      | none => none
    | none => none
  | .makeSlice t l c =>
    match einfo P t, (ρ l).asI, (ρ c).asI with
    | some (s, by_, zc), some (_, n), some (_, m) =>
      if n = m ∧ 0 ≤ n ∧ n ≤ 4294967296 ∧ by_ ≤ 1024 ∧ zc.length = s ∧ 0 < s then
        some ⟨some (.val (.slm H.length (zrep n.toNat zc).length 0 n.toNat s)), none, some (H ++ [zrep n.toNat zc])⟩ else none
    | _, _, _ => none
  | .call { callee := .builtin .append, args := args, argTypes := ts } =>
    match args.toList.map (fun x => (ρ x).asV), ts.toList with
    | [some s, some x], [t, tx] =>
      match einfo P t, telem P tx with
      | some (sz, by_, zc), some _ =>
        match srcX H sz x with
        | some (n, xs) => if by_ ≤ 1024 ∧ 0 < by_ ∧ zc.length = sz ∧ 0 < sz then appR cfg sz H s n xs else none
        | none => none
      | _, _ => none
    | _, _ => none
  | .call { callee := .builtin .copy, args := args, argTypes := ts } =>
    match args.toList.map (fun x => (ρ x).asV), ts.toList with
    | [some d, some x], [t, tx] =>
      match (telem P t).bind (tsz P), telem P tx with
      | some sz, some _ =>
        match srcX H sz x with
        | some (n, xs) => if 0 < sz then cpyR cfg sz H d n xs else none
        | none => none
      | _, _ => none
    | _, _ => none
  | .call { callee := .value f, args := args, .. } =>
    match ρ f, argsX ρ args.toList with
    | .val (.func id first caps), some vs =>
      match call id (first ++ vs ++ caps) H with
      | some (r, H') => if (H'.take cfg.n0).all (fun cs => decide (mxL cs ≤ cfg.n0)) then some ⟨some (.val r), none, some H'⟩ else none
      | none => none
    | _, _ => none
  | op => pureR P ρ lL H op

theorem opR_ok {P : Program} {cfg : Cfg} {call : CallR} (hcall : ∀ f args H r H', call f args H = some (r, H') → CSpec P f args H r H') {ρ : Operand → EV} {nl : Nat → Bool} {NL : Nat → Prop} (hnl : ∀ d, nl d = true → NL d)
    {lL : Nat → Option (List AV)} {H : List (List AV)} {o : Oper} {e : EffR} {K : Eff → Prop} (h : opR P cfg call ρ nl lL H o = some e) (hK : K (e.eff H)) : opE P cfg ρ NL lL H o K := by
  have pure : ∀ op, pureR P ρ lL H op = some e →
      (match pureV P ρ lL H op with | some (c, v) => c ∧ K ⟨some v, none, H⟩ | none => False) := by
    intro op h
    unfold pureR at h
    split at h
    · rename_i c v hv
      split at h
      · rename_i hc; cases h; exact ⟨pureV_cond hv hc, hK⟩
      · cases h
    · cases h
  obtain ⟨d, op, ty, pos, aft, gd⟩ := o
  unfold opR at h; unfold opE
  cases op
  case alloc t =>
    dsimp only at h ⊢
    split at h
    · rename_i he; rw [he]; exact newR_ok hnl h hK
    · cases h
  case box t x =>
    dsimp only at h ⊢
    split at h
    · rename_i he; rw [he]; exact newR_ok hnl h hK
    · cases h
  case store t x v =>
    dsimp only at h ⊢
    split at h
    · rename_i he
      rw [he]; dsimp only
      split at h
      · rename_i hh; exact ⟨hh.1, by cases d <;> simp_all, storeR_ok h hK⟩
      · cases h
    · cases h
  case buildSlice t len parts =>
    dsimp only at h ⊢
    split at h
    · rename_i he
      rw [he]; dsimp only
      split at h
      · rename_i he'

        rw [he']; dsimp only
        split at h
        · rename_i hh
          refine ⟨hh.1, hh.2.1, hh.2.2, ?_⟩
          split at h
          · rename_i hz; cases h; rw [if_pos hz]; exact hK
          · rename_i hz; cases h; rw [if_neg hz]; exact hK
        · cases h
      · cases h
    · cases h
  case makeSlice t l c =>
    dsimp only at h ⊢
    split at h
    · rename_i he1 he2 he3
      rw [he1, he2, he3]; dsimp only
      split at h
      · rename_i hh; cases h; exact ⟨hh.1, hh.2.1, hh.2.2.1, hh.2.2.2.1, hh.2.2.2.2.1, hh.2.2.2.2.2, hK⟩
      · cases h
    · cases h
  case call c' =>
    obtain ⟨callee, args, ts⟩ := c'
    cases callee with
    | invoke r m => (dsimp only at h ⊢; exact pure _ h)
    | value f =>
      dsimp only at h ⊢
      split at h
      · rename_i he1 he2
        rw [he1, he2]; dsimp only
        split at h
        · rename_i r H' hc
          split at h
          · rename_i ho
            cases h
            refine ⟨_, _, hcall _ _ _ _ _ hc, fun id cs hid hcs => .inr ?_, hK⟩
            simp only [List.all_eq_true, decide_eq_true_eq] at ho
            exact ho cs (List.mem_of_getElem? (by rw [List.getElem?_take, if_pos hid]; exact hcs))
          · cases h
        · cases h
      · cases h
    | builtin b =>
      cases b
      case append =>
        dsimp only at h ⊢
        split at h
        · rename_i ha hb
          rw [ha, hb]; dsimp only
          split at h
          · rename_i h1 h2
            rw [h1, h2]; dsimp only
            split at h
            · rename_i h3
              rw [h3]; dsimp only
              split at h
              · rename_i hh
                exact ⟨hh.1, hh.2.1, hh.2.2.1, hh.2.2.2, appR_ok h hK⟩
              · cases h
            · cases h
          · cases h
        · cases h
      case copy =>
        dsimp only at h ⊢
        split at h
        · rename_i ha hb
          rw [ha, hb]; dsimp only
          split at h
          · rename_i h1 h2
            rw [h1, h2]; dsimp only
            split at h
            · rename_i h3
              rw [h3]; dsimp only
              split at h
              · rename_i hh
                exact ⟨hh, cpyR_ok h hK⟩
              · cases h
            · cases h
          · cases h
        · cases h
      all_goals (dsimp only at h ⊢; exact pure _ h)
  all_goals (dsimp only at h ⊢; exact pure _ h)
end Go.Sx

set_option linter.unusedVariables false
set_option linter.unusedSimpArgs false
namespace Go.Sx

/-! ### values made literal -/
def kN {α : Type} (n : Nat) (k : Nat → α) : α :=
  match n with
  | 0 => k 0
  | m + 1 => k (Nat.succ m)
theorem kN_eq {α : Type} (n : Nat) (k : Nat → α) : kN n k = k n := by cases n <;> rfl
def fI {α : Type} (n : Int) (k : Int → α) : α :=
  match n with
  | .ofNat a => kN a fun a => k (.ofNat a)
  | .negSucc a => kN a fun a => k (.negSucc a)
theorem fI_eq {α : Type} (n : Int) (k : Int → α) : fI n k = k n := by cases n <;> simp only [fI, kN_eq]
def kB {α : Type} (b : Bool) (k : Bool → α) : α :=
  match b with
  | true => k true
  | false => k false
theorem kB_eq {α : Type} (n : Bool) (k : Bool → α) : kB n k = k n := by cases n <;> rfl
def fT {α : Type} (t : Option (Nat × Nat)) (k : Option (Nat × Nat) → α) : α :=
  match t with
  | none => k none
  | some (a, b) => kN a fun a => kN b fun b => k (some (a, b))
theorem fT_eq {α : Type} (n : Option (Nat × Nat)) (k : Option (Nat × Nat) → α) : fT n k = k n := by rcases n with _ | ⟨a, b⟩ <;> simp only [fT, kN_eq]
def fBy {α : Type} (l : List UInt8) (k : List UInt8 → α) : α :=
  match l with
  | [] => k []
  | b :: r => kN b.toNat fun n => fBy r fun r => k (UInt8.ofNat n :: r)
theorem fBy_eq {α : Type} : ∀ (l : List UInt8) (k : List UInt8 → α), fBy l k = k l
  | [], k => rfl
  | b :: r, k => by simp only [fBy, kN_eq, fBy_eq r, UInt8.ofNat_toNat]
def fS {α : Type} (s : ByteArray) (k : ByteArray → α) : α :=
  match s with
  | ⟨⟨l⟩⟩ => fBy l fun l => k ⟨⟨l⟩⟩
theorem fS_eq {α : Type} (s : ByteArray) (k : ByteArray → α) : fS s k = k s := by obtain ⟨⟨l⟩⟩ := s; simp only [fS, fBy_eq]
mutual
def fV {α : Type} : AV → (AV → α) → α
  | .junk, k => k .junk
  | .bool b, k => kB b fun b => k (.bool b)
  | .int kd n, k => fI n fun n => k (.int kd n)
  | .flt x, k => kN x fun x => k (.flt x)
  | .fraw x, k => kN x fun x => k (.fraw x)
  | .str s, k => fS s fun s => k (.str s)
  | .slnil, k => k .slnil
  | .sl tag len cells, k => fT tag fun tag => kN len fun len => fL cells fun cells => k (.sl tag len cells)
  | .slm a b c d e, k => kN a fun a => kN b fun b => kN c fun c => kN d fun d => kN e fun e => k (.slm a b c d e)
  | .eptr s o, k => fV s fun s => kN o fun o => k (.eptr s o)
  | .agg cells, k => fL cells fun cells => k (.agg cells)
  | .tup cells, k => fL cells fun cells => k (.tup cells)
  | .func f a b, k => kN f fun f => fL a fun a => fL b fun b => k (.func f a b)
  | .raw v, k => k (.raw v)
def fL {α : Type} : List AV → (List AV → α) → α
  | [], k => k []
  | v :: r, k => fV v fun v => fL r fun r => k (v :: r)
end
mutual
theorem fV_eq {α : Type} : ∀ (v : AV) (k : AV → α), fV v k = k v
  | .junk, k => by simp only [fV]
  | .bool b, k => by simp only [fV, kB_eq]
  | .int kd n, k => by simp only [fV, fI_eq]
  | .flt x, k => by simp only [fV, kN_eq]
  | .fraw x, k => by simp only [fV, kN_eq]
  | .str s, k => by simp only [fV, fS_eq]
  | .slnil, k => by simp only [fV]
  | .sl tag len cells, k => by simp only [fV, fT_eq, kN_eq, fL_eq cells]
  | .slm a b c d e, k => by simp only [fV, kN_eq]
  | .eptr s o, k => by simp only [fV, kN_eq, fV_eq s]
  | .agg cells, k => by simp only [fV, fL_eq cells]
  | .tup cells, k => by simp only [fV, fL_eq cells]
  | .func f a b, k => by simp only [fV, kN_eq, fL_eq a, fL_eq b]
  | .raw v, k => by simp only [fV]
theorem fL_eq {α : Type} : ∀ (v : List AV) (k : List AV → α), fL v k = k v
  | [], k => by simp only [fL]
  | v :: r, k => by simp only [fL, fV_eq v, fL_eq r]
end
def fEV {α : Type} (v : EV) (k : EV → α) : α :=
  match v with
  | .val v => fV v fun v => k (.val v)
  | .loc a b => kN a fun a => kN b fun b => k (.loc a b)
theorem fEV_eq {α : Type} (v : EV) (k : EV → α) : fEV v k = k v := by cases v <;> simp only [fEV, fV_eq, kN_eq]
def fH {α : Type} (H : List (List AV)) (k : List (List AV) → α) : α :=
  match H with
  | [] => k []
  | cs :: r => fL cs fun cs => fH r fun r => k (cs :: r)
theorem fH_eq {α : Type} : ∀ (H : List (List AV)) (k : List (List AV) → α), fH H k = k H
  | [], k => rfl
  | cs :: r, k => by simp only [fH, fL_eq, fH_eq r]
def fE {α : Type} (e : EffR) (k : EffR → α) : α :=
  match e with
  | ⟨v, l, H⟩ =>
    (match v with
     | none => fun (k : Option EV → α) => k none
     | some v => fun k => fEV v fun v => k (some v)) fun v =>
    (match l with
     | none => fun (k : Option (Nat × List AV) → α) => k none
     | some (a, b) => fun k => kN a fun a => fL b fun b => k (some (a, b))) fun l =>
    (match H with
     | none => fun (k : Option (List (List AV)) → α) => k none
     | some a => fun k => fH a fun a => k (some a)) fun H => k ⟨v, l, H⟩
theorem fE_eq {α : Type} (e : EffR) (k : EffR → α) : fE e k = k e := by
  obtain ⟨v, l, H⟩ := e
  rcases v with _ | v <;> rcases l with _ | ⟨a, b⟩ <;> rcases H with _ | H <;> simp only [fE, fEV_eq, kN_eq, fL_eq, fH_eq]
def fLs {α : Type} (H : List (Nat × List AV)) (k : List (Nat × List AV) → α) : α :=
  match H with
  | [] => k []
  | (a, cs) :: r => kN a fun a => fL cs fun cs => fLs r fun r => k ((a, cs) :: r)
theorem fLs_eq {α : Type} : ∀ (H : List (Nat × List AV)) (k : List (Nat × List AV) → α), fLs H k = k H
  | [], k => rfl
  | (a, cs) :: r, k => by simp only [fLs, kN_eq, fL_eq, fLs_eq r]
def fEs {α : Type} (H : List (Nat × EV)) (k : List (Nat × EV) → α) : α :=
  match H with
  | [] => k []
  | (a, cs) :: r => kN a fun a => fEV cs fun cs => fEs r fun r => k ((a, cs) :: r)
theorem fEs_eq {α : Type} : ∀ (H : List (Nat × EV)) (k : List (Nat × EV) → α), fEs H k = k H
  | [], k => rfl
  | (a, cs) :: r, k => by simp only [fEs, kN_eq, fEV_eq, fEs_eq r]
def fNs {α : Type} (H : List Nat) (k : List Nat → α) : α :=
  match H with
  | [] => k []
  | a :: r => kN a fun a => fNs r fun r => k (a :: r)
theorem fNs_eq {α : Type} : ∀ (H : List Nat) (k : List Nat → α), fNs H k = k H
  | [], k => rfl
  | a :: r, k => by simp only [fNs, kN_eq, fNs_eq r]
def fSt {α : Type} (st : St) (k : St → α) : α :=
  match st with
  | ⟨e, L, H⟩ => fEs e fun e => fLs L fun L => fH H fun H => k ⟨e, L, H⟩
theorem fSt_eq {α : Type} (st : St) (k : St → α) : fSt st k = k st := by obtain ⟨e, L, H⟩ := st; simp only [fSt, fEs_eq, fLs_eq, fH_eq]

/-! ### the run -/
/-- what is known of a program's functions: which hold boxes that are led to from outside; the orders of drawn regions; those that the model answers -/
structure RunT where
  esc : Nat → Bool
  ord : Nat → Nat → Option (List Nat × (Bool × List Nat) × List (Nat × List Nat) × List Nat × DTr)
  intr : Nat → List AV → Option AV
  fz : Nat → List Nat := fun _ => []
  kp : Nat → Bool := fun _ => true

section
variable (P : Program) (cfg : Cfg) (call : CallR)
def nlR (st : St) (d : Nat) : Bool := noLoc d st.env
def oneR (o : Oper) (st : St) : Option EffR :=
  (opR P cfg call st.ev (nlR st) (lk st.L) st.H o).bind fun e => fE e some
/-- what a guard says -/
def guardR (ops : Array Oper) (o : Oper) (st : St) : Option Bool :=
  match o.guard with
  | none => some true
  | some (j, want) =>
    match (ops[j]?).bind (·.dst) with
    | none => none
    | some t =>
      if o.dst = some t then none else
      match st.ev (.tmp t) with
      | .val (.bool b) => some (b == want)
      | .val (.tup []) => some false
      | _ => none
def exOpsR (ops : Array Oper) : List Oper → St → Option St
  | [], st => some st
  | o :: rest, st =>
    match guardR ops o st with
    | none => none
    | some true =>
      match oneR P cfg call o st with
      | none => none
      | some e => exOpsR ops rest (st.app o.dst (e.eff st.H))
    | some false => exOpsR ops rest (st.put o.dst (.val (.tup [])))

mutual
def eqV : AV → AV → Bool
  | .junk, .junk => true
  | .bool a, .bool b => a == b
  | .int k a, .int k' b => decide (k = k') && decide (a = b)
  | .flt a, .flt b => a == b
  | .fraw a, .fraw b => a == b
  | .slnil, .slnil => true
  | .sl t n c, .sl t' n' c' => decide (t = t') && n == n' && eqL c c'
  | .slm a b c d e, .slm a' b' c' d' e' => a == a' && b == b' && c == c' && d == d' && e == e'
  | .eptr s o, .eptr s' o' => eqV s s' && o == o'
  | .agg c, .agg c' => eqL c c'
  | .tup c, .tup c' => eqL c c'
  | .func f a b, .func f' a' b' => f == f' && eqL a a' && eqL b b'
  | _, _ => false
def eqL : List AV → List AV → Bool
  | [], [] => true
  | a :: r, b :: r' => eqV a b && eqL r r'
  | _, _ => false
end
mutual
theorem eqV_eq : ∀ {a b : AV}, eqV a b = true → a = b
  | .junk, b, h => by cases b <;> simp_all [eqV]
  | .bool _, b, h => by cases b <;> simp_all [eqV]
  | .int _ _, b, h => by cases b <;> simp_all [eqV]
  | .flt _, b, h => by cases b <;> simp_all [eqV]
  | .fraw _, b, h => by cases b <;> simp_all [eqV]
  | .str _, b, h => by cases b <;> simp_all [eqV]
  | .raw _, b, h => by cases b <;> simp_all [eqV]
  | .slnil, b, h => by cases b <;> simp_all [eqV]
  | .sl t n c, b, h => by
    cases b <;> simp only [eqV, reduceCtorEq, Bool.and_eq_true, beq_iff_eq, decide_eq_true_eq, Bool.false_eq_true] at h
    rw [h.1.1, h.1.2, eqL_eq h.2]
  | .slm _ _ _ _ _, b, h => by cases b <;> simp_all [eqV]
  | .eptr s _, b, h => by
    cases b <;> simp only [eqV, reduceCtorEq, Bool.and_eq_true, beq_iff_eq, decide_eq_true_eq, Bool.false_eq_true] at h
    rw [eqV_eq h.1, h.2]
  | .agg c, b, h => by
    cases b <;> simp only [eqV, reduceCtorEq, Bool.and_eq_true, beq_iff_eq, decide_eq_true_eq, Bool.false_eq_true] at h
    rw [eqL_eq h]
  | .tup c, b, h => by
    cases b <;> simp only [eqV, reduceCtorEq, Bool.and_eq_true, beq_iff_eq, decide_eq_true_eq, Bool.false_eq_true] at h
    rw [eqL_eq h]
  | .func f a c, b, h => by
    cases b <;> simp only [eqV, reduceCtorEq, Bool.and_eq_true, beq_iff_eq, decide_eq_true_eq, Bool.false_eq_true] at h
    rw [h.1.1, eqL_eq h.1.2, eqL_eq h.2]
theorem eqL_eq : ∀ {a b : List AV}, eqL a b = true → a = b
  | [], b, h => by cases b <;> simp_all [eqL]
  | a :: r, b, h => by
    cases b <;> simp only [eqL, Bool.and_eq_true, Bool.false_eq_true] at h
    rw [eqV_eq h.1, eqL_eq h.2]
end
/-- are the blocks of the first list still there? -/
def preH : List (List AV) → List (List AV) → Bool
  | [], _ => true
  | a :: r, b :: r' => eqL a b && preH r r'
  | _ :: _, [] => false
theorem preH_ok : ∀ {a b : List (List AV)}, preH a b = true → ∀ id, id < a.length → b[id]? = a[id]?
  | [], _, _, id, h => by simp at h
  | a :: r, [], h, _, _ => by simp [preH] at h
  | a :: r, b :: r', h, id, hid => by
    simp only [preH, Bool.and_eq_true] at h
    cases id with
    | zero => simp [eqL_eq h.1]
    | succ id => simpa using preH_ok h.2 id (by simpa using hid)

def preW (W : Nat → Bool) : Nat → List (List AV) → List (List AV) → Bool
  | _, [], _ => true
  | i, a :: r, b :: r' => (!W i || eqL a b) && preW W (i + 1) r r'
  | _, _ :: _, [] => false
theorem preW_ok {W : Nat → Bool} : ∀ {i : Nat} {a b : List (List AV)}, preW W i a b = true → ∀ id, W (i + id) = true → id < a.length → b[id]? = a[id]?
  | _, [], _, _, id, _, h => by simp at h
  | _, a :: r, [], h, _, _, _ => by simp [preW] at h
  | i, a :: r, b :: r', h, id, hw, hid => by
    simp only [preW, Bool.and_eq_true, Bool.or_eq_true, Bool.not_eq_true'] at h
    cases id with
    | zero =>
      rcases h.1 with h1 | h1
      · rw [Nat.add_zero] at hw; rw [hw] at h1; cases h1
      · simp [eqL_eq h1]
    | succ id => simpa using preW_ok h.2 id (by rw [show i + 1 + id = i + (id + 1) by omega]; exact hw) (by simpa using hid)

def ckR (f : DFl) (nY : NY) (o : Oper) (st : St) (e : EffR) : Bool :=
  match f with
  | .lt => true
  | .fz => true
  | .bx => (match o.dst with | some d => nY.ks.contains d && (lk nY.kw d).isNone | none => true)
  | .lb k => (match o.op with | .load _ x => (match st.ev x with | .loc k' _ => Nat.beq k' k | _ => false) | _ => false)
  | .ms k => (match e.l with | none => true | some (k', _) => Nat.beq k' k) && (match e.H with | none => true | some _ => false)
  | .ld hl =>
    match o.op with
    | .load _ x =>
      match st.ev x with
      | .loc k _ => !nY.ks.contains k
      | .val (.eptr (.slm id _ _ _ _) _) => hl || nY.W id
      | _ => true
    | .binOp op _ x _ _ => match op with
      | .eql | .neq => !isEp (st.ev x) || hl
      | _ => true
    | _ => true
  | .mn q => (match e.l with | none => true | some (k, _) => nY.ks.contains k && (lk nY.kw k).isNone) && (match e.H with | none => true | some H => if q then preH st.H H else preW nY.W 0 st.H H)
theorem ckR_ok {f : DFl} {nY : NY} {o : Oper} {st : St} {e : EffR} {d : Option Tmp} (h : ckR f nY o st e = true) : ckX f nY o st (st.app d (e.eff st.H)) := by
  unfold ckR at h; unfold ckX
  cases f with
  | lt => trivial
  | fz => trivial
  | bx =>
    intro d' hd'
    dsimp only at h
    rw [hd'] at h
    simp only [Bool.and_eq_true] at h
    exact ⟨by simpa using h.1, by simpa using h.2⟩
  | lb k =>
    dsimp only at h ⊢
    split at h
    · rename_i hop
      rw [hop]
      dsimp only
      split at h
      · rename_i he; rw [he]; exact Nat.eq_of_beq_eq_true h
      · cases h
    · cases h
  | ms k =>
    simp only [Bool.and_eq_true] at h
    obtain ⟨h1, h2⟩ := h
    refine ⟨fun k' hk' _ => ?_, ?_⟩
    · simp only [St.app, EffR.eff]
      cases hl : e.l with
      | none => rfl
      | some p =>
        rw [hl] at h1
        obtain ⟨k1, c1⟩ := p
        have := Nat.eq_of_beq_eq_true h1
        subst this
        simp only [lk, Ne.symm hk', if_false]
    · simp only [St.app, EffR.eff]
      cases hH : e.H with
      | none => rfl
      | some H => rw [hH] at h2; cases h2
  | ld hl =>
    obtain ⟨dd, op, ty, pos, aft, gd⟩ := o
    cases op <;> dsimp only at h ⊢
    case load t x =>
      split at h
      · rename_i he; rw [he]; simpa using h
      · rename_i he; rw [he]; simpa using h
      · rename_i h1 h2
        split
        · rename_i he; exact (h1 _ _ he).elim
        · rename_i he; exact (h2 _ _ _ _ _ _ he).elim
        · trivial
    case binOp op t x y t' =>
      cases op <;> dsimp only at h ⊢
      all_goals (intro hh; rw [hh] at h; simpa using h)
  | mn q =>
    simp only [Bool.and_eq_true] at h
    obtain ⟨h1, h2⟩ := h
    refine ⟨fun k hk => ?_, fun id hq hid => ?_⟩
    · simp only [St.app, EffR.eff]
      cases hl : e.l with
      | none => rfl
      | some p =>
        rw [hl] at h1
        simp only [lk]
        simp only [Bool.and_eq_true] at h1
        have h1' : p.1 ∈ nY.ks := by simpa using h1.1
        rw [if_neg]
        intro hh
        rcases hk with hk | hk
        · rw [hh] at h1'; exact hk h1'
        · rw [← hh] at hk; have := h1.2; cases hq : lk nY.kw p.1 <;> rw [hq] at hk this <;> simp at hk this
    · simp only [St.app, EffR.eff]
      cases hH : e.H with
      | none => rfl
      | some H =>
        rw [hH] at h2
        dsimp only at h2
        split at h2
        · exact preH_ok h2 id hid
        · rename_i hnq
          rcases hq with hq | hq
          · exact (hnq hq).elim
          · exact preW_ok h2 id (by rw [Nat.zero_add]; exact hq) hid

def exDR (ops : Array Oper) (nY : NY) : List (Nat × DFl) → St → Option St
  | [], st => some st
  | (i, f) :: rest, st =>
    match ops[i]? with
    | none => none
    | some o =>
      match guardR ops o st with
      | none => none
      | some true =>
        match oneR P cfg call o st with
        | none => none
        | some e => if ckR f nY o st e then exDR ops nY rest (st.app o.dst (e.eff st.H)) else none
      | some false => exDR ops nY rest (st.put o.dst (.val (.tup [])))

/-- the blocks that a region doesn't write: all that there are; those of some boxes -/
def wOf (wm : Bool × List Nat) (st : St) (id : Nat) : Bool :=
  (wm.1 && decide (id < st.H.length)) || wm.2.any fun t => match st.ev (.tmp t) with
    | .val (.eptr (.slm b _ _ _ _) _) => Nat.beq b id
    | _ => false
mutual
def exTR (P : Program) (cfg : Cfg) (call : CallR) (ops : Array Oper) (nY : NY) : DTr → St → Option (List St)
  | .lin fl, st => (exDR P cfg call ops nY fl st).map fun s => [s]
  | .alt fl bs, st => match exDR P cfg call ops nY fl st with
    | none => none
    | some s => exBR P cfg call ops nY bs s
def exBR (P : Program) (cfg : Cfg) (call : CallR) (ops : Array Oper) (nY : NY) : DBr → St → Option (List St)
  | .nil, _ => some []
  | .cons i q t r, st => match exDR P cfg call ops nY [(i, .mn q)] st with
    | none => none
    | some s => match exTR P cfg call ops nY t s with
      | none => none
      | some x => match exBR P cfg call ops nY r st with
        | none => none
        | some y => some (x ++ y)
end
abbrev Outs := List (XE × St)
def bindO (f : XE → St → Option Outs) : Outs → Option Outs
  | [] => some []
  | (e, s) :: r => match f e s with
    | none => none
    | some x => match r with
      | [] => some x
      | r => match bindO f r with
        | none => none
        | some y => some (x ++ y)
def roundsR (X : St → Option Outs) (ks : List Nat) : Nat → St → Option Outs
  | 0, _ => none
  | n + 1, st =>
    match X st with
    | none => none
    | some o => bindO (fun e s => match e with
      | .normal => fSt (prune ks s) fun s => roundsR X ks n s
      | e => some [(e, s)]) o
def keysR : List (Nat × EV) → List Nat → List Nat
  | [], ks => ks
  | (k, _) :: r, ks => keysR r (if ks.contains k then ks else k :: ks)
def keysL : List (Nat × List AV) → List Nat → List Nat
  | [], ks => ks
  | (k, _) :: r, ks => keysL r (if ks.contains k then ks else k :: ks)
def runC (ord : Nat → Option (List Nat × (Bool × List Nat) × List (Nat × List Nat) × List Nat × DTr)) (lf : Nat) : Code → St → Option Outs
  | .skip, st => some [(.normal, st)]
  | .region id ops d, st =>
    if d then
      match ord id with
      | none => none
      | some (nY, wm, kw, ch, t) =>
        if (cfg.esc || ops.toList.all (fun o => noBox o.op) || uniqB ops ops.toList.zipIdx) && chkT cfg.esc cfg.fz kw ops ch t (Array.replicate ops.size false) && t.size == ops.size && kw.all (fun p => nY.contains p.1) && boxFree cfg.esc st.env ops.toList then
          (exTR P cfg call ops ⟨nY, wOf wm st, kw⟩ t st).map fun l => l.map fun s => (.normal, s)
        else none
    else (exOpsR P cfg call ops ops.toList st).map fun s => [(.normal, s)]
  | .seq x y, st =>
    match runC ord lf x st with
    | none => none
    | some o => bindO (fun e s => match e with
      | .normal => runC ord lf y s
      | e => some [(e, s)]) o
  | .cond c x y, st =>
    match (st.ev c).asB with
    | some true => runC ord lf x st
    | some false => runC ord lf y st
    | none => none
  | .block id c, st =>
    match runC ord lf c st with
    | none => none
    | some o => bindO (fun e s => match e with
      | .exit i => if i = id then some [(.normal, s)] else some [(.exit i, s)]
      | e => some [(e, s)]) o
  | .loop c, st => fNs (keysL st.L (keysR st.env [])) fun ks => fSt (prune ks st) fun s => roundsR (runC ord lf c) ks lf s
  | .exit id, st => some [(.exit id, st)]
  | .ret, st => some [(.ret, st)]
  | _, _ => none
end
end Go.Sx

set_option linter.unusedVariables false
set_option linter.unusedSimpArgs false
namespace Go.Sx

section
variable {P : Program} {cfg : Cfg} {call : CallR} (hcall : ∀ f args H r H', call f args H = some (r, H') → CSpec P f args H r H')
include hcall
theorem oneR_ok {o : Oper} {st : St} {e : EffR} {K : St → Prop} (h : oneR P cfg call o st = some e) (hK : K (st.app o.dst (e.eff st.H))) : opX P cfg o K st := by
  unfold oneR at h
  rw [Option.bind_eq_some_iff] at h
  obtain ⟨e', h1, h2⟩ := h
  rw [fE_eq] at h2
  cases h2
  exact opR_ok (K := fun e => K (st.app o.dst e)) hcall (fun d hd => .inl hd) h1 hK

theorem exOpsR_ok {ops : Array Oper} {Q : St → Prop} {st' : St} (hQ : Q st') : ∀ (l : List Oper) (kn : Option (Nat × Bool)) (st : St), KnA ops kn st → exOpsR P cfg call ops l st = some st' → exOps P cfg ops kn l Q st
  | [], kn, st, hk, h => by
    simp only [exOpsR, Option.some.injEq] at h; subst h
    simpa [exOps] using hQ
  | o :: rest, kn, st, hk, h => by
    unfold exOpsR at h
    unfold exOps
    have kput : ∀ {kn : Option (Nat × Bool)} (s : St), KnA ops kn st → (∀ t, o.dst ≠ some t → lk s.env t = lk st.env t) → KnA ops (if kn.any (fun p => ((ops[p.1]?).bind (·.dst)) == o.dst) then none else kn) s := by
      intro kn s hkn ha
      split
      · trivial
      · rename_i hany
        cases kn with
        | none => trivial
        | some p =>
          obtain ⟨j, b⟩ := p
          obtain ⟨t, ht, hv⟩ := hkn
          exact KnA_of ht (fun hd => hany (by simp [ht, hd])) hv ha
    cases hg : o.guard with
    | none =>
      simp only [guardR, hg] at h
      dsimp only
      cases h1 : oneR P cfg call o st with
      | none => rw [h1] at h; cases h
      | some e =>
        rw [h1] at h
        exact oneR_ok hcall h1 (exOpsR_ok hQ rest _ _ (kput _ hk fun t ht => lk_app_ne ht) h)
    | some p =>
      obtain ⟨j, want⟩ := p
      simp only [guardR, hg] at h
      dsimp only
      cases ht : (ops[j]?).bind (·.dst) with
      | none => rw [ht] at h; cases h
      | some t =>
        rw [ht] at h
        dsimp only at h ⊢
        by_cases hd : o.dst = some t
        · rw [if_pos hd] at h; cases h
        rw [if_neg hd] at h ⊢
        have go : ∀ b, st.ev (.tmp t) = .val (.bool b) → (b = want → (∃ e, oneR P cfg call o st = some e ∧ exOpsR P cfg call ops rest (st.app o.dst (e.eff st.H)) = some st')) ∧
            (b = !want → exOpsR P cfg call ops rest (st.put o.dst (.val (.tup []))) = some st') := by
          intro b hb
          rw [hb] at h
          dsimp only at h
          refine ⟨fun hw => ?_, fun hw => ?_⟩
          · subst hw
            rw [beq_self_eq_true] at h
            dsimp only at h
            cases h1 : oneR P cfg call o st with
            | none => rw [h1] at h; cases h
            | some e => rw [h1] at h; exact ⟨e, rfl, h⟩
          · subst hw
            have : ((!want) == want) = false := by cases want <;> rfl
            rw [this] at h
            exact h
        split
        · rename_i hkn
          subst hkn
          obtain ⟨t', ht', hv⟩ := hk
          rw [ht] at ht'; simp only [Option.some.injEq] at ht'; subst ht'
          obtain ⟨e, h1, h2⟩ := (go _ hv).1 rfl
          exact oneR_ok hcall h1 (exOpsR_ok hQ rest _ _ (KnA_of ht hd hv fun t ht => lk_app_ne ht) h2)
        split
        · rename_i hkn
          subst hkn
          obtain ⟨t', ht', hv⟩ := hk
          rw [ht] at ht'; simp only [Option.some.injEq] at ht'; subst ht'
          exact exOpsR_ok hQ rest _ _ (KnA_of ht hd hv fun t ht => lk_put_ne ht) ((go _ hv).2 rfl)
        cases hb : (st.ev (.tmp t)).asB with
        | none =>
          dsimp only
          have hu : (st.ev (.tmp t)).isU = true ∧ exOpsR P cfg call ops rest (st.put o.dst (.val (.tup []))) = some st' := by
            split at h
            · cases h
            · rename_i heq
              split at heq
              · rename_i he; rw [he] at hb; cases hb
              · cases heq
              · cases heq
            · rename_i heq
              split at heq
              · rename_i he; rw [he] at hb; cases hb
              · rename_i he; rw [he]; exact ⟨rfl, h⟩
              · cases heq
          rw [if_pos hu.1]
          exact exOpsR_ok hQ rest _ _ (kput _ hk fun t ht => lk_put_ne ht) hu.2
        | some b =>
          dsimp only
          obtain ⟨hu, hv⟩ := upd_ev hb
          refine ⟨fun hw => ?_, fun hw => ?_⟩
          · obtain ⟨e, h1, h2⟩ := (go _ hv).1 hw
            subst hw
            rw [hu]
            exact oneR_ok hcall h1 (exOpsR_ok hQ rest _ _ (KnA_of ht hd hv fun t ht => lk_app_ne ht) h2)
          · have h2 := (go _ hv).2 hw
            rw [← hw, hu]
            exact exOpsR_ok hQ rest _ _ (KnA_of ht hd hv fun t ht => lk_put_ne ht) h2

theorem exDR_ok {ops : Array Oper} {nY : NY} {Q : St → Prop} {st' : St} (hQ : Q st') : ∀ (l : List (Nat × DFl)) (kn : Option (Nat × Bool)) (st : St), KnA ops kn st → exDR P cfg call ops nY l st = some st' → exD P cfg ops nY kn l Q st
  | [], kn, st, hk, h => by
    simp only [exDR, Option.some.injEq] at h; subst h
    simpa [exD] using hQ
  | (i, f) :: rest, kn, st, hk, h => by
    unfold exDR at h
    unfold exD
    cases ho : ops[i]? with
    | none => rw [ho] at h; cases h
    | some o =>
    rw [ho] at h
    dsimp only at h ⊢
    have kput : ∀ {kn : Option (Nat × Bool)} (s : St), KnA ops kn st → (∀ t, o.dst ≠ some t → lk s.env t = lk st.env t) → KnA ops (if kn.any (fun p => ((ops[p.1]?).bind (·.dst)) == o.dst) then none else kn) s := by
      intro kn s hkn ha
      split
      · trivial
      · rename_i hany
        cases kn with
        | none => trivial
        | some p =>
          obtain ⟨j, b⟩ := p
          obtain ⟨t, ht, hv⟩ := hkn
          exact KnA_of ht (fun hd => hany (by simp [ht, hd])) hv ha
    have one : ∀ e {x : Option St}, (if ckR f nY o st e then x else none) = some st' → ckX f nY o st (st.app o.dst (e.eff st.H)) ∧ x = some st' := by
      intro e x hh
      split at hh
      · rename_i hc; exact ⟨ckR_ok hc, hh⟩
      · cases hh
    cases hg : o.guard with
    | none =>
      simp only [guardR, hg] at h
      dsimp only
      cases h1 : oneR P cfg call o st with
      | none => rw [h1] at h; cases h
      | some e =>
        rw [h1] at h
        obtain ⟨h2, h3⟩ := one e h
        exact oneR_ok hcall (K := fun s => ckX f nY o st s ∧ exD P cfg ops nY _ rest Q s) h1 ⟨h2, exDR_ok hQ rest _ _ (kput _ hk fun t ht => lk_app_ne ht) h3⟩
    | some p =>
      obtain ⟨j, want⟩ := p
      simp only [guardR, hg] at h
      dsimp only
      cases ht : (ops[j]?).bind (·.dst) with
      | none => rw [ht] at h; cases h
      | some t =>
        rw [ht] at h
        dsimp only at h ⊢
        by_cases hd : o.dst = some t
        · rw [if_pos hd] at h; cases h
        rw [if_neg hd] at h ⊢
        have go : ∀ b, st.ev (.tmp t) = .val (.bool b) → (b = want → (∃ e, oneR P cfg call o st = some e ∧ ckX f nY o st (st.app o.dst (e.eff st.H)) ∧ exDR P cfg call ops nY rest (st.app o.dst (e.eff st.H)) = some st')) ∧
            (b = !want → exDR P cfg call ops nY rest (st.put o.dst (.val (.tup []))) = some st') := by
          intro b hb
          rw [hb] at h
          dsimp only at h
          refine ⟨fun hw => ?_, fun hw => ?_⟩
          · subst hw
            rw [beq_self_eq_true] at h
            dsimp only at h
            cases h1 : oneR P cfg call o st with
            | none => rw [h1] at h; cases h
            | some e => rw [h1] at h; exact ⟨e, rfl, one e h⟩
          · subst hw
            have : ((!want) == want) = false := by cases want <;> rfl
            rw [this] at h
            exact h
        split
        · rename_i hkn
          subst hkn
          obtain ⟨t', ht', hv⟩ := hk
          rw [ht] at ht'; simp only [Option.some.injEq] at ht'; subst ht'
          obtain ⟨e, h1, h2, h3⟩ := (go _ hv).1 rfl
          exact oneR_ok hcall (K := fun s => ckX f nY o st s ∧ exD P cfg ops nY _ rest Q s) h1 ⟨h2, exDR_ok hQ rest _ _ (KnA_of ht hd hv fun t ht => lk_app_ne ht) h3⟩
        split
        · rename_i hkn
          subst hkn
          obtain ⟨t', ht', hv⟩ := hk
          rw [ht] at ht'; simp only [Option.some.injEq] at ht'; subst ht'
          exact exDR_ok hQ rest _ _ (KnA_of ht hd hv fun t ht => lk_put_ne ht) ((go _ hv).2 rfl)
        cases hb : (st.ev (.tmp t)).asB with
        | none =>
          dsimp only
          have hu : (st.ev (.tmp t)).isU = true ∧ exDR P cfg call ops nY rest (st.put o.dst (.val (.tup []))) = some st' := by
            split at h
            · cases h
            · rename_i heq
              split at heq
              · rename_i he; rw [he] at hb; cases hb
              · cases heq
              · cases heq
            · rename_i heq
              split at heq
              · rename_i he; rw [he] at hb; cases hb
              · rename_i he; rw [he]; exact ⟨rfl, h⟩
              · cases heq
          rw [if_pos hu.1]
          exact exDR_ok hQ rest _ _ (kput _ hk fun t ht => lk_put_ne ht) hu.2
        | some b =>
          dsimp only
          obtain ⟨hu, hv⟩ := upd_ev hb
          refine ⟨fun hw => ?_, fun hw => ?_⟩
          · obtain ⟨e, h1, h2, h3⟩ := (go _ hv).1 hw
            subst hw
            rw [hu]
            exact oneR_ok hcall (K := fun s => ckX f nY o st s ∧ exD P cfg ops nY _ rest Q s) h1 ⟨h2, exDR_ok hQ rest _ _ (KnA_of ht hd hv fun t ht => lk_app_ne ht) h3⟩
          · have h2 := (go _ hv).2 hw
            rw [← hw, hu]
            exact exDR_ok hQ rest _ _ (KnA_of ht hd hv fun t ht => lk_put_ne ht) h2

mutual
theorem exTR_ok {ops : Array Oper} {nY : NY} {Q : St → Prop} : ∀ (t : DTr) (st : St) (l : List St), exTR P cfg call ops nY t st = some l → (∀ s ∈ l, Q s) → exT P cfg ops nY t Q st
  | .lin fl, st, l, h, hQ => by
    simp only [exTR, Option.map_eq_some_iff] at h
    obtain ⟨s, h1, rfl⟩ := h
    simp only [exT]
    exact exDR_ok hcall (hQ s (by simp)) fl none st trivial h1
  | .alt fl bs, st, l, h, hQ => by
    simp only [exTR] at h
    simp only [exT]
    split at h
    · cases h
    · rename_i s hs
      exact exDR_ok hcall (Q := fun s => exB P cfg ops nY bs Q s) (exBR_ok bs s l h hQ) fl none st trivial hs
theorem exBR_ok {ops : Array Oper} {nY : NY} {Q : St → Prop} : ∀ (bs : DBr) (st : St) (l : List St), exBR P cfg call ops nY bs st = some l → (∀ s ∈ l, Q s) → exB P cfg ops nY bs Q st
  | .nil, st, l, h, hQ => by simp [exB]
  | .cons i q t r, st, l, h, hQ => by
    simp only [exBR] at h
    simp only [exB]
    split at h
    · cases h
    · rename_i s hs
      split at h
      · cases h
      · rename_i x hx
        split at h
        · cases h
        · rename_i y hy
          cases h
          exact ⟨exDR_ok hcall (Q := fun s => exT P cfg ops nY t Q s) (exTR_ok t s x hx (fun s' hs' => hQ s' (by simp [hs']))) _ none st trivial hs, exBR_ok r st y hy (fun s' hs' => hQ s' (by simp [hs']))⟩
end
omit hcall in
theorem bindO_ok {f : XE → St → Option Outs} : ∀ {o o' : Outs}, bindO f o = some o' → ∀ p ∈ o, ∃ x, f p.1 p.2 = some x ∧ ∀ q ∈ x, q ∈ o'
  | [], o', h, p, hp => by simp at hp
  | (e, s) :: r, o', h, p, hp => by
    unfold bindO at h
    split at h
    · cases h
    · rename_i x hx
      split at h
      · cases h
        simp only [List.mem_singleton] at hp
        subst hp
        exact ⟨_, hx, fun q hq => hq⟩
      · split at h
        · cases h
        · rename_i y hy
          cases h
          rcases List.mem_cons.1 hp with rfl | hp
          · exact ⟨x, hx, fun q hq => by simp [hq]⟩
          · obtain ⟨z, h1, h2⟩ := bindO_ok hy p hp
            exact ⟨z, h1, fun q hq => by simp [h2 q hq]⟩
theorem runC_ok {ord : Nat → Option (List Nat × (Bool × List Nat) × List (Nat × List Nat) × List Nat × DTr)} {lf : Nat} : ∀ (c : Code) (Q : XE → St → Prop) (st : St) (o : Outs), runC P cfg call ord lf c st = some o → (∀ p ∈ o, Q p.1 p.2) → Ex P cfg (drawT P cfg) c Q st
  | .skip, Q, st, o, h, hQ => by simp only [runC, Option.some.injEq] at h; subst h; exact hQ (.normal, st) (by simp)
  | .exit id, Q, st, o, h, hQ => by simp only [runC, Option.some.injEq] at h; subst h; exact hQ (.exit id, st) (by simp)
  | .ret, Q, st, o, h, hQ => by simp only [runC, Option.some.injEq] at h; subst h; exact hQ (.ret, st) (by simp)
  | .region id ops d, Q, st, o, h, hQ => by
    unfold runC at h; unfold Ex
    cases d with
    | true =>
      simp only [if_true] at h ⊢
      split at h
      · cases h
      · rename_i nY wm kw ch t ho
        split at h
        · rename_i hc
          simp only [Bool.and_eq_true, beq_iff_eq] at hc
          obtain ⟨⟨⟨⟨c1, c2⟩, c3⟩, c4⟩, c5⟩ := hc
          simp only [Option.map_eq_some_iff] at h
          obtain ⟨l, h1, rfl⟩ := h
          exact ⟨⟨nY, _, kw⟩, ch, t, c1, c2, c3, c4, c5, exTR_ok hcall t st l h1 (fun s hs => hQ (.normal, s) (by simp [hs]))⟩
        · cases h
    | false =>
      simp only [Bool.false_eq_true, if_false, Option.map_eq_some_iff] at h ⊢
      obtain ⟨s, h1, rfl⟩ := h
      exact exOpsR_ok hcall (hQ (.normal, s) (by simp)) _ _ _ trivial h1
  | .seq x y, Q, st, o, h, hQ => by
    unfold runC at h; unfold Ex
    split at h
    · cases h
    · rename_i o1 h1
      refine runC_ok x _ st o1 h1 fun p hp => ?_
      obtain ⟨z, h2, h3⟩ := bindO_ok h p hp
      obtain ⟨e, s⟩ := p
      cases e with
      | normal => exact runC_ok y Q s z h2 (fun q hq => hQ q (h3 q hq))
      | exit i => simp only [Option.some.injEq] at h2; subst h2; exact hQ (.exit i, s) (h3 _ (by simp))
      | ret => simp only [Option.some.injEq] at h2; subst h2; exact hQ (.ret, s) (h3 _ (by simp))
  | .cond c x y, Q, st, o, h, hQ => by
    unfold runC at h; unfold Ex
    split at h
    · rename_i hb; rw [hb]; exact ⟨fun _ => runC_ok x _ st _ h hQ, fun hh => by cases hh⟩
    · rename_i hb; rw [hb]; exact ⟨fun hh => (by cases hh), fun _ => runC_ok y _ st _ h hQ⟩
    · cases h
  | .block id c, Q, st, o, h, hQ => by
    unfold runC at h; unfold Ex
    split at h
    · cases h
    · rename_i o1 h1
      refine runC_ok c _ st o1 h1 fun p hp => ?_
      obtain ⟨z, h2, h3⟩ := bindO_ok h p hp
      obtain ⟨e, s⟩ := p
      cases e with
      | normal => simp only [Option.some.injEq] at h2; subst h2; exact hQ (.normal, s) (h3 _ (by simp))
      | exit i =>
        dsimp only at h2 ⊢
        split at h2
        · rename_i hi; rw [if_pos hi]; simp only [Option.some.injEq] at h2; subst h2; exact hQ (.normal, s) (h3 _ (by simp))
        · rename_i hi; rw [if_neg hi]; simp only [Option.some.injEq] at h2; subst h2; exact hQ (.exit i, s) (h3 _ (by simp))
      | ret => simp only [Option.some.injEq] at h2; subst h2; exact hQ (.ret, s) (h3 _ (by simp))
  | .loop c, Q, st, o, h, hQ => by
    unfold runC at h; unfold Ex
    rw [fNs_eq, fSt_eq] at h
    refine ⟨keysL st.L (keysR st.env []), lf, ?_⟩
    generalize keysL st.L (keysR st.env []) = ks at h ⊢
    have go : ∀ n s o, roundsR (runC P cfg call ord lf c) ks n s = some o → (∀ p ∈ o, Q p.1 p.2) → roundsX (Ex P cfg (drawT P cfg) c) ks Q n s := by
      intro n
      induction n with
      | zero => intro s o h; simp [roundsR] at h
      | succ n ih =>
        intro s o h hQ
        unfold roundsR at h
        unfold roundsX
        split at h
        · cases h
        · rename_i o1 h1
          refine runC_ok c _ s o1 h1 fun p hp => ?_
          obtain ⟨z, h2, h3⟩ := bindO_ok h p hp
          obtain ⟨e, s'⟩ := p
          cases e with
          | normal =>
            dsimp only at h2 ⊢
            rw [fSt_eq] at h2
            exact ih _ z h2 (fun q hq => hQ q (h3 q hq))
          | exit i => simp only [Option.some.injEq] at h2; subst h2; exact hQ (.exit i, s') (h3 _ (by simp))
          | ret => simp only [Option.some.injEq] at h2; subst h2; exact hQ (.ret, s') (h3 _ (by simp))
    exact go lf _ o h hQ
  | .rangeFunc .., Q, st, o, h, hQ => by simp [runC] at h
  | .scope _, Q, st, o, h, hQ => by simp [runC] at h
  | .label _, Q, st, o, h, hQ => by simp [runC] at h
  | .goto _, Q, st, o, h, hQ => by simp [runC] at h
  | .refuse _, Q, st, o, h, hQ => by simp [runC] at h
end
end Go.Sx

set_option linter.unusedVariables false
set_option linter.unusedSimpArgs false
namespace Go.Sx

theorem enters_of {P : Program} {f : Nat} {fn : Func} (hf : P.funcs[f]? = some fn) (hb : fn.body.isSome = true) (hn : (fn.name == "runtime.NumGoroutine") = false) : Enters P f := by
  intro args w
  obtain ⟨c, hc⟩ := Option.isSome_iff_exists.1 hb
  have h1 : fn.name ≠ "runtime.NumGoroutine" := by simpa using hn
  simp [callFunc, hf, h1, hc]

def idxR : List Nat → Nat → Nat → Option Nat
  | [], _, _ => none
  | k :: r, id, j => if k = id then some j else idxR r id (j + 1)
theorem idxR_some {id : Nat} : ∀ {l : List Nat} {j m : Nat}, idxR l id j = some m → ∃ i, m = j + i ∧ l[i]? = some id
  | [], j, m, h => by simp [idxR] at h
  | k :: r, j, m, h => by
    unfold idxR at h
    split at h
    · rename_i hk; cases h; exact ⟨0, rfl, by simp [hk]⟩
    · obtain ⟨i, h1, h2⟩ := idxR_some h
      exact ⟨i + 1, by omega, by simpa using h2⟩
theorem idxR_none {id : Nat} : ∀ {l : List Nat} {j : Nat}, idxR l id j = none → id ∉ l
  | [], j, h => by simp
  | k :: r, j, h => by
    unfold idxR at h
    split at h
    · cases h
    · rename_i hk
      simp only [List.mem_cons, not_or]
      exact ⟨fun hh => hk hh.symm, idxR_none h⟩
def mapO (f : AV → Option AV) : List AV → Option (List AV)
  | [] => some []
  | a :: r => match f a with
    | none => none
    | some b => match mapO f r with
      | none => none
      | some r' => some (b :: r')
theorem mapO_frs {n₀ : Nat} {keep : List Nat} {H : List (List AV)} {f : AV → Option AV} (hf : ∀ v v', f v = some v' → Fr n₀ keep H v v') : ∀ {l l' : List AV}, mapO f l = some l' → Frs n₀ keep H l l'
  | [], l', h => by simp only [mapO, Option.some.injEq] at h; subst h; exact Frs.nil
  | a :: r, l', h => by
    unfold mapO at h
    split at h
    · cases h
    · rename_i b hb
      split at h
      · cases h
      · rename_i r' hr
        cases h
        exact Frs.cons (hf _ _ hb) (mapO_frs hf hr)
def frV (n₀ : Nat) (keep : List Nat) (H : List (List AV)) : Nat → AV → Option AV
  | 0, _ => none
  | d + 1, v =>
    if mx v ≤ n₀ then some v else
    match v with
    | .slm id gen off len sz =>
      match H[id]? with
      | none => none
      | some cs =>
        if cs.length = gen then
          match idxR keep id 0 with
          | some j => some (.slm (n₀ + j) gen off len sz)
          | none => if n₀ ≤ id then (match gc cs off (len * sz) with
            | none => none
            | some l => (mapO (frV n₀ keep H d) l).map (.sl none len)) else none
        else none
    | .eptr (.slm id gen off len sz) o =>
      match H[id]?, idxR keep id 0 with
      | some cs, some j => if cs.length = gen then some (.eptr (.slm (n₀ + j) gen off len sz) o) else none
      | _, _ => none
    | .agg l => (mapO (frV n₀ keep H d) l).map .agg
    | .tup l => (mapO (frV n₀ keep H d) l).map .tup
    | _ => none
theorem frV_ok {n₀ : Nat} {keep : List Nat} {H : List (List AV)} : ∀ {d : Nat} {v v' : AV}, frV n₀ keep H d v = some v' → Fr n₀ keep H v v'
  | 0, v, v', h => by simp [frV] at h
  | d + 1, v, v', h => by
    unfold frV at h
    split at h
    · rename_i hm; cases h; exact Fr.old hm
    split at h
    · split at h
      · cases h
      · rename_i cs hc
        split at h
        · rename_i hg
          split at h
          · rename_i j hj
            cases h
            obtain ⟨i, h1, h2⟩ := idxR_some hj
            rw [h1, Nat.zero_add]
            exact Fr.kp h2 hc hg
          · rename_i hj
            split at h
            · rename_i hid
              split at h
              · cases h
              · rename_i l hl
                simp only [Option.map_eq_some_iff] at h
                obtain ⟨l', h1, rfl⟩ := h
                exact Fr.fz hid (idxR_none hj) hc hg hl (mapO_frs (fun _ _ hh => frV_ok hh) h1)
            · cases h
        · cases h
    · split at h
      · rename_i cs j hc hj
        split at h
        · rename_i hg
          cases h
          obtain ⟨i, h1, h2⟩ := idxR_some hj
          rw [h1, Nat.zero_add]
          exact Fr.kpp h2 hc hg
        · cases h
      · cases h
    · simp only [Option.map_eq_some_iff] at h
      obtain ⟨l', h1, rfl⟩ := h
      exact Fr.agg (mapO_frs (fun _ _ hh => frV_ok hh) h1)
    · simp only [Option.map_eq_some_iff] at h
      obtain ⟨l', h1, rfl⟩ := h
      exact Fr.tup (mapO_frs (fun _ _ hh => frV_ok hh) h1)
    · cases h
mutual
/-- what a value points to: with 'sl' its slices, too -/
def refsV (sl : Bool) : AV → List Nat → List Nat
  | .slm id _ _ _ _, ks => if sl then (if ks.contains id then ks else ks ++ [id]) else ks
  | .eptr s _, ks => match s with
    | .slm id _ _ _ _ => if ks.contains id then ks else ks ++ [id]
    | _ => ks
  | .agg l, ks => refsL sl l ks
  | .tup l, ks => refsL sl l ks
  | _, ks => ks
def refsL (sl : Bool) : List AV → List Nat → List Nat
  | [], ks => ks
  | v :: r, ks => refsL sl r (refsV sl v ks)
end
/-- the new blocks that are led to -/
def closeR (n₀ : Nat) (H : List (List AV)) : Nat → List Nat → List Nat → List Nat
  | 0, _, acc => acc
  | _ + 1, [], acc => acc
  | n + 1, k :: todo, acc => if k < n₀ || acc.contains k then closeR n₀ H n todo acc else closeR n₀ H n (refsL true ((H[k]?).getD []) [] ++ todo) (acc ++ [k])
def oldRefs (n₀ : Nat) : Nat → List (List AV) → List Nat → List Nat
  | 0, _, ks => ks
  | _ + 1, [], ks => ks
  | n + 1, cs :: r, ks => oldRefs n₀ n r (if mxL cs ≤ n₀ then ks else refsL true cs ks)
def frB (n₀ : Nat) (keep : List Nat) (H : List (List AV)) (cs : List AV) : Option (List AV) :=
  if mxL cs ≤ n₀ then some cs else mapO (frV n₀ keep H 40) cs
def mapB (f : List AV → Option (List AV)) : List (List AV) → Option (List (List AV))
  | [] => some []
  | a :: r => match f a with
    | none => none
    | some b => match mapB f r with
      | none => none
      | some r' => some (b :: r')
theorem mapB_ok {f : List AV → Option (List AV)} : ∀ {l l' : List (List AV)}, mapB f l = some l' → l'.length = l.length ∧ ∀ (i : Nat) c', l'[i]? = some c' → ∃ c, l[i]? = some c ∧ f c = some c'
  | [], l', h => by simp only [mapB, Option.some.injEq] at h; subst h; exact ⟨rfl, fun i c' h => by simp at h⟩
  | a :: r, l', h => by
    unfold mapB at h
    split at h
    · cases h
    · rename_i b hb
      split at h
      · cases h
      · rename_i r' hr
        cases h
        obtain ⟨h1, h2⟩ := mapB_ok hr
        refine ⟨by simp [h1], fun i c' hc => ?_⟩
        cases i with
        | zero => simp at hc; subst hc; exact ⟨a, by simp, hb⟩
        | succ i => simpa using h2 i c' (by simpa using hc)
theorem frB_ok {n₀ : Nat} {keep : List Nat} {H : List (List AV)} {cs cs' : List AV} (h : frB n₀ keep H cs = some cs') : cs'.length = cs.length ∧ Frs n₀ keep H cs cs' := by
  unfold frB at h
  have key : Frs n₀ keep H cs cs' := by
    split at h
    · rename_i hm; cases h; exact Frs.old hm
    · exact mapO_frs (fun _ _ hh => frV_ok hh) h
  exact ⟨by obtain ⟨d, h⟩ := key; exact h.1.symm, key⟩
def nodupR : List Nat → Bool
  | [] => true
  | a :: r => !r.contains a && nodupR r
theorem nodupR_ok : ∀ {l : List Nat}, nodupR l = true → l.Nodup
  | [], _ => List.nodup_nil
  | a :: r, h => by
    simp only [nodupR, Bool.and_eq_true, Bool.not_eq_true'] at h
    exact List.nodup_cons.2 ⟨by simpa using h.1, nodupR_ok h.2⟩
def retR (P : Program) (sl : Bool) (fn : Func) (n₀ : Nat) (st : St) : Option (AV × List (List AV)) :=
  match (fn.results.toList.map (resV P st)).mapM id with
  | none => none
  | some vs =>
    fL vs fun vs => fNs (closeR n₀ st.H 10000 (oldRefs n₀ n₀ st.H (refsL sl vs [])) []) fun keep =>
    if nodupR keep && keep.all (fun k => decide (n₀ ≤ k) && decide (k < st.H.length)) && decide (n₀ ≤ st.H.length) then
      match frV n₀ keep st.H 40 (resOne vs), mapB (frB n₀ keep st.H) (st.H.take n₀), mapB (frB n₀ keep st.H) (keep.map fun k => (st.H[k]?).getD []) with
      | some r, some A, some B => fV r fun r => fH (A ++ B) fun H' => kN H'.length fun n => if H'.all (fun cs => decide (mxL cs ≤ n)) then some (r, H') else none
      | _, _, _ => none
    else none
theorem retR_ok {P : Program} {sl : Bool} {fn : Func} {H₀ : List (List AV)} {st : St} {r : AV} {H' : List (List AV)} {e : XE} (he : match e with | .exit _ => False | _ => True) (h : retR P sl fn H₀.length st = some (r, H')) : RetL P fn H₀ r H' e st := by
  unfold retR at h
  split at h
  · cases h
  · rename_i vs hv
    rw [fL_eq, fNs_eq] at h
    generalize closeR _ _ _ _ _ = keep at h
    split at h
    · rename_i hk
      simp only [Bool.and_eq_true, List.all_eq_true, decide_eq_true_eq] at hk
      obtain ⟨⟨hk1, hk2⟩, hk3⟩ := hk
      split at h
      · rename_i r' A B hr hA hB
        rw [fV_eq, fH_eq, kN_eq] at h
        split at h
        · rename_i hmx
          simp only [Option.some.injEq, Prod.mk.injEq] at h
          obtain ⟨rfl, rfl⟩ := h
          obtain ⟨a1, a2⟩ := mapB_ok hA
          obtain ⟨b1, b2⟩ := mapB_ok hB
          have hal : A.length = H₀.length := by rw [a1, List.length_take]; omega
          refine ⟨he, vs, keep, hv, nodupR_ok hk1, fun k hkk => ?_, ⟨by simp [hal, b1], fun id cs' hc => ⟨?_, ?_⟩⟩, frV_ok hr⟩
          · obtain ⟨h1, h2⟩ := hk2 k hkk
            exact ⟨h1, st.H[k], by simp [h2]⟩
          · simp only [List.all_eq_true, decide_eq_true_eq] at hmx
            exact hmx cs' (List.mem_of_getElem? hc)
          · by_cases hid : id < H₀.length
            · rw [List.getElem?_append_left (by omega)] at hc
              obtain ⟨cs, h1, h2⟩ := a2 id cs' hc
              rw [List.getElem?_take, if_pos hid] at h1
              exact ⟨id, cs, h1, .inl ⟨hid, rfl⟩, frB_ok h2⟩
            · rw [List.getElem?_append_right (by omega), hal] at hc
              obtain ⟨cs, h1, h2⟩ := b2 _ cs' hc
              rw [List.getElem?_map, Option.map_eq_some_iff] at h1
              obtain ⟨k, h3, h4⟩ := h1
              have hlt := (hk2 k (List.mem_of_getElem? h3)).2
              refine ⟨k, cs, ?_, .inr ⟨by omega, h3⟩, frB_ok h2⟩
              rw [List.getElem?_eq_getElem hlt] at h4 ⊢
              simpa using h4
        · cases h
      · cases h
    · cases h

/-- all outcomes hand back the same -/
def allR (P : Program) (sl : Bool) (fn : Func) (n₀ : Nat) (r : AV) (H' : List (List AV)) : Outs → Bool
  | [] => true
  | (.exit _, _) :: _ => false
  | (_, st) :: l => (match retR P sl fn n₀ st with
    | some (r', H'') => eqV r' r && H''.length == H'.length && preH H'' H'
    | none => false) && allR P sl fn n₀ r H' l
def oneRet (P : Program) (sl : Bool) (fn : Func) (n₀ : Nat) : Outs → Option (AV × List (List AV))
  | [] => none
  | (.exit _, _) :: _ => none
  | (_, st) :: l => match retR P sl fn n₀ st with
    | none => none
    | some (r, H') => if allR P sl fn n₀ r H' l then some (r, H') else none
theorem preH_eq {a b : List (List AV)} (hl : a.length = b.length) (h : preH a b = true) : a = b := by
  apply List.ext_getElem? 
  intro i
  rcases Nat.lt_or_ge i a.length with hi | hi
  · exact (preH_ok h i hi).symm
  · rw [List.getElem?_eq_none hi, List.getElem?_eq_none (by omega)]
theorem allR_ok {P : Program} {sl : Bool} {fn : Func} {H₀ : List (List AV)} {r : AV} {H' : List (List AV)} : ∀ {l : Outs}, allR P sl fn H₀.length r H' l = true → ∀ p ∈ l, RetL P fn H₀ r H' p.1 p.2
  | [], h, p, hp => by simp at hp
  | (e, st) :: l, h, p, hp => by
    have key : (match e with | .exit _ => False | _ => True) ∧ (match retR P sl fn H₀.length st with | some (r', H'') => eqV r' r && H''.length == H'.length && preH H'' H' | none => false) = true ∧ allR P sl fn H₀.length r H' l = true := by
      cases e <;> simp only [allR, Bool.and_eq_true, Bool.false_eq_true] at h
      · exact ⟨trivial, h.1, h.2⟩
      · exact ⟨trivial, h.1, h.2⟩
    obtain ⟨h1, h2, h3⟩ := key
    rcases List.mem_cons.1 hp with rfl | hp
    · split at h2
      · rename_i r' H'' hr
        simp only [Bool.and_eq_true, beq_iff_eq] at h2
        have e1 := eqV_eq h2.1.1
        have e2 := preH_eq h2.1.2 h2.2
        subst e1 e2
        exact retR_ok (by cases e <;> exact h1) hr
      · cases h2
    · exact allR_ok h3 p hp
theorem oneRet_ok {P : Program} {sl : Bool} {fn : Func} {H₀ : List (List AV)} {r : AV} {H' : List (List AV)} {l : Outs} (h : oneRet P sl fn H₀.length l = some (r, H')) : ∀ p ∈ l, RetL P fn H₀ r H' p.1 p.2 := by
  cases l with
  | nil => intro p hp; simp at hp
  | cons q l =>
    obtain ⟨e, st⟩ := q
    have key : (match e with | .exit _ => False | _ => True) ∧ retR P sl fn H₀.length st = some (r, H') ∧ allR P sl fn H₀.length r H' l = true := by
      cases e <;> simp only [oneRet, reduceCtorEq] at h
      all_goals
        split at h
        · cases h
        · rename_i r' H'' hr
          split at h
          · rename_i ha; cases h; exact ⟨trivial, hr, ha⟩
          · cases h
    obtain ⟨h1, h2, h3⟩ := key
    intro p hp
    rcases List.mem_cons.1 hp with rfl | hp
    · exact retR_ok (by cases e <;> exact h1) h2
    · exact allR_ok h3 p hp

/-- A CALL BY THE KERNEL: n calls deep, lf rounds a loop -/
def runF (P : Program) (T : RunT) (lf : Nat) : Nat → Nat → List AV → List (List AV) → Option (AV × List (List AV))
  | 0, _, _, _ => none
  | n + 1, f, args, H =>
    match T.intr f args with
    | some r => some (r, H)
    | none =>
      match P.funcs[f]? with
      | none => none
      | some fn =>
        match fn.body with
        | none => none
        | some body =>
          if dstsOk fn.ntmps body && decide (args.length ≤ fn.ntmps) && !(fn.name == "runtime.NumGoroutine") then
            kN H.length fun n₀ =>
            match runC P ⟨T.esc f, 0, T.fz f⟩ (runF P T lf n) (T.ord f) lf body ⟨argE 0 args, [], H⟩ with
            | none => none
            | some o => oneRet P (T.kp f) fn n₀ o
          else none

theorem runF_ok {P : Program} {T : RunT} {lf : Nat} (hm : P.follows .mixedOrders = true) (hi : ∀ f args r H, T.intr f args = some r → CSpec P f args H r H) :
    ∀ (n f : Nat) (args : List AV) (H : List (List AV)) (r : AV) (H' : List (List AV)), runF P T lf n f args H = some (r, H') → CSpec P f args H r H' := by
  intro n
  induction n with
  | zero => intro f args H r H' h; simp [runF] at h
  | succ n ih =>
    intro f args H r H' h
    unfold runF at h
    split at h
    · rename_i r' hr; cases h; exact hi _ _ _ _ hr
    split at h
    · cases h
    rename_i fn hf
    split at h
    · cases h
    rename_i body hb
    split at h
    · rename_i hc
      simp only [Bool.and_eq_true, decide_eq_true_eq, Bool.not_eq_true'] at hc
      rw [kN_eq] at h
      refine .inl ⟨enters_of hf (by rw [hb]; rfl) hc.2, Spec.introL hf hb hc.1.1 hc.1.2 (T.esc f) (T.fz f) (draw := drawT P ⟨T.esc f, 0, T.fz f⟩) (fun C h1 h2 => ?_) ?_⟩
      · subst h1; rw [← h2]; exact drawT_ok hm
      · split at h
        · cases h
        · rename_i o ho
          exact runC_ok (call := runF P T lf n) ih body _ _ o ho (oneRet_ok h)
    · cases h

/-! ### what a call makes without blocks it makes beside any -/
def gh0 (g : Gh) : Gh := ⟨fun _ _ => none, g.Fz⟩
def gh1 (g g' : Gh) : Gh := ⟨g.ρ, g'.Fz⟩
theorem ext00 (w : World) (g g' : Gh) (h : g.Fz = g'.Fz) : ExtN 0 w g w g' := ⟨fun b hb => h ▸ hb, fun _ _ => rfl, fun id _ _ hid => by omega, fun _ _ h => h⟩
theorem Spec.frame {P : Program} {f : Nat} {args : List AV} {r : AV} (h : Spec P f args [] r []) (ha : mxL args = 0) (hr : mx r = 0) (H : List (List AV)) : Spec P f args H r H := by
  intro w g cargs hw hl
  have hw0 : WRep w (gh0 g) [] := {
    blk := fun id cs hc => by simp at hc
    inj := fun id id' cs cs' b δ δ' hc => by simp at hc
    fzlt := hw.fzlt
    rholt := fun id gen b δ hh => by simp [gh0] at hh
    rhoid := fun id gen p hh => by simp [gh0] at hh }
  have hl0 : LRep w (gh0 g) args cargs.toList := LRep.extN (ext00 w g (gh0 g) rfl) _ _ (by omega) hl
  refine (h w (gh0 g) cargs hw0 hl0).mono fun e w' ⟨v, g', he, hw', hs, hv⟩ => ?_
  have keep : ∀ b, b < w.heap.size → w'.heap[b]? = w.heap[b]? := fun b hb => hs.keep b hb (by rintro ⟨id, cs, δ, hc, _⟩; simp at hc)
  have ex : Ext w g w' (gh1 g g') := ⟨hs.fz, fun b hb => keep b (hw.fzlt b hb), fun _ _ _ h => h, hs.bszk⟩
  refine ⟨v, gh1 g g', he, ?_, ?_, VRep.extN (ext00 w' g' (gh1 g g') rfl) _ _ (by omega) hv⟩
  · exact {
      blk := fun id cs hc => by
        obtain ⟨b, δ, c, e, h1, h2, h3, h4, h5, h6⟩ := hw.blk id cs hc
        have hb := hw.rholt _ _ _ _ h1
        refine ⟨b, δ, c, e, h1, by rw [keep b hb]; exact h2, h3, CRep.ext ex (keep b hb) h4, fun hf => h5 (hs.fznew b hf hb), h6⟩
      inj := hw.inj
      fzlt := hw'.fzlt
      rholt := fun id gen b δ hh => Nat.lt_of_lt_of_le (hw.rholt _ _ _ _ hh) hs.sz
      rhoid := hw.rhoid }
  · exact {
      sz := hs.sz
      keep := fun b hb _ => keep b hb
      bszk := hs.bszk
      fro := hs.fro
      fz := hs.fz
      fznew := hs.fznew
      rho := fun _ _ _ h => h
      hbi := fun id cs b δ _ hc hh => ⟨cs, hc, hh⟩
      len := Nat.le_refl _
      same := hs.same }
theorem CSpec.frame {P : Program} {f : Nat} {args : List AV} {r : AV} (h : CSpec P f args [] r []) (ha : mxL args = 0) (hr : mx r = 0) (H : List (List AV)) : CSpec P f args H r H := by
  rcases h with ⟨h1, h2⟩ | ⟨_, h2⟩
  · exact .inl ⟨h1, h2.frame ha hr H⟩
  · refine .inr ⟨rfl, fun w g cargs hl => ?_⟩
    obtain ⟨v, h3, h4⟩ := h2 w (gh0 g) cargs (LRep.extN (ext00 w g (gh0 g) rfl) _ _ (by omega) hl)
    exact ⟨v, h3, VRep.extN (ext00 w (gh0 g) g rfl) _ _ (by omega) h4⟩
/-- a call by the kernel, beside any blocks -/
theorem runF_c {P : Program} {T : RunT} (hm : P.follows .mixedOrders = true) (hi : ∀ f args r H, T.intr f args = some r → CSpec P f args H r H) (lf n f : Nat) (args : List AV) (r : AV) (ha : mxL args = 0) (hr : mx r = 0)
    (h : runF P T lf n f args [] = some (r, [])) (H : List (List AV)) : CSpec P f args H r H := (runF_ok hm hi _ _ _ _ _ _ h).frame ha hr H
end Go.Sx

set_option linter.unusedVariables false
namespace Go.Sx
def ordF (l : List (Nat × Nat × List Nat × (Bool × List Nat) × List (Nat × List Nat) × List Nat × DTr)) (f id : Nat) : Option (List Nat × (Bool × List Nat) × List (Nat × List Nat) × List Nat × DTr) :=
  match l with
  | [] => none
  | (a, b, r) :: t => match Nat.beq a f && Nat.beq b id with
    | true => some r
    | false => ordF t f id
end Go.Sx

set_option linter.unusedVariables false
namespace Go.Sx
/-! ### what the model answers by itself: a float's bits -/
section
variable {P : Program} {f : Nat} {fn : Func} (h1 : P.funcs[f]? = some fn) (h2 : (fn.name == "runtime.NumGoroutine") = false) (h3 : fn.body.isNone = true) (h4 : Extern.findNext fn = none)
include h1 h2 h3 h4
theorem bitsX (h5 : Extern.find fn = some Extern.MathFloatBits.float64bits) (b : Nat) (w : World) : (callFunc f #[.float .f64 b]).run P w = .ok (.value (.int .u64 b)) w := by
  rw [run_callFunc_extern h1 h2 h3 h4 h5]
  rfl
theorem fromX (h5 : Extern.find fn = some Extern.MathFloatBits.float64frombits) (n : Int) (w : World) : (callFunc f #[.int .u64 n]).run P w = .ok (.value (.float .f64 n.toNat)) w := by
  rw [run_callFunc_extern h1 h2 h3 h4 h5]
  rfl
theorem xbits_raw (h5 : Extern.find fn = some Extern.MathFloatBits.float64bits) (H : List (List AV)) (b : Nat) : CSpec P f [.fraw b] H (.int .u64 b) H := by
  refine .inr ⟨rfl, fun w g cargs h => ?_⟩
  simp only [LRep] at h
  obtain ⟨v, r, hv, h6, rfl⟩ := h
  simp only [VRep] at h6
  obtain ⟨rfl, _⟩ := h6
  have : cargs = #[.float .f64 b] := Array.ext' hv
  subst this
  exact ⟨_, bitsX h1 h2 h3 h4 h5 b w, by simp [VRep]⟩
theorem xbits_flt (h5 : Extern.find fn = some Extern.MathFloatBits.float64bits) (H : List (List AV)) (b : Nat) (hn : ¬ isNaN b = true) : CSpec P f [.flt b] H (.int .u64 b) H := by
  refine .inr ⟨rfl, fun w g cargs h => ?_⟩
  simp only [LRep] at h
  obtain ⟨v, r, hv, h6, rfl⟩ := h
  simp only [VRep] at h6
  obtain ⟨c, rfl, _, hc⟩ := h6
  have hcb : c = b := by
    unfold cn at hc
    split at hc
    · exfalso; apply hn; rw [← hc]; decide
    · exact hc
  subst hcb
  have : cargs = #[.float .f64 c] := Array.ext' hv
  subst this
  exact ⟨_, bitsX h1 h2 h3 h4 h5 c w, by simp [VRep]⟩
theorem xfrom (h5 : Extern.find fn = some Extern.MathFloatBits.float64frombits) (H : List (List AV)) (n : Int) (hn : 0 ≤ n ∧ n ≤ 18446744073709551615) : CSpec P f [.int .u64 n] H (.fraw n.toNat) H := by
  refine .inr ⟨rfl, fun w g cargs h => ?_⟩
  simp only [LRep] at h
  obtain ⟨v, r, hv, h6, rfl⟩ := h
  simp only [VRep] at h6
  subst h6
  have : cargs = #[.int .u64 n] := Array.ext' hv
  subst this
  exact ⟨_, fromX h1 h2 h3 h4 h5 n w, by simp only [VRep]; exact ⟨trivial, by omega⟩⟩
end
theorem VRep.fl {w : World} {g : Gh} {b x : Nat} {v : Value} (h : VRep w g (.fraw b) v) (hx : cn b = x) : VRep w g (.flt x) v := by
  simp only [VRep] at h ⊢
  exact ⟨b, h.1, h.2, hx⟩
theorem CSpec.fl {P : Program} {f : Nat} {args : List AV} {H H' : List (List AV)} {b x : Nat} (h : CSpec P f args H (.fraw b) H') (hx : cn b = x) : CSpec P f args H (.flt x) H' := by
  rcases h with ⟨h1, h2⟩ | ⟨rfl, h2⟩
  · exact .inl ⟨h1, fun w g cargs hw hl => (h2 w g cargs hw hl).mono fun e w' ⟨v, g', a, b, c, d⟩ => ⟨v, g', a, b, c, d.fl hx⟩⟩
  · exact .inr ⟨rfl, fun w g cargs hl => (h2 w g cargs hl).imp fun v h => ⟨h.1, h.2.fl hx⟩⟩
end Go.Sx
