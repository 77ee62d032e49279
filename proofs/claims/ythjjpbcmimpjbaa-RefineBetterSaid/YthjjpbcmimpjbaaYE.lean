/- A part of the proofs of this seat: YE. No condition is set. -/
import Derived.Test.YthjjpbcmimpjbaaYD
set_option linter.unusedVariables false
set_option linter.unusedSimpArgs false
set_option maxRecDepth 20000
namespace Go.Sx
open Go.Proofs

/-- halved so often, as it is written -/
def hvC (p : Nat) : Nat → Nat
  | 0 => p
  | k + 1 => fmul (hvC p k) (cn 4602678819172646912)
theorem hvC_eq (p k : Nat) : hvC p k = hvN p k := by
  induction k with
  | zero => rfl
  | succ k ih => rw [hvC, hvN, ih, half_cn]
theorem berrL_can {f w : List Nat} {sm : Nat → Bool} (k : Nat) : ∀ x ∈ berrL f w sm k, cn x = x ∧ x < 2 ^ 64 := by
  have hone : cn 4607182418800017408 = 4607182418800017408 ∧ 4607182418800017408 < 2 ^ 64 := ⟨by decide, by decide⟩
  have hr : ∀ f w, cn (ratF f w) = ratF f w ∧ ratF f w < 2 ^ 64 := by
    intro f w
    unfold ratF
    split
    · exact hone
    · exact fadd_can _ _
  induction k with
  | zero => intro x hx; simp [berrL] at hx
  | succ k ih =>
    intro x hx
    unfold berrL at hx
    split at hx
    · rcases List.mem_append.1 hx with h | h
      · exact ih x h
      · rw [List.mem_singleton.1 h]; exact hr _ _
    · split at hx
      · rcases List.mem_append.1 hx with h | h
        · exact ih x h
        · rw [List.mem_singleton.1 h]; exact hone
      · exact ih x hx
theorem berrF_pos (a : Nat → Nat → Nat) (x b : List Nat) (n : Nat) : berrF a x b n = qn ∨ berrF a x b n ≤ fInf := great_pos _ (berrL_can n)
theorem better_le {a m : Nat → Nat → Nat} {p rl cl : List Int} {x b : List Nat} {n N : Nat} (hN : 0 < N) (hg : ∀ k, k < N → refG a m p rl cl x b n k = true) :
    (flt (berrF a (refY a m p rl cl x b n N) b n) (hvC (berrF a x b n) N) || feq (berrF a (refY a m p rl cl x b n N) b n) (hvC (berrF a x b n) N)) = true := by
  rw [hvC_eq]
  exact half_chain (q := fun k => berrF a (refY a m p rl cl x b n k) b n) (fun k => berrF_pos _ _ _ _) hN hg
theorem goodref_t (H : List (List AV)) (D : AV) (n : Nat) (off rows cols ld : Int) (hD : slen D = some n) (hI : MI n off rows cols ld) (hG : GoodP n off rows cols ld) :
    CSpec Try.prog 20 [mt D off rows cols ld] H (.bool true) H := by
  have h := goodref_c H D n off rows cols ld hD hI
  rwa [decide_eq_true hG] at h
attribute [local irreducible] Ex exOps exD opX opE thenX blkX RetQ Spec CSpec Fr condK guardK guardD ckK valK pickK loadK faK callK argK gK fK rK RetV lpX prK
set_option maxHeartbeats 4000000 in
theorem bt_g (H : List (List AV)) (x : Nat × Nat) (l : List Nat) (off rows cols ld : Int) (hI : MI l.length off rows cols ld) (q : Nat × Nat) (la : List Nat) (ao ar ac al : Int) (hJ : MI la.length ao ar ac al) (q' : Nat × Nat) (p : List Int) (hpm : p.length ≤ 9223372036854775807) (kr : Nat × Nat) (rl : List Int) (hrm : rl.length ≤ 9223372036854775807) (kc : Nat × Nat) (cl : List Int) (hcm : cl.length ≤ 9223372036854775807) (xx : Nat × Nat) (xl : List Nat) (hxm : xl.length ≤ 9223372036854775807) (xb : Nat × Nat) (bl : List Nat) (hbm : bl.length ≤ 9223372036854775807) (most : Int) (hs : ¬ (l.length ≤ 1000 ∧ rows ≤ 20 ∧ cols ≤ 20 ∧ la.length ≤ 1000 ∧ ar ≤ 20 ∧ ac ≤ 20 ∧ p.length ≤ 60 ∧ rl.length ≤ 60 ∧ cl.length ≤ 60)) :
    Spec Try.prog 5 [mt (aD x l) off rows cols ld, .agg [aD q la, .int .i64 ao, .int .i64 ar, .int .i64 ac, .int .i64 al, aI q' p], aI kr rl, aI kc cl, aD xx xl, aD xb bl, .int .i64 most] H (.bool true) H := by
  obtain ⟨hm, ho1, ho2, hr1, hr2, hc1, hc2, hl1, hl2⟩ := id hI
  obtain ⟨hm', ho1', ho2', hr1', hr2', hc1', hc2', hl1', hl2'⟩ := id hJ
  refine (Spec.intro' (fn := Try.f5) Try.func5 rfl (by kernel_rfl) (by simp) false [] (draw := drawX Try.prog ⟨false, _, []⟩) dOk ?_)
  simp only [argE, Nat.reduceAdd]
  repeat' (first
    | (refine gateE ?_; (first | refine b_c0 ?_ | refine b_nil ?_ | refine m13 ?_ | refine m12 ?_ | refine m11 ?_ | (refine m10 ?_; (first | refine g_TT ?_ | refine g_FF ?_ | refine g_TF ?_ | refine g_FT ?_ | refine g_PT ?_ ?_ | refine g_PF ?_ ?_ | refine g_BT ?_ ?_ | refine g_BF ?_ ?_ | fail)) | (refine m09 ?_; (first | refine g_TT ?_ | refine g_FF ?_ | refine g_TF ?_ | refine g_FT ?_ | refine g_PT ?_ ?_ | refine g_PF ?_ ?_ | refine g_BT ?_ ?_ | refine g_BF ?_ ?_ | fail)) | refine m38 ?_ | fail))
    | (refine gateO ?_; (first | refine m14 ?_ | (refine m17 ?_; first | refine m19 ?_ | refine m18 ?_) | (refine m07 ?_; (first | refine m15 ?_ | refine m16 ?_ | fail)) | (refine b_binBn (by first | (conv => {lhs; whnf}; done) | exact (by exact rfl) | fail) (by first | (conv => {lhs; whnf}; done) | exact (by exact rfl) | fail) ?_; (first | refine v_bnF (by exact rfl) ?_ | refine v_bnT (by decide) ?_ | fail)) | refine b_lenA (by (conv => {lhs; whnf}); done) (by exact (aI_IL [] kr rl).len) ?_ | refine b_lenA (by (conv => {lhs; whnf}); done) (by exact (aI_IL [] kc cl).len) ?_ | refine b_lenA (by (conv => {lhs; whnf}); done) (by exact (aI_IL [] q' p).len) ?_ | refine b_lenA (by (conv => {lhs; whnf}); done) (by exact aD_len xb bl) ?_ | refine b_lenA (by (conv => {lhs; whnf}); done) (by exact aD_len xx xl) ?_ | (refine m00 ?_; (first | refine m54 ?_ | refine m55 ?_ | refine v_neP ?_ | refine m47 ?_ | refine m48 ?_ | refine m49 ?_ | refine m50 ?_ | refine v_nT ?_ | refine v_nF ?_ | refine v_nP ?_ | refine v_k ?_ | refine m51 ?_ | fail)) | (refine m22 ?_; (first | refine m26 ?_ | refine m27 ?_ | fail)) | refine m42 ?_ | refine b_assignI ?_ | refine b_assignN ?_ | refine m08 ?_ | (refine m20 ?_; (first | refine m54 ?_ | refine m55 ?_ | refine v_neP ?_ | refine m47 ?_ | refine m48 ?_ | refine m49 ?_ | refine m50 ?_ | refine v_nT ?_ | refine v_nF ?_ | refine v_nP ?_ | refine v_k ?_ | refine m51 ?_ | fail)) | refine b_callB ?_ | refine b_lenA (by (conv => {lhs; whnf}); done) (by first | rfl | assumption) ?_ | refine m23 ?_ | refine m25 ?_ | refine m01 ?_ | refine m24 ?_ | refine b_build ?_ | fail))
    | (refine gateT ?_; (first | refine b_thn ?_ | refine b_thr ?_ | refine b_the ?_ | fail))
    | (refine gateX ?_; (first | refine b_seq ?_ | refine b_region ?_ | (refine m06 ?_; (first | refine c_T ?_ | refine c_F ?_ | refine c_P ?_ ?_ | refine c_B ?_ ?_ | fail)) | refine b_ret ?_ | refine b_skip ?_ | refine b_block ?_ | refine b_exit ?_ | fail))
    | refine m21 ?_
    | refine a_nil ?_
    | (refine gateK ?_; (first | refine c_call (run_7_c _) (OldOk.app (by simp)) ?_ | refine c_call (great_t _ x l off rows cols ld hI q la ao ar ac al hJ q' p hpm (aI kr rl) rl (fun H => aI_IL H kr rl) (aI kc cl) cl (fun H => aI_IL H kc cl) hrm hcm hs) (OldOk.app (by simp)) ?_ | fail))
    | refine m58 ?_
    | refine fk_nil ?_
    | (refine gateB ?_; (first | refine b_bln ?_ | refine b_blr ?_ | refine b_ble ?_ | refine m57 ?_ | fail))
    | (refine gateL ?_; (first | refine lp_n ?_ | refine lp_r ?_ | refine lp_e ?_ | fail))
    | (refine pr_k (by exact rfl) ?_; first | exact hK | (exfalso; first | omega | (simp_all; done) | (simp_all; omega)))
    | (refine gateQ ?_; refine m05 ?_)
    | (refine gateR ?_; (first | refine m04 ?_ | refine m02 ?_ | refine m03 ?_ | refine rk_nil ?_ | fail))
    | intro _)
  all_goals first
    | (exfalso; contradiction)
    | (exfalso; omega)
    | (exfalso; simp_all; done)
    | (refine rv_old rfl (by simp [mx, mxL, resOne, aOf, aOf1]) ?_; exact rfl)
    | (exfalso; (try rw [half_cn] at *); simp_all [-hvC]; done)

set_option maxHeartbeats 4000000 in
theorem bt_h (H : List (List AV)) (x : Nat × Nat) (l : List Nat) (off rows cols ld : Int) (hI : MI l.length off rows cols ld) (q : Nat × Nat) (la : List Nat) (ao ar ac al : Int) (hJ : MI la.length ao ar ac al) (q' : Nat × Nat) (p : List Int) (hpm : p.length ≤ 9223372036854775807) (kr : Nat × Nat) (rl : List Int) (hrm : rl.length ≤ 9223372036854775807) (kc : Nat × Nat) (cl : List Int) (hcm : cl.length ≤ 9223372036854775807) (xx : Nat × Nat) (xl : List Nat) (hxm : xl.length ≤ 9223372036854775807) (xb : Nat × Nat) (bl : List Nat) (hbm : bl.length ≤ 9223372036854775807) (most : Int) (hs : (l.length ≤ 1000 ∧ rows ≤ 20 ∧ cols ≤ 20 ∧ la.length ≤ 1000 ∧ ar ≤ 20 ∧ ac ≤ 20 ∧ p.length ≤ 60 ∧ rl.length ≤ 60 ∧ cl.length ≤ 60)) (hb : ¬ bl.length ≤ 60) :
    Spec Try.prog 5 [mt (aD x l) off rows cols ld, .agg [aD q la, .int .i64 ao, .int .i64 ar, .int .i64 ac, .int .i64 al, aI q' p], aI kr rl, aI kc cl, aD xx xl, aD xb bl, .int .i64 most] H (.bool true) H := by
  obtain ⟨hm, ho1, ho2, hr1, hr2, hc1, hc2, hl1, hl2⟩ := id hI
  obtain ⟨hm', ho1', ho2', hr1', hr2', hc1', hc2', hl1', hl2'⟩ := id hJ
  refine (Spec.intro' (fn := Try.f5) Try.func5 rfl (by kernel_rfl) (by simp) false [] (draw := drawX Try.prog ⟨false, _, []⟩) dOk ?_)
  simp only [argE, Nat.reduceAdd]
  repeat' (first
    | (refine gateE ?_; (first | refine b_c0 ?_ | refine b_nil ?_ | refine m13 ?_ | refine m12 ?_ | refine m11 ?_ | (refine m10 ?_; (first | refine g_TT ?_ | refine g_FF ?_ | refine g_TF ?_ | refine g_FT ?_ | refine g_PT ?_ ?_ | refine g_PF ?_ ?_ | refine g_BT ?_ ?_ | refine g_BF ?_ ?_ | fail)) | (refine m09 ?_; (first | refine g_TT ?_ | refine g_FF ?_ | refine g_TF ?_ | refine g_FT ?_ | refine g_PT ?_ ?_ | refine g_PF ?_ ?_ | refine g_BT ?_ ?_ | refine g_BF ?_ ?_ | fail)) | refine m38 ?_ | fail))
    | (refine gateO ?_; (first | refine m14 ?_ | (refine m17 ?_; first | refine m19 ?_ | refine m18 ?_) | (refine m07 ?_; (first | refine m15 ?_ | refine m16 ?_ | fail)) | (refine b_binBn (by first | (conv => {lhs; whnf}; done) | exact (by exact rfl) | fail) (by first | (conv => {lhs; whnf}; done) | exact (by exact rfl) | fail) ?_; (first | refine v_bnF (by exact rfl) ?_ | refine v_bnT (by decide) ?_ | fail)) | refine b_lenA (by (conv => {lhs; whnf}); done) (by exact (aI_IL [] kr rl).len) ?_ | refine b_lenA (by (conv => {lhs; whnf}); done) (by exact (aI_IL [] kc cl).len) ?_ | refine b_lenA (by (conv => {lhs; whnf}); done) (by exact (aI_IL [] q' p).len) ?_ | refine b_lenA (by (conv => {lhs; whnf}); done) (by exact aD_len xb bl) ?_ | refine b_lenA (by (conv => {lhs; whnf}); done) (by exact aD_len xx xl) ?_ | (refine m00 ?_; (first | refine m54 ?_ | refine m55 ?_ | refine v_neP ?_ | refine m47 ?_ | refine m48 ?_ | refine m49 ?_ | refine m50 ?_ | refine v_nT ?_ | refine v_nF ?_ | refine v_nP ?_ | refine v_k ?_ | refine m51 ?_ | fail)) | (refine m22 ?_; (first | refine m26 ?_ | refine m27 ?_ | fail)) | refine m42 ?_ | refine b_assignI ?_ | refine b_assignN ?_ | refine m08 ?_ | (refine m20 ?_; (first | refine m54 ?_ | refine m55 ?_ | refine v_neP ?_ | refine m47 ?_ | refine m48 ?_ | refine m49 ?_ | refine m50 ?_ | refine v_nT ?_ | refine v_nF ?_ | refine v_nP ?_ | refine v_k ?_ | refine m51 ?_ | fail)) | refine b_callB ?_ | refine b_lenA (by (conv => {lhs; whnf}); done) (by first | rfl | assumption) ?_ | refine m23 ?_ | refine m25 ?_ | refine m01 ?_ | refine m24 ?_ | refine b_build ?_ | fail))
    | (refine gateT ?_; (first | refine b_thn ?_ | refine b_thr ?_ | refine b_the ?_ | fail))
    | (refine gateX ?_; (first | refine b_seq ?_ | refine b_region ?_ | (refine m06 ?_; (first | refine c_T ?_ | refine c_F ?_ | refine c_P ?_ ?_ | refine c_B ?_ ?_ | fail)) | refine b_ret ?_ | refine b_skip ?_ | refine b_block ?_ | refine b_exit ?_ | fail))
    | refine m21 ?_
    | refine a_nil ?_
    | (refine gateK ?_; (first | refine c_call (run_7_c _) (OldOk.app (by simp)) ?_ | refine c_call (great_f _ x l off rows cols ld hI q la ao ar ac al hJ q' p hpm (aI kr rl) rl (fun H => aI_IL H kr rl) (aI kc cl) cl (fun H => aI_IL H kc cl) hrm hcm hs) (OldOk.app (by simp)) ?_ | fail))
    | refine m58 ?_
    | refine fk_nil ?_
    | (refine gateB ?_; (first | refine b_bln ?_ | refine b_blr ?_ | refine b_ble ?_ | refine m57 ?_ | fail))
    | (refine gateL ?_; (first | refine lp_n ?_ | refine lp_r ?_ | refine lp_e ?_ | fail))
    | (refine pr_k (by exact rfl) ?_; first | exact hK | (exfalso; first | omega | (simp_all; done) | (simp_all; omega)))
    | (refine gateQ ?_; refine m05 ?_)
    | (refine gateR ?_; (first | refine m04 ?_ | refine m02 ?_ | refine m03 ?_ | refine rk_nil ?_ | fail))
    | intro _)
  all_goals first
    | (exfalso; contradiction)
    | (exfalso; omega)
    | (exfalso; simp_all; done)
    | (refine rv_old rfl (by simp [mx, mxL, resOne, aOf, aOf1]) ?_; exact rfl)
    | (exfalso; (try rw [half_cn] at *); simp_all [-hvC]; done)

set_option maxHeartbeats 4000000 in
theorem bt_i (H : List (List AV)) (x : Nat × Nat) (l : List Nat) (off rows cols ld : Int) (hI : MI l.length off rows cols ld) (q : Nat × Nat) (la : List Nat) (ao ar ac al : Int) (hJ : MI la.length ao ar ac al) (q' : Nat × Nat) (p : List Int) (hpm : p.length ≤ 9223372036854775807) (kr : Nat × Nat) (rl : List Int) (hrm : rl.length ≤ 9223372036854775807) (kc : Nat × Nat) (cl : List Int) (hcm : cl.length ≤ 9223372036854775807) (xx : Nat × Nat) (xl : List Nat) (hxm : xl.length ≤ 9223372036854775807) (xb : Nat × Nat) (bl : List Nat) (hbm : bl.length ≤ 9223372036854775807) (most : Int) (hs : (l.length ≤ 1000 ∧ rows ≤ 20 ∧ cols ≤ 20 ∧ la.length ≤ 1000 ∧ ar ≤ 20 ∧ ac ≤ 20 ∧ p.length ≤ 60 ∧ rl.length ≤ 60 ∧ cl.length ≤ 60)) (hb : bl.length ≤ 60) (hx : ¬ xl.length ≤ 60) :
    Spec Try.prog 5 [mt (aD x l) off rows cols ld, .agg [aD q la, .int .i64 ao, .int .i64 ar, .int .i64 ac, .int .i64 al, aI q' p], aI kr rl, aI kc cl, aD xx xl, aD xb bl, .int .i64 most] H (.bool true) H := by
  obtain ⟨hm, ho1, ho2, hr1, hr2, hc1, hc2, hl1, hl2⟩ := id hI
  obtain ⟨hm', ho1', ho2', hr1', hr2', hc1', hc2', hl1', hl2'⟩ := id hJ
  refine (Spec.intro' (fn := Try.f5) Try.func5 rfl (by kernel_rfl) (by simp) false [] (draw := drawX Try.prog ⟨false, _, []⟩) dOk ?_)
  simp only [argE, Nat.reduceAdd]
  repeat' (first
    | (refine gateE ?_; (first | refine b_c0 ?_ | refine b_nil ?_ | refine m13 ?_ | refine m12 ?_ | refine m11 ?_ | (refine m10 ?_; (first | refine g_TT ?_ | refine g_FF ?_ | refine g_TF ?_ | refine g_FT ?_ | refine g_PT ?_ ?_ | refine g_PF ?_ ?_ | refine g_BT ?_ ?_ | refine g_BF ?_ ?_ | fail)) | (refine m09 ?_; (first | refine g_TT ?_ | refine g_FF ?_ | refine g_TF ?_ | refine g_FT ?_ | refine g_PT ?_ ?_ | refine g_PF ?_ ?_ | refine g_BT ?_ ?_ | refine g_BF ?_ ?_ | fail)) | refine m38 ?_ | fail))
    | (refine gateO ?_; (first | refine m14 ?_ | (refine m17 ?_; first | refine m19 ?_ | refine m18 ?_) | (refine m07 ?_; (first | refine m15 ?_ | refine m16 ?_ | fail)) | (refine b_binBn (by first | (conv => {lhs; whnf}; done) | exact (by exact rfl) | fail) (by first | (conv => {lhs; whnf}; done) | exact (by exact rfl) | fail) ?_; (first | refine v_bnF (by exact rfl) ?_ | refine v_bnT (by decide) ?_ | fail)) | refine b_lenA (by (conv => {lhs; whnf}); done) (by exact (aI_IL [] kr rl).len) ?_ | refine b_lenA (by (conv => {lhs; whnf}); done) (by exact (aI_IL [] kc cl).len) ?_ | refine b_lenA (by (conv => {lhs; whnf}); done) (by exact (aI_IL [] q' p).len) ?_ | refine b_lenA (by (conv => {lhs; whnf}); done) (by exact aD_len xb bl) ?_ | refine b_lenA (by (conv => {lhs; whnf}); done) (by exact aD_len xx xl) ?_ | (refine m00 ?_; (first | refine m54 ?_ | refine m55 ?_ | refine v_neP ?_ | refine m47 ?_ | refine m48 ?_ | refine m49 ?_ | refine m50 ?_ | refine v_nT ?_ | refine v_nF ?_ | refine v_nP ?_ | refine v_k ?_ | refine m51 ?_ | fail)) | (refine m22 ?_; (first | refine m26 ?_ | refine m27 ?_ | fail)) | refine m42 ?_ | refine b_assignI ?_ | refine b_assignN ?_ | refine m08 ?_ | (refine m20 ?_; (first | refine m54 ?_ | refine m55 ?_ | refine v_neP ?_ | refine m47 ?_ | refine m48 ?_ | refine m49 ?_ | refine m50 ?_ | refine v_nT ?_ | refine v_nF ?_ | refine v_nP ?_ | refine v_k ?_ | refine m51 ?_ | fail)) | refine b_callB ?_ | refine b_lenA (by (conv => {lhs; whnf}); done) (by first | rfl | assumption) ?_ | refine m23 ?_ | refine m25 ?_ | refine m01 ?_ | refine m24 ?_ | refine b_build ?_ | fail))
    | (refine gateT ?_; (first | refine b_thn ?_ | refine b_thr ?_ | refine b_the ?_ | fail))
    | (refine gateX ?_; (first | refine b_seq ?_ | refine b_region ?_ | (refine m06 ?_; (first | refine c_T ?_ | refine c_F ?_ | refine c_P ?_ ?_ | refine c_B ?_ ?_ | fail)) | refine b_ret ?_ | refine b_skip ?_ | refine b_block ?_ | refine b_exit ?_ | fail))
    | refine m21 ?_
    | refine a_nil ?_
    | (refine gateK ?_; (first | refine c_call (run_7_c _) (OldOk.app (by simp)) ?_ | refine c_call (great_f _ x l off rows cols ld hI q la ao ar ac al hJ q' p hpm (aI kr rl) rl (fun H => aI_IL H kr rl) (aI kc cl) cl (fun H => aI_IL H kc cl) hrm hcm hs) (OldOk.app (by simp)) ?_ | fail))
    | refine m58 ?_
    | refine fk_nil ?_
    | (refine gateB ?_; (first | refine b_bln ?_ | refine b_blr ?_ | refine b_ble ?_ | refine m57 ?_ | fail))
    | (refine gateL ?_; (first | refine lp_n ?_ | refine lp_r ?_ | refine lp_e ?_ | fail))
    | (refine pr_k (by exact rfl) ?_; first | exact hK | (exfalso; first | omega | (simp_all; done) | (simp_all; omega)))
    | (refine gateQ ?_; refine m05 ?_)
    | (refine gateR ?_; (first | refine m04 ?_ | refine m02 ?_ | refine m03 ?_ | refine rk_nil ?_ | fail))
    | intro _)
  all_goals first
    | (exfalso; contradiction)
    | (exfalso; omega)
    | (exfalso; simp_all; done)
    | (refine rv_old rfl (by simp [mx, mxL, resOne, aOf, aOf1]) ?_; exact rfl)
    | (exfalso; (try rw [half_cn] at *); simp_all [-hvC]; done)

set_option maxHeartbeats 4000000 in
theorem bt_1 (H : List (List AV)) (x : Nat × Nat) (l : List Nat) (off rows cols ld : Int) (hI : MI l.length off rows cols ld) (q : Nat × Nat) (la : List Nat) (ao ar ac al : Int) (hJ : MI la.length ao ar ac al) (q' : Nat × Nat) (p : List Int) (hpm : p.length ≤ 9223372036854775807) (kr : Nat × Nat) (rl : List Int) (hrm : rl.length ≤ 9223372036854775807) (kc : Nat × Nat) (cl : List Int) (hcm : cl.length ≤ 9223372036854775807) (xx : Nat × Nat) (xl : List Nat) (hxm : xl.length ≤ 9223372036854775807) (xb : Nat × Nat) (bl : List Nat) (hbm : bl.length ≤ 9223372036854775807) (most : Int) (hs : (l.length ≤ 1000 ∧ rows ≤ 20 ∧ cols ≤ 20 ∧ la.length ≤ 1000 ∧ ar ≤ 20 ∧ ac ≤ 20 ∧ p.length ≤ 60 ∧ rl.length ≤ 60 ∧ cl.length ≤ 60)) (hb : bl.length ≤ 60) (hx : xl.length ≤ 60) (hbad : ¬ (GoodP l.length off rows cols ld ∧ (GoodP la.length ao ar ac al ∧ ar = ac ∧ ar = (p.length : Int) ∧ pivP p))) :
    Spec Try.prog 5 [mt (aD x l) off rows cols ld, .agg [aD q la, .int .i64 ao, .int .i64 ar, .int .i64 ac, .int .i64 al, aI q' p], aI kr rl, aI kc cl, aD xx xl, aD xb bl, .int .i64 most] H (.bool true) H := by
  obtain ⟨hm, ho1, ho2, hr1, hr2, hc1, hc2, hl1, hl2⟩ := id hI
  obtain ⟨hm', ho1', ho2', hr1', hr2', hc1', hc2', hl1', hl2'⟩ := id hJ
  refine (Spec.intro' (fn := Try.f5) Try.func5 rfl (by kernel_rfl) (by simp) false [] (draw := drawX Try.prog ⟨false, _, []⟩) dOk ?_)
  simp only [argE, Nat.reduceAdd]
  repeat' (first
    | (refine gateE ?_; (first | refine b_c0 ?_ | refine b_nil ?_ | refine m13 ?_ | refine m12 ?_ | refine m11 ?_ | (refine m10 ?_; (first | refine g_TT ?_ | refine g_FF ?_ | refine g_TF ?_ | refine g_FT ?_ | refine g_PT ?_ ?_ | refine g_PF ?_ ?_ | refine g_BT ?_ ?_ | refine g_BF ?_ ?_ | fail)) | (refine m09 ?_; (first | refine g_TT ?_ | refine g_FF ?_ | refine g_TF ?_ | refine g_FT ?_ | refine g_PT ?_ ?_ | refine g_PF ?_ ?_ | refine g_BT ?_ ?_ | refine g_BF ?_ ?_ | fail)) | refine m38 ?_ | fail))
    | (refine gateO ?_; (first | refine m14 ?_ | (refine m17 ?_; first | refine m19 ?_ | refine m18 ?_) | (refine m07 ?_; (first | refine m15 ?_ | refine m16 ?_ | fail)) | (refine b_binBn (by first | (conv => {lhs; whnf}; done) | exact (by exact rfl) | fail) (by first | (conv => {lhs; whnf}; done) | exact (by exact rfl) | fail) ?_; (first | refine v_bnF (by exact rfl) ?_ | refine v_bnT (by decide) ?_ | fail)) | refine b_lenA (by (conv => {lhs; whnf}); done) (by exact (aI_IL [] kr rl).len) ?_ | refine b_lenA (by (conv => {lhs; whnf}); done) (by exact (aI_IL [] kc cl).len) ?_ | refine b_lenA (by (conv => {lhs; whnf}); done) (by exact (aI_IL [] q' p).len) ?_ | refine b_lenA (by (conv => {lhs; whnf}); done) (by exact aD_len xb bl) ?_ | refine b_lenA (by (conv => {lhs; whnf}); done) (by exact aD_len xx xl) ?_ | (refine m00 ?_; (first | refine m54 ?_ | refine m55 ?_ | refine v_neP ?_ | refine m47 ?_ | refine m48 ?_ | refine m49 ?_ | refine m50 ?_ | refine v_nT ?_ | refine v_nF ?_ | refine v_nP ?_ | refine v_k ?_ | refine m51 ?_ | fail)) | (refine m22 ?_; (first | refine m26 ?_ | refine m27 ?_ | fail)) | refine m42 ?_ | refine b_assignI ?_ | refine b_assignN ?_ | refine m08 ?_ | (refine m20 ?_; (first | refine m54 ?_ | refine m55 ?_ | refine v_neP ?_ | refine m47 ?_ | refine m48 ?_ | refine m49 ?_ | refine m50 ?_ | refine v_nT ?_ | refine v_nF ?_ | refine v_nP ?_ | refine v_k ?_ | refine m51 ?_ | fail)) | refine b_callB ?_ | refine b_lenA (by (conv => {lhs; whnf}); done) (by first | rfl | assumption) ?_ | refine m23 ?_ | refine m25 ?_ | refine m01 ?_ | refine m24 ?_ | refine b_build ?_ | fail))
    | (refine gateT ?_; (first | refine b_thn ?_ | refine b_thr ?_ | refine b_the ?_ | fail))
    | (refine gateX ?_; (first | refine b_seq ?_ | refine b_region ?_ | (refine m06 ?_; (first | refine c_T ?_ | refine c_F ?_ | refine c_P ?_ ?_ | refine c_B ?_ ?_ | fail)) | refine b_ret ?_ | refine b_skip ?_ | refine b_block ?_ | refine b_exit ?_ | fail))
    | refine m21 ?_
    | refine a_nil ?_
    | (refine gateK ?_; (first | refine c_call (run_7_c _) (OldOk.app (by simp)) ?_ | refine c_call (great_f _ x l off rows cols ld hI q la ao ar ac al hJ q' p hpm (aI kr rl) rl (fun H => aI_IL H kr rl) (aI kc cl) cl (fun H => aI_IL H kc cl) hrm hcm hs) (OldOk.app (by simp)) ?_ | refine c_call (ref_e _ _ _ _ _ _ _ _ _ _ _ _ (aI kr rl) (aI kc cl) (by exact rfl) (by exact rfl) _ xl.length (by exact rfl) (aD xb bl) bl.length (aD_len xb bl) _ 1 (by decide) (fun N => check_1 _ x l off rows cols ld hI q la ao ar ac al hJ q' p (by omega) (aI kr rl) rl (fun H => aI_IL H kr rl) (aI kc cl) cl (fun H => aI_IL H kc cl) hbad)) (OldOk.app (by simp)) ?_ | fail))
    | refine m58 ?_
    | refine fk_nil ?_
    | (refine gateB ?_; (first | refine b_bln ?_ | refine b_blr ?_ | refine b_ble ?_ | refine m57 ?_ | fail))
    | (refine gateL ?_; (first | refine lp_n ?_ | refine lp_r ?_ | refine lp_e ?_ | fail))
    | (refine pr_k (by exact rfl) ?_; first | exact hK | (exfalso; first | omega | (simp_all; done) | (simp_all; omega)))
    | (refine gateQ ?_; refine m05 ?_)
    | (refine gateR ?_; (first | refine m04 ?_ | refine m02 ?_ | refine m03 ?_ | refine rk_nil ?_ | fail))
    | intro _)
  all_goals first
    | (exfalso; contradiction)
    | (exfalso; omega)
    | (exfalso; simp_all; done)
    | (refine rv_old rfl (by simp [mx, mxL, resOne, aOf, aOf1]) ?_; exact rfl)
    | (exfalso; (try rw [half_cn] at *); simp_all [-hvC]; done)

set_option maxHeartbeats 4000000 in
theorem bt_3 (H : List (List AV)) (x : Nat × Nat) (l : List Nat) (off rows cols ld : Int) (hI : MI l.length off rows cols ld) (q : Nat × Nat) (la : List Nat) (ao ar ac al : Int) (hJ : MI la.length ao ar ac al) (q' : Nat × Nat) (p : List Int) (hpm : p.length ≤ 9223372036854775807) (kr : Nat × Nat) (rl : List Int) (hrm : rl.length ≤ 9223372036854775807) (kc : Nat × Nat) (cl : List Int) (hcm : cl.length ≤ 9223372036854775807) (xx : Nat × Nat) (xl : List Nat) (hxm : xl.length ≤ 9223372036854775807) (xb : Nat × Nat) (bl : List Nat) (hbm : bl.length ≤ 9223372036854775807) (most : Int) (hs : (l.length ≤ 1000 ∧ rows ≤ 20 ∧ cols ≤ 20 ∧ la.length ≤ 1000 ∧ ar ≤ 20 ∧ ac ≤ 20 ∧ p.length ≤ 60 ∧ rl.length ≤ 60 ∧ cl.length ≤ 60)) (hb : bl.length ≤ 60) (hx : xl.length ≤ 60) (hg : GoodP l.length off rows cols ld) (hr : (GoodP la.length ao ar ac al ∧ ar = ac ∧ ar = (p.length : Int) ∧ pivP p)) (hz9 : ¬ (cols = rows ∧ 1 ≤ rows ∧ rows ≤ 64 ∧ ar = rows ∧ (rl.length : Int) = rows ∧ (cl.length : Int) = rows)) :
    Spec Try.prog 5 [mt (aD x l) off rows cols ld, .agg [aD q la, .int .i64 ao, .int .i64 ar, .int .i64 ac, .int .i64 al, aI q' p], aI kr rl, aI kc cl, aD xx xl, aD xb bl, .int .i64 most] H (.bool true) H := by
  obtain ⟨hm, ho1, ho2, hr1, hr2, hc1, hc2, hl1, hl2⟩ := id hI
  obtain ⟨hm', ho1', ho2', hr1', hr2', hc1', hc2', hl1', hl2'⟩ := id hJ
  refine (Spec.intro' (fn := Try.f5) Try.func5 rfl (by kernel_rfl) (by simp) false [] (draw := drawX Try.prog ⟨false, _, []⟩) dOk ?_)
  simp only [argE, Nat.reduceAdd]
  repeat' (first
    | (refine gateE ?_; (first | refine b_c0 ?_ | refine b_nil ?_ | refine m13 ?_ | refine m12 ?_ | refine m11 ?_ | (refine m10 ?_; (first | refine g_TT ?_ | refine g_FF ?_ | refine g_TF ?_ | refine g_FT ?_ | refine g_PT ?_ ?_ | refine g_PF ?_ ?_ | refine g_BT ?_ ?_ | refine g_BF ?_ ?_ | fail)) | (refine m09 ?_; (first | refine g_TT ?_ | refine g_FF ?_ | refine g_TF ?_ | refine g_FT ?_ | refine g_PT ?_ ?_ | refine g_PF ?_ ?_ | refine g_BT ?_ ?_ | refine g_BF ?_ ?_ | fail)) | refine m38 ?_ | fail))
    | (refine gateO ?_; (first | refine m14 ?_ | (refine m17 ?_; first | refine m19 ?_ | refine m18 ?_) | (refine m07 ?_; (first | refine m15 ?_ | refine m16 ?_ | fail)) | (refine b_binBn (by first | (conv => {lhs; whnf}; done) | exact (by exact rfl) | fail) (by first | (conv => {lhs; whnf}; done) | exact (by exact rfl) | fail) ?_; (first | refine v_bnF (by exact rfl) ?_ | refine v_bnT (by decide) ?_ | fail)) | refine b_lenA (by (conv => {lhs; whnf}); done) (by exact (aI_IL [] kr rl).len) ?_ | refine b_lenA (by (conv => {lhs; whnf}); done) (by exact (aI_IL [] kc cl).len) ?_ | refine b_lenA (by (conv => {lhs; whnf}); done) (by exact (aI_IL [] q' p).len) ?_ | refine b_lenA (by (conv => {lhs; whnf}); done) (by exact aD_len xb bl) ?_ | refine b_lenA (by (conv => {lhs; whnf}); done) (by exact aD_len xx xl) ?_ | (refine m00 ?_; (first | refine m54 ?_ | refine m55 ?_ | refine v_neP ?_ | refine m47 ?_ | refine m48 ?_ | refine m49 ?_ | refine m50 ?_ | refine v_nT ?_ | refine v_nF ?_ | refine v_nP ?_ | refine v_k ?_ | refine m51 ?_ | fail)) | (refine m22 ?_; (first | refine m26 ?_ | refine m27 ?_ | fail)) | refine m42 ?_ | refine b_assignI ?_ | refine b_assignN ?_ | refine m08 ?_ | (refine m20 ?_; (first | refine m54 ?_ | refine m55 ?_ | refine v_neP ?_ | refine m47 ?_ | refine m48 ?_ | refine m49 ?_ | refine m50 ?_ | refine v_nT ?_ | refine v_nF ?_ | refine v_nP ?_ | refine v_k ?_ | refine m51 ?_ | fail)) | refine b_callB ?_ | refine b_lenA (by (conv => {lhs; whnf}); done) (by first | rfl | assumption) ?_ | refine m23 ?_ | refine m25 ?_ | refine m01 ?_ | refine m24 ?_ | refine b_build ?_ | fail))
    | (refine gateT ?_; (first | refine b_thn ?_ | refine b_thr ?_ | refine b_the ?_ | fail))
    | (refine gateX ?_; (first | refine b_seq ?_ | refine b_region ?_ | (refine m06 ?_; (first | refine c_T ?_ | refine c_F ?_ | refine c_P ?_ ?_ | refine c_B ?_ ?_ | fail)) | refine b_ret ?_ | refine b_skip ?_ | refine b_block ?_ | refine b_exit ?_ | fail))
    | refine m21 ?_
    | refine a_nil ?_
    | (refine gateK ?_; (first | refine c_call (run_7_c _) (OldOk.app (by simp)) ?_ | refine c_call (great_f _ x l off rows cols ld hI q la ao ar ac al hJ q' p hpm (aI kr rl) rl (fun H => aI_IL H kr rl) (aI kc cl) cl (fun H => aI_IL H kc cl) hrm hcm hs) (OldOk.app (by simp)) ?_ | refine c_call (ref_e _ _ _ _ _ _ _ _ _ _ _ _ (aI kr rl) (aI kc cl) (by exact rfl) (by exact rfl) _ xl.length (by exact rfl) (aD xb bl) bl.length (aD_len xb bl) _ 3 (by decide) (fun N => check_3 _ x l off rows cols ld hI q la ao ar ac al hJ q' p (by omega) (aI kr rl) rl (fun H => aI_IL H kr rl) (aI kc cl) cl (fun H => aI_IL H kc cl) hg hr hz9)) (OldOk.app (by simp)) ?_ | fail))
    | refine m58 ?_
    | refine fk_nil ?_
    | (refine gateB ?_; (first | refine b_bln ?_ | refine b_blr ?_ | refine b_ble ?_ | refine m57 ?_ | fail))
    | (refine gateL ?_; (first | refine lp_n ?_ | refine lp_r ?_ | refine lp_e ?_ | fail))
    | (refine pr_k (by exact rfl) ?_; first | exact hK | (exfalso; first | omega | (simp_all; done) | (simp_all; omega)))
    | (refine gateQ ?_; refine m05 ?_)
    | (refine gateR ?_; (first | refine m04 ?_ | refine m02 ?_ | refine m03 ?_ | refine rk_nil ?_ | fail))
    | intro _)
  all_goals first
    | (exfalso; contradiction)
    | (exfalso; omega)
    | (exfalso; simp_all; done)
    | (refine rv_old rfl (by simp [mx, mxL, resOne, aOf, aOf1]) ?_; exact rfl)
    | (exfalso; (try rw [half_cn] at *); simp_all [-hvC]; done)

set_option maxHeartbeats 4000000 in
theorem bt_4 (H : List (List AV)) (x : Nat × Nat) (l : List Nat) (off ld : Int) (n : Nat) (hI : MI l.length off n n ld) (hG : GoodP l.length off n n ld) (q : Nat × Nat) (la : List Nat) (ao al : Int) (hJ : MI la.length ao n n al) (hGa : GoodP la.length ao n n al) (q' : Nat × Nat) (p : List Int) (hpm : p.length ≤ 9223372036854775807) (hpl : p.length = n) (hpv : pivP p) (kr : Nat × Nat) (rl : List Int) (hrm : rl.length ≤ 9223372036854775807) (kc : Nat × Nat) (cl : List Int) (hcm : cl.length ≤ 9223372036854775807) (hrl : rl.length = n) (hcl : cl.length = n) (hn1 : 1 ≤ n) (hn : n ≤ 64) (xx : Nat × Nat) (xl : List Nat) (hxm : xl.length ≤ 9223372036854775807) (xb : Nat × Nat) (bl : List Nat) (hbm : bl.length ≤ 9223372036854775807) (most : Int) (hs : (l.length ≤ 1000 ∧ (n : Int) ≤ 20 ∧ (n : Int) ≤ 20 ∧ la.length ≤ 1000 ∧ (n : Int) ≤ 20 ∧ (n : Int) ≤ 20 ∧ p.length ≤ 60 ∧ rl.length ≤ 60 ∧ cl.length ≤ 60)) (hb : bl.length ≤ 60) (hx : xl.length ≤ 60) (z : Nat) (hzn : z < n) (hz : ∀ k, k < z → feq ((mel la ao al) k k) 0 = false) (hz1 : feq ((mel la ao al) z z) 0 = true) :
    Spec Try.prog 5 [mt (aD x l) off (n : Int) (n : Int) ld, .agg [aD q la, .int .i64 ao, .int .i64 (n : Int), .int .i64 (n : Int), .int .i64 al, aI q' p], aI kr rl, aI kc cl, aD xx xl, aD xb bl, .int .i64 most] H (.bool true) H := by
  obtain ⟨hm, ho1, ho2, hr1, hr2, hc1, hc2, hl1, hl2⟩ := id hI
  obtain ⟨hm', ho1', ho2', hr1', hr2', hc1', hc2', hl1', hl2'⟩ := id hJ
  refine (Spec.intro' (fn := Try.f5) Try.func5 rfl (by kernel_rfl) (by simp) false [] (draw := drawX Try.prog ⟨false, _, []⟩) dOk ?_)
  simp only [argE, Nat.reduceAdd]
  repeat' (first
    | (refine gateE ?_; (first | refine b_c0 ?_ | refine b_nil ?_ | refine m13 ?_ | refine m12 ?_ | refine m11 ?_ | (refine m10 ?_; (first | refine g_TT ?_ | refine g_FF ?_ | refine g_TF ?_ | refine g_FT ?_ | refine g_PT ?_ ?_ | refine g_PF ?_ ?_ | refine g_BT ?_ ?_ | refine g_BF ?_ ?_ | fail)) | (refine m09 ?_; (first | refine g_TT ?_ | refine g_FF ?_ | refine g_TF ?_ | refine g_FT ?_ | refine g_PT ?_ ?_ | refine g_PF ?_ ?_ | refine g_BT ?_ ?_ | refine g_BF ?_ ?_ | fail)) | refine m38 ?_ | fail))
    | (refine gateO ?_; (first | refine m14 ?_ | (refine m17 ?_; first | refine m19 ?_ | refine m18 ?_) | (refine m07 ?_; (first | refine m15 ?_ | refine m16 ?_ | fail)) | (refine b_binBn (by first | (conv => {lhs; whnf}; done) | exact (by exact rfl) | fail) (by first | (conv => {lhs; whnf}; done) | exact (by exact rfl) | fail) ?_; (first | refine v_bnF (by exact rfl) ?_ | refine v_bnT (by decide) ?_ | fail)) | refine b_lenA (by (conv => {lhs; whnf}); done) (by exact (aI_IL [] kr rl).len) ?_ | refine b_lenA (by (conv => {lhs; whnf}); done) (by exact (aI_IL [] kc cl).len) ?_ | refine b_lenA (by (conv => {lhs; whnf}); done) (by exact (aI_IL [] q' p).len) ?_ | refine b_lenA (by (conv => {lhs; whnf}); done) (by exact aD_len xb bl) ?_ | refine b_lenA (by (conv => {lhs; whnf}); done) (by exact aD_len xx xl) ?_ | (refine m00 ?_; (first | refine m54 ?_ | refine m55 ?_ | refine v_neP ?_ | refine m47 ?_ | refine m48 ?_ | refine m49 ?_ | refine m50 ?_ | refine v_nT ?_ | refine v_nF ?_ | refine v_nP ?_ | refine v_k ?_ | refine m51 ?_ | fail)) | (refine m22 ?_; (first | refine m26 ?_ | refine m27 ?_ | fail)) | refine m42 ?_ | refine b_assignI ?_ | refine b_assignN ?_ | refine m08 ?_ | (refine m20 ?_; (first | refine m54 ?_ | refine m55 ?_ | refine v_neP ?_ | refine m47 ?_ | refine m48 ?_ | refine m49 ?_ | refine m50 ?_ | refine v_nT ?_ | refine v_nF ?_ | refine v_nP ?_ | refine v_k ?_ | refine m51 ?_ | fail)) | refine b_callB ?_ | refine b_lenA (by (conv => {lhs; whnf}); done) (by first | rfl | assumption) ?_ | refine m23 ?_ | refine m25 ?_ | refine m01 ?_ | refine m24 ?_ | refine b_build ?_ | fail))
    | (refine gateT ?_; (first | refine b_thn ?_ | refine b_thr ?_ | refine b_the ?_ | fail))
    | (refine gateX ?_; (first | refine b_seq ?_ | refine b_region ?_ | (refine m06 ?_; (first | refine c_T ?_ | refine c_F ?_ | refine c_P ?_ ?_ | refine c_B ?_ ?_ | fail)) | refine b_ret ?_ | refine b_skip ?_ | refine b_block ?_ | refine b_exit ?_ | fail))
    | refine m21 ?_
    | refine a_nil ?_
    | (refine gateK ?_; (first | refine c_call (run_7_c _) (OldOk.app (by simp)) ?_ | refine c_call (great_f _ x l off n n ld hI q la ao n n al hJ q' p hpm (aI kr rl) rl (fun H => aI_IL H kr rl) (aI kc cl) cl (fun H => aI_IL H kc cl) hrm hcm hs) (OldOk.app (by simp)) ?_ | refine c_call (ref_e _ _ _ _ _ _ _ _ _ _ _ _ (aI kr rl) (aI kc cl) (by exact rfl) (by exact rfl) _ xl.length (by exact rfl) (aD xb bl) bl.length (aD_len xb bl) _ 4 (by decide) (fun N => check_4 _ x l off ld n hI hG q la ao al hJ hGa q' p hpl hpv (aI kr rl) rl (fun H => aI_IL H kr rl) (aI kc cl) cl (fun H => aI_IL H kc cl) hrl hcl hn1 hn z hzn hz hz1)) (OldOk.app (by simp)) ?_ | fail))
    | refine m58 ?_
    | refine fk_nil ?_
    | (refine gateB ?_; (first | refine b_bln ?_ | refine b_blr ?_ | refine b_ble ?_ | refine m57 ?_ | fail))
    | (refine gateL ?_; (first | refine lp_n ?_ | refine lp_r ?_ | refine lp_e ?_ | fail))
    | (refine pr_k (by exact rfl) ?_; first | exact hK | (exfalso; first | omega | (simp_all; done) | (simp_all; omega)))
    | (refine gateQ ?_; refine m05 ?_)
    | (refine gateR ?_; (first | refine m04 ?_ | refine m02 ?_ | refine m03 ?_ | refine rk_nil ?_ | fail))
    | intro _)
  all_goals first
    | (exfalso; contradiction)
    | (exfalso; omega)
    | (exfalso; simp_all; done)
    | (refine rv_old rfl (by simp [mx, mxL, resOne, aOf, aOf1]) ?_; exact rfl)
    | (exfalso; (try rw [half_cn] at *); simp_all [-hvC]; done)

set_option maxHeartbeats 4000000 in
theorem bt_x (H : List (List AV)) (x : Nat × Nat) (l : List Nat) (off ld : Int) (n : Nat) (hI : MI l.length off n n ld) (hG : GoodP l.length off n n ld) (q : Nat × Nat) (la : List Nat) (ao al : Int) (hJ : MI la.length ao n n al) (hGa : GoodP la.length ao n n al) (q' : Nat × Nat) (p : List Int) (hpm : p.length ≤ 9223372036854775807) (hpl : p.length = n) (hpv : pivP p) (kr : Nat × Nat) (rl : List Int) (hrm : rl.length ≤ 9223372036854775807) (kc : Nat × Nat) (cl : List Int) (hcm : cl.length ≤ 9223372036854775807) (hrl : rl.length = n) (hcl : cl.length = n) (hn1 : 1 ≤ n) (hn : n ≤ 64) (xx : Nat × Nat) (xl : List Nat) (hxm : xl.length ≤ 9223372036854775807) (xb : Nat × Nat) (bl : List Nat) (hbm : bl.length ≤ 9223372036854775807) (most : Int) (hs : (l.length ≤ 1000 ∧ (n : Int) ≤ 20 ∧ (n : Int) ≤ 20 ∧ la.length ≤ 1000 ∧ (n : Int) ≤ 20 ∧ (n : Int) ≤ 20 ∧ p.length ≤ 60 ∧ rl.length ≤ 60 ∧ cl.length ≤ 60)) (hb : bl.length ≤ 60) (hx : xl.length ≤ 60) (hz : ∀ k, k < n → feq ((mel la ao al) k k) 0 = false) (hxl : xl.length ≠ n) :
    Spec Try.prog 5 [mt (aD x l) off (n : Int) (n : Int) ld, .agg [aD q la, .int .i64 ao, .int .i64 (n : Int), .int .i64 (n : Int), .int .i64 al, aI q' p], aI kr rl, aI kc cl, aD xx xl, aD xb bl, .int .i64 most] H (.bool true) H := by
  obtain ⟨hm, ho1, ho2, hr1, hr2, hc1, hc2, hl1, hl2⟩ := id hI
  obtain ⟨hm', ho1', ho2', hr1', hr2', hc1', hc2', hl1', hl2'⟩ := id hJ
  refine (Spec.intro' (fn := Try.f5) Try.func5 rfl (by kernel_rfl) (by simp) false [] (draw := drawX Try.prog ⟨false, _, []⟩) dOk ?_)
  simp only [argE, Nat.reduceAdd]
  repeat' (first
    | (refine gateE ?_; (first | refine b_c0 ?_ | refine b_nil ?_ | refine m13 ?_ | refine m12 ?_ | refine m11 ?_ | (refine m10 ?_; (first | refine g_TT ?_ | refine g_FF ?_ | refine g_TF ?_ | refine g_FT ?_ | refine g_PT ?_ ?_ | refine g_PF ?_ ?_ | refine g_BT ?_ ?_ | refine g_BF ?_ ?_ | fail)) | (refine m09 ?_; (first | refine g_TT ?_ | refine g_FF ?_ | refine g_TF ?_ | refine g_FT ?_ | refine g_PT ?_ ?_ | refine g_PF ?_ ?_ | refine g_BT ?_ ?_ | refine g_BF ?_ ?_ | fail)) | refine m38 ?_ | fail))
    | (refine gateO ?_; (first | refine m14 ?_ | (refine m17 ?_; first | refine m19 ?_ | refine m18 ?_) | (refine m07 ?_; (first | refine m15 ?_ | refine m16 ?_ | fail)) | (refine b_binBn (by first | (conv => {lhs; whnf}; done) | exact (by exact rfl) | fail) (by first | (conv => {lhs; whnf}; done) | exact (by exact rfl) | fail) ?_; (first | refine v_bnF (by exact rfl) ?_ | refine v_bnT (by decide) ?_ | fail)) | refine b_lenA (by (conv => {lhs; whnf}); done) (by exact (aI_IL [] kr rl).len) ?_ | refine b_lenA (by (conv => {lhs; whnf}); done) (by exact (aI_IL [] kc cl).len) ?_ | refine b_lenA (by (conv => {lhs; whnf}); done) (by exact (aI_IL [] q' p).len) ?_ | refine b_lenA (by (conv => {lhs; whnf}); done) (by exact aD_len xb bl) ?_ | refine b_lenA (by (conv => {lhs; whnf}); done) (by exact aD_len xx xl) ?_ | (refine m00 ?_; (first | refine m54 ?_ | refine m55 ?_ | refine v_neP ?_ | refine m47 ?_ | refine m48 ?_ | refine m49 ?_ | refine m50 ?_ | refine v_nT ?_ | refine v_nF ?_ | refine v_nP ?_ | refine v_k ?_ | refine m51 ?_ | fail)) | (refine m22 ?_; (first | refine m26 ?_ | refine m27 ?_ | fail)) | refine m42 ?_ | refine b_assignI ?_ | refine b_assignN ?_ | refine m08 ?_ | (refine m20 ?_; (first | refine m54 ?_ | refine m55 ?_ | refine v_neP ?_ | refine m47 ?_ | refine m48 ?_ | refine m49 ?_ | refine m50 ?_ | refine v_nT ?_ | refine v_nF ?_ | refine v_nP ?_ | refine v_k ?_ | refine m51 ?_ | fail)) | refine b_callB ?_ | refine b_lenA (by (conv => {lhs; whnf}); done) (by first | rfl | assumption) ?_ | refine m23 ?_ | refine m25 ?_ | refine m01 ?_ | refine m24 ?_ | refine b_build ?_ | fail))
    | (refine gateT ?_; (first | refine b_thn ?_ | refine b_thr ?_ | refine b_the ?_ | fail))
    | (refine gateX ?_; (first | refine b_seq ?_ | refine b_region ?_ | (refine m06 ?_; (first | refine c_T ?_ | refine c_F ?_ | refine c_P ?_ ?_ | refine c_B ?_ ?_ | fail)) | refine b_ret ?_ | refine b_skip ?_ | refine b_block ?_ | refine b_exit ?_ | fail))
    | refine m21 ?_
    | refine a_nil ?_
    | (refine gateK ?_; (first | refine c_call (run_7_c _) (OldOk.app (by simp)) ?_ | refine c_call (great_f _ x l off n n ld hI q la ao n n al hJ q' p hpm (aI kr rl) rl (fun H => aI_IL H kr rl) (aI kc cl) cl (fun H => aI_IL H kc cl) hrm hcm hs) (OldOk.app (by simp)) ?_ | refine c_call (ref_x _ x l off ld n hI hG q la ao al hJ hGa q' p hpl hpv (aI kr rl) rl (fun H => aI_IL H kr rl) (aI kc cl) cl (fun H => aI_IL H kc cl) hrl hcl hn1 hn hz _ xl.length (by exact rfl) (aD xb bl) bl.length (aD_len xb bl) _ hxl) (OldOk.app (by simp)) ?_ | fail))
    | refine m58 ?_
    | refine fk_nil ?_
    | (refine gateB ?_; (first | refine b_bln ?_ | refine b_blr ?_ | refine b_ble ?_ | refine m57 ?_ | fail))
    | (refine gateL ?_; (first | refine lp_n ?_ | refine lp_r ?_ | refine lp_e ?_ | fail))
    | (refine pr_k (by exact rfl) ?_; first | exact hK | (exfalso; first | omega | (simp_all; done) | (simp_all; omega)))
    | (refine gateQ ?_; refine m05 ?_)
    | (refine gateR ?_; (first | refine m04 ?_ | refine m02 ?_ | refine m03 ?_ | refine rk_nil ?_ | fail))
    | intro _)
  all_goals first
    | (exfalso; contradiction)
    | (exfalso; omega)
    | (exfalso; simp_all; done)
    | (refine rv_old rfl (by simp [mx, mxL, resOne, aOf, aOf1]) ?_; exact rfl)
    | (exfalso; (try rw [half_cn] at *); simp_all [-hvC]; done)

set_option maxHeartbeats 4000000 in
theorem bt_y (H : List (List AV)) (x : Nat × Nat) (l : List Nat) (off ld : Int) (n : Nat) (hI : MI l.length off n n ld) (hG : GoodP l.length off n n ld) (q : Nat × Nat) (la : List Nat) (ao al : Int) (hJ : MI la.length ao n n al) (hGa : GoodP la.length ao n n al) (q' : Nat × Nat) (p : List Int) (hpm : p.length ≤ 9223372036854775807) (hpl : p.length = n) (hpv : pivP p) (kr : Nat × Nat) (rl : List Int) (hrm : rl.length ≤ 9223372036854775807) (kc : Nat × Nat) (cl : List Int) (hcm : cl.length ≤ 9223372036854775807) (hrl : rl.length = n) (hcl : cl.length = n) (hn1 : 1 ≤ n) (hn : n ≤ 64) (xx : Nat × Nat) (xl : List Nat) (hxm : xl.length ≤ 9223372036854775807) (xb : Nat × Nat) (bl : List Nat) (hbm : bl.length ≤ 9223372036854775807) (most : Int) (hs : (l.length ≤ 1000 ∧ (n : Int) ≤ 20 ∧ (n : Int) ≤ 20 ∧ la.length ≤ 1000 ∧ (n : Int) ≤ 20 ∧ (n : Int) ≤ 20 ∧ p.length ≤ 60 ∧ rl.length ≤ 60 ∧ cl.length ≤ 60)) (hb : bl.length ≤ 60) (hx : xl.length ≤ 60) (hz : ∀ k, k < n → feq ((mel la ao al) k k) 0 = false) (hxl : xl.length = n) (hbl : bl.length ≠ n) :
    Spec Try.prog 5 [mt (aD x l) off (n : Int) (n : Int) ld, .agg [aD q la, .int .i64 ao, .int .i64 (n : Int), .int .i64 (n : Int), .int .i64 al, aI q' p], aI kr rl, aI kc cl, aD xx xl, aD xb bl, .int .i64 most] H (.bool true) H := by
  obtain ⟨hm, ho1, ho2, hr1, hr2, hc1, hc2, hl1, hl2⟩ := id hI
  obtain ⟨hm', ho1', ho2', hr1', hr2', hc1', hc2', hl1', hl2'⟩ := id hJ
  refine (Spec.intro' (fn := Try.f5) Try.func5 rfl (by kernel_rfl) (by simp) false [] (draw := drawX Try.prog ⟨false, _, []⟩) dOk ?_)
  simp only [argE, Nat.reduceAdd]
  repeat' (first
    | (refine gateE ?_; (first | refine b_c0 ?_ | refine b_nil ?_ | refine m13 ?_ | refine m12 ?_ | refine m11 ?_ | (refine m10 ?_; (first | refine g_TT ?_ | refine g_FF ?_ | refine g_TF ?_ | refine g_FT ?_ | refine g_PT ?_ ?_ | refine g_PF ?_ ?_ | refine g_BT ?_ ?_ | refine g_BF ?_ ?_ | fail)) | (refine m09 ?_; (first | refine g_TT ?_ | refine g_FF ?_ | refine g_TF ?_ | refine g_FT ?_ | refine g_PT ?_ ?_ | refine g_PF ?_ ?_ | refine g_BT ?_ ?_ | refine g_BF ?_ ?_ | fail)) | refine m38 ?_ | fail))
    | (refine gateO ?_; (first | refine m14 ?_ | (refine m17 ?_; first | refine m19 ?_ | refine m18 ?_) | (refine m07 ?_; (first | refine m15 ?_ | refine m16 ?_ | fail)) | (refine b_binBn (by first | (conv => {lhs; whnf}; done) | exact (by exact rfl) | fail) (by first | (conv => {lhs; whnf}; done) | exact (by exact rfl) | fail) ?_; (first | refine v_bnF (by exact rfl) ?_ | refine v_bnT (by decide) ?_ | fail)) | refine b_lenA (by (conv => {lhs; whnf}); done) (by exact (aI_IL [] kr rl).len) ?_ | refine b_lenA (by (conv => {lhs; whnf}); done) (by exact (aI_IL [] kc cl).len) ?_ | refine b_lenA (by (conv => {lhs; whnf}); done) (by exact (aI_IL [] q' p).len) ?_ | refine b_lenA (by (conv => {lhs; whnf}); done) (by exact aD_len xb bl) ?_ | refine b_lenA (by (conv => {lhs; whnf}); done) (by exact aD_len xx xl) ?_ | (refine m00 ?_; (first | refine m54 ?_ | refine m55 ?_ | refine v_neP ?_ | refine m47 ?_ | refine m48 ?_ | refine m49 ?_ | refine m50 ?_ | refine v_nT ?_ | refine v_nF ?_ | refine v_nP ?_ | refine v_k ?_ | refine m51 ?_ | fail)) | (refine m22 ?_; (first | refine m26 ?_ | refine m27 ?_ | fail)) | refine m42 ?_ | refine b_assignI ?_ | refine b_assignN ?_ | refine m08 ?_ | (refine m20 ?_; (first | refine m54 ?_ | refine m55 ?_ | refine v_neP ?_ | refine m47 ?_ | refine m48 ?_ | refine m49 ?_ | refine m50 ?_ | refine v_nT ?_ | refine v_nF ?_ | refine v_nP ?_ | refine v_k ?_ | refine m51 ?_ | fail)) | refine b_callB ?_ | refine b_lenA (by (conv => {lhs; whnf}); done) (by first | rfl | assumption) ?_ | refine m23 ?_ | refine m25 ?_ | refine m01 ?_ | refine m24 ?_ | refine b_build ?_ | fail))
    | (refine gateT ?_; (first | refine b_thn ?_ | refine b_thr ?_ | refine b_the ?_ | fail))
    | (refine gateX ?_; (first | refine b_seq ?_ | refine b_region ?_ | (refine m06 ?_; (first | refine c_T ?_ | refine c_F ?_ | refine c_P ?_ ?_ | refine c_B ?_ ?_ | fail)) | refine b_ret ?_ | refine b_skip ?_ | refine b_block ?_ | refine b_exit ?_ | fail))
    | refine m21 ?_
    | refine a_nil ?_
    | (refine gateK ?_; (first | refine c_call (run_7_c _) (OldOk.app (by simp)) ?_ | refine c_call (great_f _ x l off n n ld hI q la ao n n al hJ q' p hpm (aI kr rl) rl (fun H => aI_IL H kr rl) (aI kc cl) cl (fun H => aI_IL H kc cl) hrm hcm hs) (OldOk.app (by simp)) ?_ | refine c_call (ref_y _ x l off ld n hI hG q la ao al hJ hGa q' p hpl hpv (aI kr rl) rl (fun H => aI_IL H kr rl) (aI kc cl) cl (fun H => aI_IL H kc cl) hrl hcl hn1 hn hz _ xl.length (by exact rfl) (aD xb bl) bl.length (aD_len xb bl) _ hbl) (OldOk.app (by simp)) ?_ | fail))
    | refine m58 ?_
    | refine fk_nil ?_
    | (refine gateB ?_; (first | refine b_bln ?_ | refine b_blr ?_ | refine b_ble ?_ | refine m57 ?_ | fail))
    | (refine gateL ?_; (first | refine lp_n ?_ | refine lp_r ?_ | refine lp_e ?_ | fail))
    | (refine pr_k (by exact rfl) ?_; first | exact hK | (exfalso; first | omega | (simp_all; done) | (simp_all; omega)))
    | (refine gateQ ?_; refine m05 ?_)
    | (refine gateR ?_; (first | refine m04 ?_ | refine m02 ?_ | refine m03 ?_ | refine rk_nil ?_ | fail))
    | intro _)
  all_goals first
    | (exfalso; contradiction)
    | (exfalso; omega)
    | (exfalso; simp_all; done)
    | (refine rv_old rfl (by simp [mx, mxL, resOne, aOf, aOf1]) ?_; exact rfl)
    | (exfalso; (try rw [half_cn] at *); simp_all [-hvC]; done)

set_option maxHeartbeats 4000000 in
theorem bt_mz (H : List (List AV)) (x : Nat × Nat) (l : List Nat) (off ld : Int) (n : Nat) (hI : MI l.length off n n ld) (hG : GoodP l.length off n n ld) (q : Nat × Nat) (la : List Nat) (ao al : Int) (hJ : MI la.length ao n n al) (hGa : GoodP la.length ao n n al) (q' : Nat × Nat) (p : List Int) (hpm : p.length ≤ 9223372036854775807) (hpl : p.length = n) (hpv : pivP p) (kr : Nat × Nat) (rl : List Int) (hrm : rl.length ≤ 9223372036854775807) (kc : Nat × Nat) (cl : List Int) (hcm : cl.length ≤ 9223372036854775807) (hrl : rl.length = n) (hcl : cl.length = n) (hn1 : 1 ≤ n) (hn : n ≤ 64) (xx : Nat × Nat) (xl : List Nat) (hxm : xl.length ≤ 9223372036854775807) (xb : Nat × Nat) (bl : List Nat) (hbm : bl.length ≤ 9223372036854775807) (most : Int) (hs : (l.length ≤ 1000 ∧ (n : Int) ≤ 20 ∧ (n : Int) ≤ 20 ∧ la.length ≤ 1000 ∧ (n : Int) ≤ 20 ∧ (n : Int) ≤ 20 ∧ p.length ≤ 60 ∧ rl.length ≤ 60 ∧ cl.length ≤ 60)) (hb : bl.length ≤ 60) (hx : xl.length ≤ 60) (hz : ∀ k, k < n → feq ((mel la ao al) k k) 0 = false) (hxl : xl.length = n) (hbl : bl.length = n) (M : Nat) (hM : max (min most 5) 0 = (M : Int)) (N : Nat) (hNM : N = M) (hN5 : N ≤ 5) (hg : ∀ k, k < N → refG (mel l off ld) (mel la ao al) p rl cl xl bl n k = true) (hN0 : N = 0) :
    Spec Try.prog 5 [mt (aD x l) off (n : Int) (n : Int) ld, .agg [aD q la, .int .i64 ao, .int .i64 (n : Int), .int .i64 (n : Int), .int .i64 al, aI q' p], aI kr rl, aI kc cl, aD xx xl, aD xb bl, .int .i64 most] H (.bool true) H := by
  obtain ⟨hm, ho1, ho2, hr1, hr2, hc1, hc2, hl1, hl2⟩ := id hI
  obtain ⟨hm', ho1', ho2', hr1', hr2', hc1', hc2', hl1', hl2'⟩ := id hJ
  have hXn : slen (aD xx xl) = some n := (by rw [(aD_FL [] xx xl).len, hxl])
  have hBn : slen (aD xb bl) = some n := (by rw [(aD_FL [] xb bl).len, hbl])
  refine (Spec.intro' (fn := Try.f5) Try.func5 rfl (by kernel_rfl) (by simp) false [] (draw := drawX Try.prog ⟨false, _, []⟩) dOk ?_)
  simp only [argE, Nat.reduceAdd]
  repeat' (first
    | (refine gateE ?_; (first | refine b_c0 ?_ | refine b_nil ?_ | refine m13 ?_ | refine m12 ?_ | refine m11 ?_ | (refine m10 ?_; (first | refine g_TT ?_ | refine g_FF ?_ | refine g_TF ?_ | refine g_FT ?_ | refine g_PT ?_ ?_ | refine g_PF ?_ ?_ | refine g_BT ?_ ?_ | refine g_BF ?_ ?_ | fail)) | (refine m09 ?_; (first | refine g_TT ?_ | refine g_FF ?_ | refine g_TF ?_ | refine g_FT ?_ | refine g_PT ?_ ?_ | refine g_PF ?_ ?_ | refine g_BT ?_ ?_ | refine g_BF ?_ ?_ | fail)) | refine m38 ?_ | fail))
    | (refine gateO ?_; (first | refine m14 ?_ | (refine m17 ?_; first | refine m19 ?_ | refine m18 ?_) | (refine m07 ?_; (first | refine m15 ?_ | refine m16 ?_ | fail)) | (refine b_binBn (by first | (conv => {lhs; whnf}; done) | exact (by exact rfl) | fail) (by first | (conv => {lhs; whnf}; done) | exact (by exact rfl) | fail) ?_; (first | refine v_bnF (by exact rfl) ?_ | refine v_bnT (by decide) ?_ | fail)) | refine b_lenA (by (conv => {lhs; whnf}); done) (by exact hXn) ?_ | refine b_lenA (by (conv => {lhs; whnf}); done) (by exact hBn) ?_ | refine b_lenA (by (conv => {lhs; whnf}); done) (by exact rfl) ?_ | refine b_lenA (by (conv => {lhs; whnf}); done) (by exact (aI_IL [] kr rl).len) ?_ | refine b_lenA (by (conv => {lhs; whnf}); done) (by exact (aI_IL [] kc cl).len) ?_ | refine b_lenA (by (conv => {lhs; whnf}); done) (by exact (aI_IL [] q' p).len) ?_ | refine b_lenA (by (conv => {lhs; whnf}); done) (by exact aD_len xb bl) ?_ | refine b_lenA (by (conv => {lhs; whnf}); done) (by exact aD_len xx xl) ?_ | (refine m00 ?_; (first | refine v_to ((k + 1 : Nat) : Int) (by omega) (by omega) ?_ | refine m54 ?_ | refine m55 ?_ | refine v_neP ?_ | refine m47 ?_ | refine m48 ?_ | refine m49 ?_ | refine m50 ?_ | refine v_nT ?_ | refine v_nF ?_ | refine v_nP ?_ | refine v_k ?_ | refine m51 ?_ | fail)) | (refine m22 ?_; (first | refine m26 ?_ | refine m27 ?_ | fail)) | refine m42 ?_ | refine b_assignI ?_ | refine b_assignN ?_ | refine m08 ?_ | (refine m20 ?_; (first | refine v_to ((k + 1 : Nat) : Int) (by omega) (by omega) ?_ | refine m54 ?_ | refine m55 ?_ | refine v_neP ?_ | refine m47 ?_ | refine m48 ?_ | refine m49 ?_ | refine m50 ?_ | refine v_nT ?_ | refine v_nF ?_ | refine v_nP ?_ | refine v_k ?_ | refine m51 ?_ | fail)) | refine b_callB ?_ | refine b_lenA (by (conv => {lhs; whnf}); done) (by first | rfl | assumption) ?_ | refine m23 ?_ | refine m25 ?_ | refine m01 ?_ | refine m24 ?_ | refine b_build ?_ | fail))
    | (refine gateT ?_; (first | refine b_thn ?_ | refine b_thr ?_ | refine b_the ?_ | fail))
    | (refine gateX ?_; (first | refine b_seq ?_ | refine b_region ?_ | (refine m06 ?_; (first | refine c_T ?_ | refine c_F ?_ | refine c_P ?_ ?_ | refine c_B ?_ ?_ | fail)) | refine b_ret ?_ | refine b_skip ?_ | refine b_block ?_ | refine b_exit ?_ | (refine b_loop [4, 16, 17, 18, 21, 22] N (fun k => ⟨[(4, .val (aD xx xl)), (16, .val (.sl none n (fl (refY (mel l off ld) (mel la ao al) p rl cl xl bl n N)))), (17, .val (.flt (berrF (mel l off ld) (refY (mel l off ld) (mel la ao al) p rl cl xl bl n N) bl n))), (18, .val (.int .i64 ((N : Nat) : Int))), (21, .val (.flt (hvC (berrF (mel l off ld) xl bl n) k))), (22, .val (.int .i64 ((k : Nat) : Int)))], [], H ++ []⟩) (by exact rfl) ?_ ?_ <;> (first | intro k hk K hK | intro K) <;> (try dsimp only at *)) | fail))
    | refine m21 ?_
    | refine a_nil ?_
    | (refine gateK ?_; (first | refine c_call (run_7_c _) (OldOk.app (by simp)) ?_ | refine c_call (great_f _ x l off n n ld hI q la ao n n al hJ q' p hpm (aI kr rl) rl (fun H => aI_IL H kr rl) (aI kc cl) cl (fun H => aI_IL H kc cl) hrm hcm hs) (OldOk.app (by simp)) ?_ | refine c_call (ref_m _ x l off ld n hI hG q la ao al hJ hGa q' p hpl hpv (aI kr rl) rl (fun H => aI_IL H kr rl) (aI kc cl) cl (fun H => aI_IL H kc cl) hrl hcl hn1 hn hz _ xl (fun N9 => aD_FL _ xx xl) hxl (NN.sl (by omega)) _ bl (aD_FL _ xb bl) hbl (by simp [aI, mx, mxL_il]) (by simp [aI, mx, mxL_il]) most M hM N hNM hg) (OldOk.app (by simp)) ?_ | refine c_call (goodref_t _ (aD x l) l.length off n n ld (aD_len x l) hI hG) (OldOk.app (by simp)) ?_ | refine c_call (of_n _ (aD x l) l (aD_FL _ x l) off ld n hI hG hn) (OldOk.app (by simp)) ?_ | refine c_call (rberr_c _ (.sl none (n * n) (fl (rmA (mel l off ld) n n))) (mel l off ld) n (FLz _ _ _ (by simp)) hn1 hn _ xl (aD_FL _ xx xl) hxl _ bl (aD_FL _ xb bl) hbl) (OldOk.app (by simp)) ?_ | refine c_call (rberr_c _ (.sl none (n * n) (fl (rmA (mel l off ld) n n))) (mel l off ld) n (FLz _ _ _ (by simp)) hn1 hn _ (refY (mel l off ld) (mel la ao al) p rl cl xl bl n N) (FLz _ _ _ (refY_len hxl _)) (refY_len hxl _) _ bl (aD_FL _ xb bl) hbl) (OldOk.app (by simp)) ?_ | refine c_call (same_t _ _ _ rfl) (OldOk.app (by simp)) ?_ | refine c_call (all_t _ _ xl (by subst hN0; exact FLz _ _ _ hxl) (by omega) _ xl (aD_FL _ xx xl) rfl) (OldOk.app (by simp)) ?_ | fail))
    | refine m58 ?_
    | refine fk_nil ?_
    | (refine gateB ?_; (first | refine b_bln ?_ | refine b_blr ?_ | refine b_ble ?_ | refine m57 ?_ | fail))
    | (refine gateL ?_; (first | refine lp_n ?_ | refine lp_r ?_ | refine lp_e ?_ | fail))
    | (refine pr_k (by exact rfl) ?_; first | exact hK | fail | (exfalso; first | omega | (simp_all; done) | (simp_all; omega)))
    | (refine gateQ ?_; refine m05 ?_)
    | (refine gateR ?_; (first | refine m04 ?_ | refine m02 ?_ | refine m03 ?_ | refine rk_nil ?_ | fail))
    | intro _)
  all_goals first
    | (exfalso; contradiction)
    | (exfalso; omega)
    | (exfalso; simp_all; done)
    | (refine rv_old rfl (by simp [mx, mxL, resOne, aOf, aOf1]) ?_; exact rfl)
    | (exfalso; (try rw [half_cn] at *); simp_all [-hvC]; done)

set_option maxHeartbeats 4000000 in
theorem bt_mp (H : List (List AV)) (x : Nat × Nat) (l : List Nat) (off ld : Int) (n : Nat) (hI : MI l.length off n n ld) (hG : GoodP l.length off n n ld) (q : Nat × Nat) (la : List Nat) (ao al : Int) (hJ : MI la.length ao n n al) (hGa : GoodP la.length ao n n al) (q' : Nat × Nat) (p : List Int) (hpm : p.length ≤ 9223372036854775807) (hpl : p.length = n) (hpv : pivP p) (kr : Nat × Nat) (rl : List Int) (hrm : rl.length ≤ 9223372036854775807) (kc : Nat × Nat) (cl : List Int) (hcm : cl.length ≤ 9223372036854775807) (hrl : rl.length = n) (hcl : cl.length = n) (hn1 : 1 ≤ n) (hn : n ≤ 64) (xx : Nat × Nat) (xl : List Nat) (hxm : xl.length ≤ 9223372036854775807) (xb : Nat × Nat) (bl : List Nat) (hbm : bl.length ≤ 9223372036854775807) (most : Int) (hs : (l.length ≤ 1000 ∧ (n : Int) ≤ 20 ∧ (n : Int) ≤ 20 ∧ la.length ≤ 1000 ∧ (n : Int) ≤ 20 ∧ (n : Int) ≤ 20 ∧ p.length ≤ 60 ∧ rl.length ≤ 60 ∧ cl.length ≤ 60)) (hb : bl.length ≤ 60) (hx : xl.length ≤ 60) (hz : ∀ k, k < n → feq ((mel la ao al) k k) 0 = false) (hxl : xl.length = n) (hbl : bl.length = n) (M : Nat) (hM : max (min most 5) 0 = (M : Int)) (N : Nat) (hNM : N = M) (hN5 : N ≤ 5) (hg : ∀ k, k < N → refG (mel l off ld) (mel la ao al) p rl cl xl bl n k = true) (hN0 : 0 < N) :
    Spec Try.prog 5 [mt (aD x l) off (n : Int) (n : Int) ld, .agg [aD q la, .int .i64 ao, .int .i64 (n : Int), .int .i64 (n : Int), .int .i64 al, aI q' p], aI kr rl, aI kc cl, aD xx xl, aD xb bl, .int .i64 most] H (.bool true) H := by
  obtain ⟨hm, ho1, ho2, hr1, hr2, hc1, hc2, hl1, hl2⟩ := id hI
  obtain ⟨hm', ho1', ho2', hr1', hr2', hc1', hc2', hl1', hl2'⟩ := id hJ
  have hXn : slen (aD xx xl) = some n := (by rw [(aD_FL [] xx xl).len, hxl])
  have hBn : slen (aD xb bl) = some n := (by rw [(aD_FL [] xb bl).len, hbl])
  have hle := better_le (a := (mel l off ld)) (m := (mel la ao al)) (p := p) (rl := rl) (cl := cl) (x := xl) (b := bl) (n := n) hN0 hg
  refine (Spec.intro' (fn := Try.f5) Try.func5 rfl (by kernel_rfl) (by simp) false [] (draw := drawX Try.prog ⟨false, _, []⟩) dOk ?_)
  simp only [argE, Nat.reduceAdd]
  repeat' (first
    | (refine gateE ?_; (first | refine b_c0 ?_ | refine b_nil ?_ | refine m13 ?_ | refine m12 ?_ | refine m11 ?_ | (refine m10 ?_; (first | refine g_TT ?_ | refine g_FF ?_ | refine g_TF ?_ | refine g_FT ?_ | refine g_PT ?_ ?_ | refine g_PF ?_ ?_ | refine g_BT ?_ ?_ | refine g_BF ?_ ?_ | fail)) | (refine m09 ?_; (first | refine g_TT ?_ | refine g_FF ?_ | refine g_TF ?_ | refine g_FT ?_ | refine g_PT ?_ ?_ | refine g_PF ?_ ?_ | refine g_BT ?_ ?_ | refine g_BF ?_ ?_ | fail)) | refine m38 ?_ | fail))
    | (refine gateO ?_; (first | refine m14 ?_ | (refine m17 ?_; first | refine m19 ?_ | refine m18 ?_) | (refine m07 ?_; (first | refine m15 ?_ | refine m16 ?_ | fail)) | (refine b_binBn (by first | (conv => {lhs; whnf}; done) | exact (by exact rfl) | fail) (by first | (conv => {lhs; whnf}; done) | exact (by exact rfl) | fail) ?_; (first | refine v_bnF (by exact rfl) ?_ | refine v_bnT (by decide) ?_ | fail)) | refine b_lenA (by (conv => {lhs; whnf}); done) (by exact hXn) ?_ | refine b_lenA (by (conv => {lhs; whnf}); done) (by exact hBn) ?_ | refine b_lenA (by (conv => {lhs; whnf}); done) (by exact rfl) ?_ | refine b_lenA (by (conv => {lhs; whnf}); done) (by exact (aI_IL [] kr rl).len) ?_ | refine b_lenA (by (conv => {lhs; whnf}); done) (by exact (aI_IL [] kc cl).len) ?_ | refine b_lenA (by (conv => {lhs; whnf}); done) (by exact (aI_IL [] q' p).len) ?_ | refine b_lenA (by (conv => {lhs; whnf}); done) (by exact aD_len xb bl) ?_ | refine b_lenA (by (conv => {lhs; whnf}); done) (by exact aD_len xx xl) ?_ | (refine m00 ?_; (first | refine v_to ((k + 1 : Nat) : Int) (by omega) (by omega) ?_ | refine m54 ?_ | refine m55 ?_ | refine v_neP ?_ | refine m47 ?_ | refine m48 ?_ | refine m49 ?_ | refine m50 ?_ | refine v_nT ?_ | refine v_nF ?_ | refine v_nP ?_ | refine v_k ?_ | refine m51 ?_ | fail)) | (refine m22 ?_; (first | refine m26 ?_ | refine m27 ?_ | fail)) | refine m42 ?_ | refine b_assignI ?_ | refine b_assignN ?_ | refine m08 ?_ | (refine m20 ?_; (first | refine v_to ((k + 1 : Nat) : Int) (by omega) (by omega) ?_ | refine m54 ?_ | refine m55 ?_ | refine v_neP ?_ | refine m47 ?_ | refine m48 ?_ | refine m49 ?_ | refine m50 ?_ | refine v_nT ?_ | refine v_nF ?_ | refine v_nP ?_ | refine v_k ?_ | refine m51 ?_ | fail)) | refine b_callB ?_ | refine b_lenA (by (conv => {lhs; whnf}); done) (by first | rfl | assumption) ?_ | refine m23 ?_ | refine m25 ?_ | refine m01 ?_ | refine m24 ?_ | refine b_build ?_ | fail))
    | (refine gateT ?_; (first | refine b_thn ?_ | refine b_thr ?_ | refine b_the ?_ | fail))
    | (refine gateX ?_; (first | refine b_seq ?_ | refine b_region ?_ | (refine m06 ?_; (first | refine c_T ?_ | refine c_F ?_ | refine c_P ?_ ?_ | refine c_B ?_ ?_ | fail)) | refine b_ret ?_ | refine b_skip ?_ | refine b_block ?_ | refine b_exit ?_ | (refine b_loop [4, 16, 17, 18, 21, 22] N (fun k => ⟨[(4, .val (aD xx xl)), (16, .val (.sl none n (fl (refY (mel l off ld) (mel la ao al) p rl cl xl bl n N)))), (17, .val (.flt (berrF (mel l off ld) (refY (mel l off ld) (mel la ao al) p rl cl xl bl n N) bl n))), (18, .val (.int .i64 ((N : Nat) : Int))), (21, .val (.flt (hvC (berrF (mel l off ld) xl bl n) k))), (22, .val (.int .i64 ((k : Nat) : Int)))], [], H ++ []⟩) (by exact rfl) ?_ ?_ <;> (first | intro k hk K hK | intro K) <;> (try dsimp only at *)) | fail))
    | refine m21 ?_
    | refine a_nil ?_
    | (refine gateK ?_; (first | refine c_call (run_7_c _) (OldOk.app (by simp)) ?_ | refine c_call (great_f _ x l off n n ld hI q la ao n n al hJ q' p hpm (aI kr rl) rl (fun H => aI_IL H kr rl) (aI kc cl) cl (fun H => aI_IL H kc cl) hrm hcm hs) (OldOk.app (by simp)) ?_ | refine c_call (ref_m _ x l off ld n hI hG q la ao al hJ hGa q' p hpl hpv (aI kr rl) rl (fun H => aI_IL H kr rl) (aI kc cl) cl (fun H => aI_IL H kc cl) hrl hcl hn1 hn hz _ xl (fun N9 => aD_FL _ xx xl) hxl (NN.sl (by omega)) _ bl (aD_FL _ xb bl) hbl (by simp [aI, mx, mxL_il]) (by simp [aI, mx, mxL_il]) most M hM N hNM hg) (OldOk.app (by simp)) ?_ | refine c_call (goodref_t _ (aD x l) l.length off n n ld (aD_len x l) hI hG) (OldOk.app (by simp)) ?_ | refine c_call (of_n _ (aD x l) l (aD_FL _ x l) off ld n hI hG hn) (OldOk.app (by simp)) ?_ | refine c_call (rberr_c _ (.sl none (n * n) (fl (rmA (mel l off ld) n n))) (mel l off ld) n (FLz _ _ _ (by simp)) hn1 hn _ xl (aD_FL _ xx xl) hxl _ bl (aD_FL _ xb bl) hbl) (OldOk.app (by simp)) ?_ | refine c_call (rberr_c _ (.sl none (n * n) (fl (rmA (mel l off ld) n n))) (mel l off ld) n (FLz _ _ _ (by simp)) hn1 hn _ (refY (mel l off ld) (mel la ao al) p rl cl xl bl n N) (FLz _ _ _ (refY_len hxl _)) (refY_len hxl _) _ bl (aD_FL _ xb bl) hbl) (OldOk.app (by simp)) ?_ | refine c_call (same_t _ _ _ rfl) (OldOk.app (by simp)) ?_ | fail))
    | refine m58 ?_
    | refine fk_nil ?_
    | (refine gateB ?_; (first | refine b_bln ?_ | refine b_blr ?_ | refine b_ble ?_ | refine m57 ?_ | fail))
    | (refine gateL ?_; (first | refine lp_n ?_ | refine lp_r ?_ | refine lp_e ?_ | fail))
    | (refine pr_k (by exact rfl) ?_; first | exact hK | fail | (exfalso; first | omega | (simp_all; done) | (simp_all; omega)))
    | (refine gateQ ?_; refine m05 ?_)
    | (refine gateR ?_; (first | refine m04 ?_ | refine m02 ?_ | refine m03 ?_ | refine rk_nil ?_ | fail))
    | intro _)
  all_goals first
    | (exfalso; contradiction)
    | (exfalso; omega)
    | (exfalso; simp_all; done)
    | (refine rv_old rfl (by simp [mx, mxL, resOne, aOf, aOf1]) ?_; exact rfl)
    | (exfalso; (try rw [half_cn] at *); simp_all [-hvC]; done)

set_option maxHeartbeats 4000000 in
theorem bt_bz (H : List (List AV)) (x : Nat × Nat) (l : List Nat) (off ld : Int) (n : Nat) (hI : MI l.length off n n ld) (hG : GoodP l.length off n n ld) (q : Nat × Nat) (la : List Nat) (ao al : Int) (hJ : MI la.length ao n n al) (hGa : GoodP la.length ao n n al) (q' : Nat × Nat) (p : List Int) (hpm : p.length ≤ 9223372036854775807) (hpl : p.length = n) (hpv : pivP p) (kr : Nat × Nat) (rl : List Int) (hrm : rl.length ≤ 9223372036854775807) (kc : Nat × Nat) (cl : List Int) (hcm : cl.length ≤ 9223372036854775807) (hrl : rl.length = n) (hcl : cl.length = n) (hn1 : 1 ≤ n) (hn : n ≤ 64) (xx : Nat × Nat) (xl : List Nat) (hxm : xl.length ≤ 9223372036854775807) (xb : Nat × Nat) (bl : List Nat) (hbm : bl.length ≤ 9223372036854775807) (most : Int) (hs : (l.length ≤ 1000 ∧ (n : Int) ≤ 20 ∧ (n : Int) ≤ 20 ∧ la.length ≤ 1000 ∧ (n : Int) ≤ 20 ∧ (n : Int) ≤ 20 ∧ p.length ≤ 60 ∧ rl.length ≤ 60 ∧ cl.length ≤ 60)) (hb : bl.length ≤ 60) (hx : xl.length ≤ 60) (hz : ∀ k, k < n → feq ((mel la ao al) k k) 0 = false) (hxl : xl.length = n) (hbl : bl.length = n) (M : Nat) (hM : max (min most 5) 0 = (M : Int)) (N : Nat) (hNM : N < M) (hN5 : N ≤ 5) (hg : ∀ k, k < N → refG (mel l off ld) (mel la ao al) p rl cl xl bl n k = true) (hb9 : ¬ refG (mel l off ld) (mel la ao al) p rl cl xl bl n N = true) (hN0 : N = 0) :
    Spec Try.prog 5 [mt (aD x l) off (n : Int) (n : Int) ld, .agg [aD q la, .int .i64 ao, .int .i64 (n : Int), .int .i64 (n : Int), .int .i64 al, aI q' p], aI kr rl, aI kc cl, aD xx xl, aD xb bl, .int .i64 most] H (.bool true) H := by
  obtain ⟨hm, ho1, ho2, hr1, hr2, hc1, hc2, hl1, hl2⟩ := id hI
  obtain ⟨hm', ho1', ho2', hr1', hr2', hc1', hc2', hl1', hl2'⟩ := id hJ
  have hXn : slen (aD xx xl) = some n := (by rw [(aD_FL [] xx xl).len, hxl])
  have hBn : slen (aD xb bl) = some n := (by rw [(aD_FL [] xb bl).len, hbl])
  refine (Spec.intro' (fn := Try.f5) Try.func5 rfl (by kernel_rfl) (by simp) false [] (draw := drawX Try.prog ⟨false, _, []⟩) dOk ?_)
  simp only [argE, Nat.reduceAdd]
  repeat' (first
    | (refine gateE ?_; (first | refine b_c0 ?_ | refine b_nil ?_ | refine m13 ?_ | refine m12 ?_ | refine m11 ?_ | (refine m10 ?_; (first | refine g_TT ?_ | refine g_FF ?_ | refine g_TF ?_ | refine g_FT ?_ | refine g_PT ?_ ?_ | refine g_PF ?_ ?_ | refine g_BT ?_ ?_ | refine g_BF ?_ ?_ | fail)) | (refine m09 ?_; (first | refine g_TT ?_ | refine g_FF ?_ | refine g_TF ?_ | refine g_FT ?_ | refine g_PT ?_ ?_ | refine g_PF ?_ ?_ | refine g_BT ?_ ?_ | refine g_BF ?_ ?_ | fail)) | refine m38 ?_ | fail))
    | (refine gateO ?_; (first | refine m14 ?_ | (refine m17 ?_; first | refine m19 ?_ | refine m18 ?_) | (refine m07 ?_; (first | refine m15 ?_ | refine m16 ?_ | fail)) | (refine b_binBn (by first | (conv => {lhs; whnf}; done) | exact (by exact rfl) | fail) (by first | (conv => {lhs; whnf}; done) | exact (by exact rfl) | fail) ?_; (first | refine v_bnF (by exact rfl) ?_ | refine v_bnT (by decide) ?_ | fail)) | refine b_lenA (by (conv => {lhs; whnf}); done) (by exact hXn) ?_ | refine b_lenA (by (conv => {lhs; whnf}); done) (by exact hBn) ?_ | refine b_lenA (by (conv => {lhs; whnf}); done) (by exact rfl) ?_ | refine b_lenA (by (conv => {lhs; whnf}); done) (by exact (aI_IL [] kr rl).len) ?_ | refine b_lenA (by (conv => {lhs; whnf}); done) (by exact (aI_IL [] kc cl).len) ?_ | refine b_lenA (by (conv => {lhs; whnf}); done) (by exact (aI_IL [] q' p).len) ?_ | refine b_lenA (by (conv => {lhs; whnf}); done) (by exact aD_len xb bl) ?_ | refine b_lenA (by (conv => {lhs; whnf}); done) (by exact aD_len xx xl) ?_ | (refine m00 ?_; (first | refine v_to ((k + 1 : Nat) : Int) (by omega) (by omega) ?_ | refine m54 ?_ | refine m55 ?_ | refine v_neP ?_ | refine m47 ?_ | refine m48 ?_ | refine m49 ?_ | refine m50 ?_ | refine v_nT ?_ | refine v_nF ?_ | refine v_nP ?_ | refine v_k ?_ | refine m51 ?_ | fail)) | (refine m22 ?_; (first | refine m26 ?_ | refine m27 ?_ | fail)) | refine m42 ?_ | refine b_assignI ?_ | refine b_assignN ?_ | refine m08 ?_ | (refine m20 ?_; (first | refine v_to ((k + 1 : Nat) : Int) (by omega) (by omega) ?_ | refine m54 ?_ | refine m55 ?_ | refine v_neP ?_ | refine m47 ?_ | refine m48 ?_ | refine m49 ?_ | refine m50 ?_ | refine v_nT ?_ | refine v_nF ?_ | refine v_nP ?_ | refine v_k ?_ | refine m51 ?_ | fail)) | refine b_callB ?_ | refine b_lenA (by (conv => {lhs; whnf}); done) (by first | rfl | assumption) ?_ | refine m23 ?_ | refine m25 ?_ | refine m01 ?_ | refine m24 ?_ | refine b_build ?_ | fail))
    | (refine gateT ?_; (first | refine b_thn ?_ | refine b_thr ?_ | refine b_the ?_ | fail))
    | (refine gateX ?_; (first | refine b_seq ?_ | refine b_region ?_ | (refine m06 ?_; (first | refine c_T ?_ | refine c_F ?_ | refine c_P ?_ ?_ | refine c_B ?_ ?_ | fail)) | refine b_ret ?_ | refine b_skip ?_ | refine b_block ?_ | refine b_exit ?_ | (refine b_loop [4, 16, 17, 18, 21, 22] N (fun k => ⟨[(4, .val (aD xx xl)), (16, .val (.sl none n (fl (refY (mel l off ld) (mel la ao al) p rl cl xl bl n N)))), (17, .val (.flt (berrF (mel l off ld) (refY (mel l off ld) (mel la ao al) p rl cl xl bl n N) bl n))), (18, .val (.int .i64 ((N : Nat) : Int))), (21, .val (.flt (hvC (berrF (mel l off ld) xl bl n) k))), (22, .val (.int .i64 ((k : Nat) : Int)))], [], H ++ []⟩) (by exact rfl) ?_ ?_ <;> (first | intro k hk K hK | intro K) <;> (try dsimp only at *)) | fail))
    | refine m21 ?_
    | refine a_nil ?_
    | (refine gateK ?_; (first | refine c_call (run_7_c _) (OldOk.app (by simp)) ?_ | refine c_call (great_f _ x l off n n ld hI q la ao n n al hJ q' p hpm (aI kr rl) rl (fun H => aI_IL H kr rl) (aI kc cl) cl (fun H => aI_IL H kc cl) hrm hcm hs) (OldOk.app (by simp)) ?_ | refine c_call (ref_b _ x l off ld n hI hG q la ao al hJ hGa q' p hpl hpv (aI kr rl) rl (fun H => aI_IL H kr rl) (aI kc cl) cl (fun H => aI_IL H kc cl) hrl hcl hn1 hn hz _ xl (fun N9 => aD_FL _ xx xl) hxl (NN.sl (by omega)) _ bl (aD_FL _ xb bl) hbl (by simp [aI, mx, mxL_il]) (by simp [aI, mx, mxL_il]) most M hM N hNM hg hb9) (OldOk.app (by simp)) ?_ | refine c_call (goodref_t _ (aD x l) l.length off n n ld (aD_len x l) hI hG) (OldOk.app (by simp)) ?_ | refine c_call (of_n _ (aD x l) l (aD_FL _ x l) off ld n hI hG hn) (OldOk.app (by simp)) ?_ | refine c_call (rberr_c _ (.sl none (n * n) (fl (rmA (mel l off ld) n n))) (mel l off ld) n (FLz _ _ _ (by simp)) hn1 hn _ xl (aD_FL _ xx xl) hxl _ bl (aD_FL _ xb bl) hbl) (OldOk.app (by simp)) ?_ | refine c_call (rberr_c _ (.sl none (n * n) (fl (rmA (mel l off ld) n n))) (mel l off ld) n (FLz _ _ _ (by simp)) hn1 hn _ (refY (mel l off ld) (mel la ao al) p rl cl xl bl n N) (FLz _ _ _ (refY_len hxl _)) (refY_len hxl _) _ bl (aD_FL _ xb bl) hbl) (OldOk.app (by simp)) ?_ | refine c_call (same_t _ _ _ rfl) (OldOk.app (by simp)) ?_ | refine c_call (all_t _ _ xl (by subst hN0; exact FLz _ _ _ hxl) (by omega) _ xl (aD_FL _ xx xl) rfl) (OldOk.app (by simp)) ?_ | fail))
    | refine m58 ?_
    | refine fk_nil ?_
    | (refine gateB ?_; (first | refine b_bln ?_ | refine b_blr ?_ | refine b_ble ?_ | refine m57 ?_ | fail))
    | (refine gateL ?_; (first | refine lp_n ?_ | refine lp_r ?_ | refine lp_e ?_ | fail))
    | (refine pr_k (by exact rfl) ?_; first | exact hK | fail | (exfalso; first | omega | (simp_all; done) | (simp_all; omega)))
    | (refine gateQ ?_; refine m05 ?_)
    | (refine gateR ?_; (first | refine m04 ?_ | refine m02 ?_ | refine m03 ?_ | refine rk_nil ?_ | fail))
    | intro _)
  all_goals first
    | (exfalso; contradiction)
    | (exfalso; omega)
    | (exfalso; simp_all; done)
    | (refine rv_old rfl (by simp [mx, mxL, resOne, aOf, aOf1]) ?_; exact rfl)
    | (exfalso; (try rw [half_cn] at *); simp_all [-hvC]; done)

set_option maxHeartbeats 4000000 in
theorem bt_bp (H : List (List AV)) (x : Nat × Nat) (l : List Nat) (off ld : Int) (n : Nat) (hI : MI l.length off n n ld) (hG : GoodP l.length off n n ld) (q : Nat × Nat) (la : List Nat) (ao al : Int) (hJ : MI la.length ao n n al) (hGa : GoodP la.length ao n n al) (q' : Nat × Nat) (p : List Int) (hpm : p.length ≤ 9223372036854775807) (hpl : p.length = n) (hpv : pivP p) (kr : Nat × Nat) (rl : List Int) (hrm : rl.length ≤ 9223372036854775807) (kc : Nat × Nat) (cl : List Int) (hcm : cl.length ≤ 9223372036854775807) (hrl : rl.length = n) (hcl : cl.length = n) (hn1 : 1 ≤ n) (hn : n ≤ 64) (xx : Nat × Nat) (xl : List Nat) (hxm : xl.length ≤ 9223372036854775807) (xb : Nat × Nat) (bl : List Nat) (hbm : bl.length ≤ 9223372036854775807) (most : Int) (hs : (l.length ≤ 1000 ∧ (n : Int) ≤ 20 ∧ (n : Int) ≤ 20 ∧ la.length ≤ 1000 ∧ (n : Int) ≤ 20 ∧ (n : Int) ≤ 20 ∧ p.length ≤ 60 ∧ rl.length ≤ 60 ∧ cl.length ≤ 60)) (hb : bl.length ≤ 60) (hx : xl.length ≤ 60) (hz : ∀ k, k < n → feq ((mel la ao al) k k) 0 = false) (hxl : xl.length = n) (hbl : bl.length = n) (M : Nat) (hM : max (min most 5) 0 = (M : Int)) (N : Nat) (hNM : N < M) (hN5 : N ≤ 5) (hg : ∀ k, k < N → refG (mel l off ld) (mel la ao al) p rl cl xl bl n k = true) (hb9 : ¬ refG (mel l off ld) (mel la ao al) p rl cl xl bl n N = true) (hN0 : 0 < N) :
    Spec Try.prog 5 [mt (aD x l) off (n : Int) (n : Int) ld, .agg [aD q la, .int .i64 ao, .int .i64 (n : Int), .int .i64 (n : Int), .int .i64 al, aI q' p], aI kr rl, aI kc cl, aD xx xl, aD xb bl, .int .i64 most] H (.bool true) H := by
  obtain ⟨hm, ho1, ho2, hr1, hr2, hc1, hc2, hl1, hl2⟩ := id hI
  obtain ⟨hm', ho1', ho2', hr1', hr2', hc1', hc2', hl1', hl2'⟩ := id hJ
  have hXn : slen (aD xx xl) = some n := (by rw [(aD_FL [] xx xl).len, hxl])
  have hBn : slen (aD xb bl) = some n := (by rw [(aD_FL [] xb bl).len, hbl])
  have hle := better_le (a := (mel l off ld)) (m := (mel la ao al)) (p := p) (rl := rl) (cl := cl) (x := xl) (b := bl) (n := n) hN0 hg
  refine (Spec.intro' (fn := Try.f5) Try.func5 rfl (by kernel_rfl) (by simp) false [] (draw := drawX Try.prog ⟨false, _, []⟩) dOk ?_)
  simp only [argE, Nat.reduceAdd]
  repeat' (first
    | (refine gateE ?_; (first | refine b_c0 ?_ | refine b_nil ?_ | refine m13 ?_ | refine m12 ?_ | refine m11 ?_ | (refine m10 ?_; (first | refine g_TT ?_ | refine g_FF ?_ | refine g_TF ?_ | refine g_FT ?_ | refine g_PT ?_ ?_ | refine g_PF ?_ ?_ | refine g_BT ?_ ?_ | refine g_BF ?_ ?_ | fail)) | (refine m09 ?_; (first | refine g_TT ?_ | refine g_FF ?_ | refine g_TF ?_ | refine g_FT ?_ | refine g_PT ?_ ?_ | refine g_PF ?_ ?_ | refine g_BT ?_ ?_ | refine g_BF ?_ ?_ | fail)) | refine m38 ?_ | fail))
    | (refine gateO ?_; (first | refine m14 ?_ | (refine m17 ?_; first | refine m19 ?_ | refine m18 ?_) | (refine m07 ?_; (first | refine m15 ?_ | refine m16 ?_ | fail)) | (refine b_binBn (by first | (conv => {lhs; whnf}; done) | exact (by exact rfl) | fail) (by first | (conv => {lhs; whnf}; done) | exact (by exact rfl) | fail) ?_; (first | refine v_bnF (by exact rfl) ?_ | refine v_bnT (by decide) ?_ | fail)) | refine b_lenA (by (conv => {lhs; whnf}); done) (by exact hXn) ?_ | refine b_lenA (by (conv => {lhs; whnf}); done) (by exact hBn) ?_ | refine b_lenA (by (conv => {lhs; whnf}); done) (by exact rfl) ?_ | refine b_lenA (by (conv => {lhs; whnf}); done) (by exact (aI_IL [] kr rl).len) ?_ | refine b_lenA (by (conv => {lhs; whnf}); done) (by exact (aI_IL [] kc cl).len) ?_ | refine b_lenA (by (conv => {lhs; whnf}); done) (by exact (aI_IL [] q' p).len) ?_ | refine b_lenA (by (conv => {lhs; whnf}); done) (by exact aD_len xb bl) ?_ | refine b_lenA (by (conv => {lhs; whnf}); done) (by exact aD_len xx xl) ?_ | (refine m00 ?_; (first | refine v_to ((k + 1 : Nat) : Int) (by omega) (by omega) ?_ | refine m54 ?_ | refine m55 ?_ | refine v_neP ?_ | refine m47 ?_ | refine m48 ?_ | refine m49 ?_ | refine m50 ?_ | refine v_nT ?_ | refine v_nF ?_ | refine v_nP ?_ | refine v_k ?_ | refine m51 ?_ | fail)) | (refine m22 ?_; (first | refine m26 ?_ | refine m27 ?_ | fail)) | refine m42 ?_ | refine b_assignI ?_ | refine b_assignN ?_ | refine m08 ?_ | (refine m20 ?_; (first | refine v_to ((k + 1 : Nat) : Int) (by omega) (by omega) ?_ | refine m54 ?_ | refine m55 ?_ | refine v_neP ?_ | refine m47 ?_ | refine m48 ?_ | refine m49 ?_ | refine m50 ?_ | refine v_nT ?_ | refine v_nF ?_ | refine v_nP ?_ | refine v_k ?_ | refine m51 ?_ | fail)) | refine b_callB ?_ | refine b_lenA (by (conv => {lhs; whnf}); done) (by first | rfl | assumption) ?_ | refine m23 ?_ | refine m25 ?_ | refine m01 ?_ | refine m24 ?_ | refine b_build ?_ | fail))
    | (refine gateT ?_; (first | refine b_thn ?_ | refine b_thr ?_ | refine b_the ?_ | fail))
    | (refine gateX ?_; (first | refine b_seq ?_ | refine b_region ?_ | (refine m06 ?_; (first | refine c_T ?_ | refine c_F ?_ | refine c_P ?_ ?_ | refine c_B ?_ ?_ | fail)) | refine b_ret ?_ | refine b_skip ?_ | refine b_block ?_ | refine b_exit ?_ | (refine b_loop [4, 16, 17, 18, 21, 22] N (fun k => ⟨[(4, .val (aD xx xl)), (16, .val (.sl none n (fl (refY (mel l off ld) (mel la ao al) p rl cl xl bl n N)))), (17, .val (.flt (berrF (mel l off ld) (refY (mel l off ld) (mel la ao al) p rl cl xl bl n N) bl n))), (18, .val (.int .i64 ((N : Nat) : Int))), (21, .val (.flt (hvC (berrF (mel l off ld) xl bl n) k))), (22, .val (.int .i64 ((k : Nat) : Int)))], [], H ++ []⟩) (by exact rfl) ?_ ?_ <;> (first | intro k hk K hK | intro K) <;> (try dsimp only at *)) | fail))
    | refine m21 ?_
    | refine a_nil ?_
    | (refine gateK ?_; (first | refine c_call (run_7_c _) (OldOk.app (by simp)) ?_ | refine c_call (great_f _ x l off n n ld hI q la ao n n al hJ q' p hpm (aI kr rl) rl (fun H => aI_IL H kr rl) (aI kc cl) cl (fun H => aI_IL H kc cl) hrm hcm hs) (OldOk.app (by simp)) ?_ | refine c_call (ref_b _ x l off ld n hI hG q la ao al hJ hGa q' p hpl hpv (aI kr rl) rl (fun H => aI_IL H kr rl) (aI kc cl) cl (fun H => aI_IL H kc cl) hrl hcl hn1 hn hz _ xl (fun N9 => aD_FL _ xx xl) hxl (NN.sl (by omega)) _ bl (aD_FL _ xb bl) hbl (by simp [aI, mx, mxL_il]) (by simp [aI, mx, mxL_il]) most M hM N hNM hg hb9) (OldOk.app (by simp)) ?_ | refine c_call (goodref_t _ (aD x l) l.length off n n ld (aD_len x l) hI hG) (OldOk.app (by simp)) ?_ | refine c_call (of_n _ (aD x l) l (aD_FL _ x l) off ld n hI hG hn) (OldOk.app (by simp)) ?_ | refine c_call (rberr_c _ (.sl none (n * n) (fl (rmA (mel l off ld) n n))) (mel l off ld) n (FLz _ _ _ (by simp)) hn1 hn _ xl (aD_FL _ xx xl) hxl _ bl (aD_FL _ xb bl) hbl) (OldOk.app (by simp)) ?_ | refine c_call (rberr_c _ (.sl none (n * n) (fl (rmA (mel l off ld) n n))) (mel l off ld) n (FLz _ _ _ (by simp)) hn1 hn _ (refY (mel l off ld) (mel la ao al) p rl cl xl bl n N) (FLz _ _ _ (refY_len hxl _)) (refY_len hxl _) _ bl (aD_FL _ xb bl) hbl) (OldOk.app (by simp)) ?_ | refine c_call (same_t _ _ _ rfl) (OldOk.app (by simp)) ?_ | fail))
    | refine m58 ?_
    | refine fk_nil ?_
    | (refine gateB ?_; (first | refine b_bln ?_ | refine b_blr ?_ | refine b_ble ?_ | refine m57 ?_ | fail))
    | (refine gateL ?_; (first | refine lp_n ?_ | refine lp_r ?_ | refine lp_e ?_ | fail))
    | (refine pr_k (by exact rfl) ?_; first | exact hK | fail | (exfalso; first | omega | (simp_all; done) | (simp_all; omega)))
    | (refine gateQ ?_; refine m05 ?_)
    | (refine gateR ?_; (first | refine m04 ?_ | refine m02 ?_ | refine m03 ?_ | refine rk_nil ?_ | fail))
    | intro _)
  all_goals first
    | (exfalso; contradiction)
    | (exfalso; omega)
    | (exfalso; simp_all; done)
    | (refine rv_old rfl (by simp [mx, mxL, resOne, aOf, aOf1]) ?_; exact rfl)
    | (exfalso; (try rw [half_cn] at *); simp_all [-hvC]; done)


theorem refineBetter_s (H : List (List AV)) (x : Nat × Nat) (l : List Nat) (off rows cols ld : Int) (hI : MI l.length off rows cols ld) (q : Nat × Nat) (la : List Nat) (ao ar ac al : Int) (hJ : MI la.length ao ar ac al) (q' : Nat × Nat) (p : List Int) (hpm : p.length ≤ 9223372036854775807) (kr : Nat × Nat) (rl : List Int) (hrm : rl.length ≤ 9223372036854775807) (kc : Nat × Nat) (cl : List Int) (hcm : cl.length ≤ 9223372036854775807) (xx : Nat × Nat) (xl : List Nat) (hxm : xl.length ≤ 9223372036854775807) (xb : Nat × Nat) (bl : List Nat) (hbm : bl.length ≤ 9223372036854775807) (most : Int) : Spec Try.prog 5 [mt (aD x l) off rows cols ld, .agg [aD q la, .int .i64 ao, .int .i64 ar, .int .i64 ac, .int .i64 al, aI q' p], aI kr rl, aI kc cl, aD xx xl, aD xb bl, .int .i64 most] H (.bool true) H := by
  by_cases hs : (l.length ≤ 1000 ∧ rows ≤ 20 ∧ cols ≤ 20 ∧ la.length ≤ 1000 ∧ ar ≤ 20 ∧ ac ≤ 20 ∧ p.length ≤ 60 ∧ rl.length ≤ 60 ∧ cl.length ≤ 60)
  · by_cases hb : bl.length ≤ 60
    · by_cases hx : xl.length ≤ 60
      · by_cases hok : GoodP l.length off rows cols ld ∧ (GoodP la.length ao ar ac al ∧ ar = ac ∧ ar = (p.length : Int) ∧ pivP p)
        · obtain ⟨hg, hr⟩ := hok
          by_cases hz9 : (cols = rows ∧ 1 ≤ rows ∧ rows ≤ 64 ∧ ar = rows ∧ (rl.length : Int) = rows ∧ (cl.length : Int) = rows)
          · obtain ⟨s1, s2, s3, s4, s5, s6⟩ := id hz9
            obtain ⟨r1, r2, r3, r4⟩ := id hr
            subst s1 r2
            obtain ⟨n, rfl⟩ : ∃ n : Nat, cols = (n : Int) := ⟨cols.toNat, by omega⟩
            subst s4
            rcases first_zero (mel la ao al) n with hz | ⟨z, hzn, hz, hz1⟩
            · by_cases hxl : xl.length = n
              · by_cases hbl : bl.length = n
                · obtain ⟨M, hM⟩ : ∃ M : Nat, max (min most 5) 0 = (M : Int) := ⟨(max (min most 5) 0).toNat, by omega⟩
                  rcases first_not (refG (mel l off ld) (mel la ao al) p rl cl xl bl n) M with h1 | ⟨N, h1, h2, h3⟩
                  · rcases Nat.eq_zero_or_pos M with h0 | h0
                    · exact bt_mz H x l off ld n hI hg q la ao al hJ r1 q' p hpm (by omega) r4 kr rl hrm kc cl hcm (by omega) (by omega) (by omega) (by omega) xx xl hxm xb bl hbm most hs hb hx hz hxl hbl M hM M rfl (by omega) h1 h0
                    · exact bt_mp H x l off ld n hI hg q la ao al hJ r1 q' p hpm (by omega) r4 kr rl hrm kc cl hcm (by omega) (by omega) (by omega) (by omega) xx xl hxm xb bl hbm most hs hb hx hz hxl hbl M hM M rfl (by omega) h1 h0
                  · rcases Nat.eq_zero_or_pos N with h0 | h0
                    · exact bt_bz H x l off ld n hI hg q la ao al hJ r1 q' p hpm (by omega) r4 kr rl hrm kc cl hcm (by omega) (by omega) (by omega) (by omega) xx xl hxm xb bl hbm most hs hb hx hz hxl hbl M hM N h1 (by omega) h2 h3 h0
                    · exact bt_bp H x l off ld n hI hg q la ao al hJ r1 q' p hpm (by omega) r4 kr rl hrm kc cl hcm (by omega) (by omega) (by omega) (by omega) xx xl hxm xb bl hbm most hs hb hx hz hxl hbl M hM N h1 (by omega) h2 h3 h0
                · exact bt_y H x l off ld n hI hg q la ao al hJ r1 q' p hpm (by omega) r4 kr rl hrm kc cl hcm (by omega) (by omega) (by omega) (by omega) xx xl hxm xb bl hbm most hs hb hx hz hxl hbl
              · exact bt_x H x l off ld n hI hg q la ao al hJ r1 q' p hpm (by omega) r4 kr rl hrm kc cl hcm (by omega) (by omega) (by omega) (by omega) xx xl hxm xb bl hbm most hs hb hx hz hxl
            · exact bt_4 H x l off ld n hI hg q la ao al hJ r1 q' p hpm (by omega) r4 kr rl hrm kc cl hcm (by omega) (by omega) (by omega) (by omega) xx xl hxm xb bl hbm most hs hb hx z hzn hz hz1
          · exact bt_3 H x l off rows cols ld hI q la ao ar ac al hJ q' p hpm kr rl hrm kc cl hcm xx xl hxm xb bl hbm most hs hb hx hg hr hz9
        · exact bt_1 H x l off rows cols ld hI q la ao ar ac al hJ q' p hpm kr rl hrm kc cl hcm xx xl hxm xb bl hbm most hs hb hx hok
      · exact bt_i H x l off rows cols ld hI q la ao ar ac al hJ q' p hpm kr rl hrm kc cl hcm xx xl hxm xb bl hbm most hs hb hx
    · exact bt_h H x l off rows cols ld hI q la ao ar ac al hJ q' p hpm kr rl hrm kc cl hcm xx xl hxm xb bl hbm most hs hb
  · exact bt_g H x l off rows cols ld hI q la ao ar ac al hJ q' p hpm kr rl hrm kc cl hcm xx xl hxm xb bl hbm most hs

end Go.Sx
