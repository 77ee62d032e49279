/- A part of the proofs of this seat: YD. No condition is set. -/
import Derived.Test.YthjjpbcmimpjbaaXS
import Derived.Test.YthjjpbcmimpjbaaYA
import Derived.Test.YthjjpbcmimpjbaaYC
set_option linter.unusedVariables false
set_option linter.unusedSimpArgs false
set_option maxRecDepth 20000
namespace Go.Sx
open Go.Proofs

/-! ### what is left, number by number -/
def foldF (f : Nat → Nat) (mo : Nat → Nat → Nat → Nat) (a : Nat → Nat → Nat) (i : Nat) : Nat → Nat
  | 0 => f i
  | j + 1 => mo (foldF f mo a i j) (a i j) j
def restF (a : Nat → Nat → Nat) (x b : List Nat) (i j : Nat) : Nat := foldF (fun i => b.getD i 0) (fun s c j => fsub s (fmul c (x.getD j 0))) a i j
def wtF (a : Nat → Nat → Nat) (x b : List Nat) (i j : Nat) : Nat := foldF (fun i => absF (b.getD i 0)) (fun s c j => fadd s (fmul (absF c) (absF (x.getD j 0)))) a i j
theorem b_stNA {P : Program} {cfg : Cfg} {e : List (Nat × EV)} {L : List (Nat × List AV)} {K : St → Prop} {ty : TypeId} {pos : String} {aft : Array Edge} {gd : Option (Nat × Bool)} {t : TypeId} {x v : Operand} {n i gen len sz m : Nat} {a : Bool} {cs vs : List AV} {A N N' : List (List AV)} [ti : TyI P t m a] {ev : EV} (hx : St.ev ⟨e, L, A ++ N⟩ x = .val (.eptr (.slm (n + i) gen 0 len sz) 0)) (hv : St.ev ⟨e, L, A ++ N⟩ v = ev) (hvs : ev.asV.bind AV.cells = some vs)
    (hn : vs.length = m) (hA : A.length = n) (hc : N[i]? = some cs) (hg : cs.length = gen) (hl : vs.length = cs.length) (hcf : cfg.n0 = n) (hN : N.set i vs = N') (h : K ⟨e, L, A ++ N'⟩) : opX P cfg ⟨none, .store t x v, ty, pos, aft, gd⟩ K ⟨e, L, A ++ N⟩ := by
  refine b_stH hx hv hvs hn (hg_new hA hc) hg (by omega) (.inl (by omega)) rfl ?_
  have e1 : sc cs (0 + 0) vs = vs := sc_all hl
  rw [e1, hs_new hA hN]; exact h
attribute [local irreducible] Ex exOps exD opX opE thenX blkX RetQ Spec CSpec Fr condK guardK guardD ckK valK pickK loadK faK callK argK gK fK rK RetV lpX prK
set_option maxHeartbeats 4000000 in
theorem cl1_c (H : List (List AV)) (bk : Nat) (X : AV) (hbk : H[bk]? = some [X]) (l : List Nat) (hF : FL H X l) (i : Nat) (hi : i < l.length) :
    CSpec Try.prog 81 [.int .i64 (i : Int), .eptr (.slm bk 1 0 1 1) 0] H (.flt (l.getD i 0)) H := by
  refine .mk (fun args w => Try.call81 args w) (Spec.intro' (fn := Try.f81) Try.func81 rfl (by kernel_rfl) (by simp) false [] (draw := drawX Try.prog ⟨false, _, []⟩) dOk ?_)
  simp only [argE, Nat.reduceAdd]
  repeat' (first
    | (refine gateE ?_; (first | refine b_c0 ?_ | refine b_nil ?_ | fail))
    | (refine gateO ?_; (first | refine m14 ?_ | (refine m07 ?_; (first | refine m15 ?_ | refine m16 ?_ | refine l_FL (FL.app hF _) hi ?_ | refine l_o1 hbk (by exact rfl) (by exact rfl) ?_ | fail)) | refine b_iaN (by (conv => {lhs; whnf}); done) (by (conv => {lhs; whnf}); done) (by exact hF.len) hi ?_ | refine m42 ?_ | refine b_assignI ?_ | refine b_assignN ?_ | refine m08 ?_ | fail))
    | (refine gateT ?_; (first | refine b_thn ?_ | refine b_thr ?_ | refine b_the ?_ | fail))
    | (refine gateX ?_; (first | refine b_seq ?_ | refine b_region ?_ | (refine m06 ?_; (first | refine c_T ?_ | refine c_F ?_ | refine c_P ?_ ?_ | refine c_B ?_ ?_ | fail)) | refine b_ret ?_ | refine b_skip ?_ | refine b_block ?_ | refine b_exit ?_ | fail))
    | (refine gateQ ?_; refine m05 ?_)
    | (refine gateR ?_; (first | refine m04 ?_ | refine m02 ?_ | refine m03 ?_ | refine rk_nil ?_ | fail))
    | intro _)
  all_goals first
    | (exfalso; omega)
    | (refine rv_old rfl (by simp [mx, mxL, resOne, aOf, aOf1]) ?_; exact rfl)
    | (exfalso; simp_all; done)

set_option maxHeartbeats 4000000 in
theorem cl2_c (H : List (List AV)) (bk : Nat) (X : AV) (hbk : H[bk]? = some [X]) (l : List Nat) (hF : FL H X l) (i : Nat) (hi : i < l.length) (s c : Nat) :
    CSpec Try.prog 82 [.flt s, .flt c, .int .i64 (i : Int), .eptr (.slm bk 1 0 1 1) 0] H (.flt (fsub s (fmul c (l.getD i 0)))) H := by
  refine .mk (fun args w => Try.call82 args w) (Spec.intro' (fn := Try.f82) Try.func82 rfl (by kernel_rfl) (by simp) false [] (draw := drawX Try.prog ⟨false, _, []⟩) dOk ?_)
  simp only [argE, Nat.reduceAdd]
  repeat' (first
    | (refine gateE ?_; (first | refine b_c0 ?_ | refine b_nil ?_ | fail))
    | (refine gateO ?_; (first | refine m14 ?_ | (refine m07 ?_; (first | refine m15 ?_ | refine m16 ?_ | refine l_FL (FL.app hF _) hi ?_ | refine l_o1 hbk (by exact rfl) (by exact rfl) ?_ | fail)) | refine b_iaN (by (conv => {lhs; whnf}); done) (by (conv => {lhs; whnf}); done) (by exact hF.len) hi ?_ | (refine m00 ?_; (first | refine m49 ?_ | refine m50 ?_ | refine v_k ?_ | refine m51 ?_ | fail)) | refine m42 ?_ | refine b_assignI ?_ | refine b_assignN ?_ | refine m08 ?_ | fail))
    | (refine gateT ?_; (first | refine b_thn ?_ | refine b_thr ?_ | refine b_the ?_ | fail))
    | (refine gateX ?_; (first | refine b_seq ?_ | refine b_region ?_ | (refine m06 ?_; (first | refine c_T ?_ | refine c_F ?_ | refine c_P ?_ ?_ | refine c_B ?_ ?_ | fail)) | refine b_ret ?_ | refine b_skip ?_ | refine b_block ?_ | refine b_exit ?_ | fail))
    | (refine gateQ ?_; refine m05 ?_)
    | (refine gateR ?_; (first | refine m04 ?_ | refine m02 ?_ | refine m03 ?_ | refine rk_nil ?_ | fail))
    | intro _)
  all_goals first
    | (exfalso; omega)
    | (refine rv_old rfl (by simp [mx, mxL, resOne, aOf, aOf1]) ?_; exact rfl)
    | (exfalso; simp_all; done)

set_option maxHeartbeats 4000000 in
theorem cl3_c (H : List (List AV)) (bk : Nat) (X : AV) (hbk : H[bk]? = some [X]) (l : List Nat) (hF : FL H X l) (i : Nat) (hi : i < l.length) :
    CSpec Try.prog 83 [.int .i64 (i : Int), .eptr (.slm bk 1 0 1 1) 0] H (.flt (absF (l.getD i 0))) H := by
  refine .mk (fun args w => Try.call83 args w) (Spec.intro' (fn := Try.f83) Try.func83 rfl (by kernel_rfl) (by simp) false [] (draw := drawX Try.prog ⟨false, _, []⟩) dOk ?_)
  simp only [argE, Nat.reduceAdd]
  repeat' (first
    | (refine gateE ?_; (first | refine b_c0 ?_ | refine b_nil ?_ | fail))
    | (refine gateO ?_; (first | refine m14 ?_ | (refine m07 ?_; (first | refine m15 ?_ | refine m16 ?_ | refine l_FL (FL.app hF _) hi ?_ | refine l_o1 hbk (by exact rfl) (by exact rfl) ?_ | fail)) | refine b_iaN (by (conv => {lhs; whnf}); done) (by (conv => {lhs; whnf}); done) (by exact hF.len) hi ?_ | refine m42 ?_ | refine b_assignI ?_ | refine b_assignN ?_ | refine m08 ?_ | refine b_callB ?_ | fail))
    | (refine gateT ?_; (first | refine b_thn ?_ | refine b_thr ?_ | refine b_the ?_ | fail))
    | (refine gateX ?_; (first | refine b_seq ?_ | refine b_region ?_ | (refine m06 ?_; (first | refine c_T ?_ | refine c_F ?_ | refine c_P ?_ ?_ | refine c_B ?_ ?_ | fail)) | refine b_ret ?_ | refine b_skip ?_ | refine b_block ?_ | refine b_exit ?_ | fail))
    | refine m21 ?_
    | refine a_nil ?_
    | (refine gateK ?_; (first | refine c_call (mabs_c _ _) (OldOk.app (by simp)) ?_ | fail))
    | (refine gateQ ?_; refine m05 ?_)
    | (refine gateR ?_; (first | refine m04 ?_ | refine m02 ?_ | refine m03 ?_ | refine rk_nil ?_ | fail))
    | intro _)
  all_goals first
    | (exfalso; omega)
    | (refine rv_old rfl (by simp [mx, mxL, resOne, aOf, aOf1]) ?_; exact rfl)
    | (exfalso; simp_all; done)

set_option maxHeartbeats 4000000 in
theorem cl4_c (H : List (List AV)) (bk : Nat) (X : AV) (hbk : H[bk]? = some [X]) (l : List Nat) (hF : FL H X l) (i : Nat) (hi : i < l.length) (s c : Nat) :
    CSpec Try.prog 85 [.flt s, .flt c, .int .i64 (i : Int), .eptr (.slm bk 1 0 1 1) 0] H (.flt (fadd s (fmul (absF c) (absF (l.getD i 0))))) H := by
  refine .mk (fun args w => Try.call85 args w) (Spec.intro' (fn := Try.f85) Try.func85 rfl (by kernel_rfl) (by simp) false [] (draw := drawX Try.prog ⟨false, _, []⟩) dOk ?_)
  simp only [argE, Nat.reduceAdd]
  repeat' (first
    | (refine gateE ?_; (first | refine b_c0 ?_ | refine b_nil ?_ | fail))
    | (refine gateO ?_; (first | refine m14 ?_ | (refine m07 ?_; (first | refine m15 ?_ | refine m16 ?_ | refine l_FL (FL.app hF _) hi ?_ | refine l_o1 hbk (by exact rfl) (by exact rfl) ?_ | fail)) | refine b_iaN (by (conv => {lhs; whnf}); done) (by (conv => {lhs; whnf}); done) (by exact hF.len) hi ?_ | (refine m00 ?_; (first | refine m49 ?_ | refine m50 ?_ | refine v_k ?_ | refine m51 ?_ | fail)) | refine m42 ?_ | refine b_assignI ?_ | refine b_assignN ?_ | refine m08 ?_ | refine b_callB ?_ | fail))
    | (refine gateD ?_; (first | refine m36 ?_ | refine d_nil ?_ | fail))
    | (refine gateC ?_; (first | refine k_lt ?_ | refine k_fz ?_ | refine k_lb (by (conv => {lhs; whnf}); done) ?_ | refine k_ms ?_ | refine k_bx (by exact rfl) (by exact rfl) ?_ | refine m34 ?_ | refine m35 ?_ | refine m33 ?_ | refine k_mn ?_ | refine m56 ?_ | refine k_mnF ?_ | refine k_mnL (by exact rfl) ?_ | fail))
    | (refine gateT ?_; (first | refine b_thn ?_ | refine b_thr ?_ | refine b_the ?_ | fail))
    | (refine gateX ?_; (first | refine b_seq ?_ | refine b_region ?_ | (refine m06 ?_; (first | refine c_T ?_ | refine c_F ?_ | refine c_P ?_ ?_ | refine c_B ?_ ?_ | fail)) | refine b_ret ?_ | refine b_skip ?_ | refine b_block ?_ | refine b_exit ?_ | refine b_draw (id := 1) [] [] [(0, .lt), (1, .lt), (3, .ld true), (4, .lt), (5, .lt), (6, .ld true), (2, .mn true), (7, .mn true), (8, .lt), (9, .lt), (10, .lt)] (by kernel_rfl) ?_ | fail))
    | refine m21 ?_
    | refine a_nil ?_
    | (refine gateK ?_; (first | refine c_call (mabs_c _ _) (OldOk.app (by simp)) ?_ | fail))
    | (refine gateQ ?_; refine m05 ?_)
    | (refine gateR ?_; (first | refine m04 ?_ | refine m02 ?_ | refine m03 ?_ | refine rk_nil ?_ | fail))
    | intro _)
  all_goals first
    | (exfalso; omega)
    | (refine rv_old rfl (by simp [mx, mxL, resOne, aOf, aOf1]) ?_; exact rfl)
    | (exfalso; simp_all; done)

set_option maxHeartbeats 4000000 in
theorem rows_c (H : List (List AV)) (D : AV) (l : List Nat) (hF : FL H D l) (off ld : Int) (n : Nat) (hI : MI l.length off n n ld) (hG : GoodP l.length off n n ld) (hn : n ≤ 64) (fid1 fid2 : Nat) (caps1 caps2 : List AV) (f : Nat → Nat) (mo : Nat → Nat → Nat → Nat) (h1 : ∀ i N, i < n → CSpec Try.prog fid1 ([.int .i64 (i : Int)] ++ caps1) (H ++ N) (.flt (f i)) (H ++ N)) (h2 : ∀ s c j N, j < n → CSpec Try.prog fid2 ([.flt s, .flt c, .int .i64 (j : Int)] ++ caps2) (H ++ N) (.flt (mo s c j)) (H ++ N)) :
    CSpec Try.prog 86 [.agg [.func fid1 [] caps1, .func fid2 [] caps2], mt D off (n : Int) (n : Int) ld] H (.sl none n (fl (rml (fun i => foldF f mo (mel l off ld) i n) n))) H := by
  refine .mk (fun args w => Try.call86 args w) (Spec.intro' (fn := Try.f86) Try.func86 rfl (by kernel_rfl) (by simp) false [35] (draw := drawX Try.prog ⟨false, _, [35]⟩) dOk ?_)
  simp only [argE, Nat.reduceAdd]
  repeat' (first
    | (refine gateE ?_; (first | refine b_c0 ?_ | refine b_nil ?_ | fail))
    | (refine gateO ?_; (first | refine m41 ?_ | refine b_moveI ?_ | refine m14 ?_ | (refine m17 ?_; first | refine m19 ?_ | refine m18 ?_) | (refine m07 ?_; (first | refine m15 ?_ | refine m16 ?_ | fail)) | refine b_grow (i := 0) (N₀ := []) (by (conv => {lhs; whnf}); done) (by (conv => {lhs; whnf}); done) (by exact rfl) (by exact rfl) (by simp) (by omega) (by exact rfl) (by exact rfl) (l' := fl (rml (fun i => foldF f mo (mel l off ld) i n) (k + 1))) (by exact rml_fl (fun i => foldF f mo (mel l off ld) i n) k) ?_ | (refine m00 ?_; (first | refine v_to ((k + 1 : Nat) : Int) (by omega) (by omega) ?_ | refine v_to ((t + 1 : Nat) : Int) (by omega) (by omega) ?_ | refine m47 ?_ | refine m48 ?_ | refine m49 ?_ | refine m50 ?_ | refine v_k ?_ | refine m51 ?_ | fail)) | refine m42 ?_ | refine b_assignI ?_ | refine b_assignN ?_ | refine m08 ?_ | refine b_callB ?_ | refine m39 ?_ | refine m01 ?_ | refine b_bslZ (by exact rfl) (by exact rfl) (by decide) ?_ | fail))
    | (refine gateD ?_; (first | refine m36 ?_ | refine d_nil ?_ | fail))
    | (refine gateC ?_; (first | refine k_lt ?_ | refine k_fz ?_ | refine k_lb (by (conv => {lhs; whnf}); done) ?_ | refine k_ms ?_ | refine k_bx (by exact rfl) (by exact rfl) ?_ | refine m34 ?_ | refine m35 ?_ | refine m33 ?_ | refine k_mn ?_ | refine m56 ?_ | refine k_mnF ?_ | refine k_mnL (by exact rfl) ?_ | fail))
    | (refine gateT ?_; (first | refine b_thn ?_ | refine b_thr ?_ | refine b_the ?_ | fail))
    | (refine gateX ?_; (first | refine b_seq ?_ | refine b_region ?_ | (refine m06 ?_; (first | refine c_T ?_ | refine c_F ?_ | refine c_P ?_ ?_ | refine c_B ?_ ?_ | fail)) | refine b_ret ?_ | refine b_skip ?_ | refine b_block ?_ | refine b_exit ?_ | refine b_draw (id := 9) [] [] [(0, .lt), (1, .ld true), (2, .lt), (3, .ld true), (4, .lt), (5, .lt), (7, .lt), (6, .mn true), (8, .mn true), (9, .lt)] (by kernel_rfl) ?_ | (refine b_loop [2, 3, 5, 6, 7, 10, 11, 19, 20] n (fun t => ⟨[(2, .loc 2 0), (3, .loc 3 0), (5, .val (gV H.length 0 k)), (6, .val (.int .i64 ((k : Nat) : Int))), (7, .val (.flt (foldF f mo (mel l off ld) k t))), (10, .val (.int .i64 ((n : Nat) : Int))), (11, .val (.int .i64 ((k : Nat) : Int))), (19, .val (.int .i64 ((n : Nat) : Int))), (20, .val (.int .i64 ((t : Nat) : Int)))], [(2, [.func fid1 [] caps1, .func fid2 [] caps2]), (3, [D, .int .i64 off, .int .i64 (n : Int), .int .i64 (n : Int), .int .i64 ld])], H ++ ([] ++ gN (fl (rml (fun i => foldF f mo (mel l off ld) i n) k)))⟩) (by exact rfl) ?_ ?_ <;> (first | intro t ht K hK | intro K) <;> (try dsimp only at *)) | (refine b_loop [2, 3, 5, 10, 11] n (fun k => ⟨[(2, .loc 2 0), (3, .loc 3 0), (5, .val (gV H.length 0 k)), (10, .val (.int .i64 ((n : Nat) : Int))), (11, .val (.int .i64 ((k : Nat) : Int)))], [(2, [.func fid1 [] caps1, .func fid2 [] caps2]), (3, [D, .int .i64 off, .int .i64 (n : Int), .int .i64 (n : Int), .int .i64 ld])], H ++ ([] ++ gN (fl (rml (fun i => foldF f mo (mel l off ld) i n) k)))⟩) (by exact rfl) ?_ ?_ <;> (first | intro k hk K hK | intro K) <;> (try dsimp only at *)) | fail))
    | refine m21 ?_
    | refine a_nil ?_
    | (refine gateK ?_; (first | refine c_call (h1 k _ (by omega)) (OldOk.app (by simp)) ?_ | refine c_call (vat_n _ D l (FL.app hF _) off ld n hI hG k t (by omega) (by omega) _ rfl) (OldOk.app (by simp)) ?_ | refine c_call (h2 _ _ t _ (by omega)) (OldOk.app (by simp)) ?_ | fail))
    | refine m44 ?_
    | refine m40 ?_
    | (refine gk_nilN (by (conv => {lhs; simp only [List.nil_append, List.cons_append]}); done) ?_; first | refine ⟨by exact rfl, ?_⟩ | skip)
    | refine gk_nil ?_
    | (intro N' hN'; simp only [List.nil_append, List.cons_append] at hN'; subst hN')
    | (refine gateB ?_; (first | refine b_bln ?_ | refine b_blr ?_ | refine b_ble ?_ | refine m57 ?_ | fail))
    | (refine gateL ?_; (first | refine lp_n ?_ | refine lp_r ?_ | refine lp_e ?_ | fail))
    | (refine pr_k (by exact rfl) ?_; first | exact hK | fail | (exfalso; first | omega | (simp_all; done) | (simp_all; omega)))
    | (refine gateQ ?_; refine m05 ?_)
    | (refine gateR ?_; (first | refine m04 ?_ | refine m02 ?_ | refine m03 ?_ | refine rk_nil ?_ | fail))
    | intro _)
  all_goals first
    | (exfalso; omega)
    | (refine rv_fr rfl ?_; exact gV_fr (N₀ := []) (i := 0) rfl rfl (by simp) (by rw [mxL_fl]; exact Nat.zero_le _))


end Go.Sx

set_option linter.unusedVariables false
set_option linter.unusedSimpArgs false
set_option maxRecDepth 20000
namespace Go.Sx
open Go.Proofs

/-- how much a rest may be; the quotient -/
def bndF (n : Nat) (r w : List Nat) (i : Nat) : Nat := fadd (fadd (absF (r.getD i 0)) (fmul (scaleF (cn (FloatKind.f64.nearest ((n + 3 : Nat) : Int))) (clK (-52))) (w.getD i 0))) (scaleF (cn (FloatKind.f64.nearest ((n + 3 : Nat) : Int))) (clK (-1070)))
def ratQ (f w : Nat) : Nat := fadd (fdiv f w) (fmul (fdiv f w) (scaleF 4607182418800017408 (clK (-50))))
def ratF (f w : Nat) : Nat := if flt 4607182418800017408 (ratQ f w) = true then 4607182418800017408 else ratQ f w
theorem ratF_t {f w : Nat} (h : flt (cn 4607182418800017408) (ratQ f w) = true) : ratF f w = 4607182418800017408 := by
  rw [show cn 4607182418800017408 = 4607182418800017408 from by decide] at h
  unfold ratF; rw [if_pos h]
theorem ratF_f {f w : Nat} (h : flt (cn 4607182418800017408) (ratQ f w) = false) : ratF f w = ratQ f w := by
  rw [show cn 4607182418800017408 = 4607182418800017408 from by decide] at h
  unfold ratF; rw [if_neg (by rw [h]; simp)]
/-- is there something in a row? -/
def someR (a : Nat → Nat → Nat) (x b : List Nat) (i : Nat) : Nat → Bool
  | 0 => !feq (b.getD i 0) 0
  | j + 1 => someR a x b i j || (!feq (a i j) 0 && !feq (x.getD j 0) 0)
theorem someR_b {a : Nat → Nat → Nat} {x b : List Nat} {i : Nat} (h : feq (b.getD i 0) 0 = false) (j : Nat) : someR a x b i j = true := by
  induction j with
  | zero => simp [someR, h, -List.getD_eq_getElem?_getD]
  | succ j ih => simp [someR, ih]
theorem someR_t {a : Nat → Nat → Nat} {x b : List Nat} {i k : Nat} (h : feq (a i k) 0 = false) (h2 : feq (x.getD k 0) 0 = false) {j : Nat} (hj : k < j) : someR a x b i j = true := by
  induction j with
  | zero => omega
  | succ j ih =>
    by_cases e : k = j
    · subst e; simp [someR, h, h2, -List.getD_eq_getElem?_getD]
    · simp [someR, ih (by omega)]
theorem someR_f {a : Nat → Nat → Nat} {x b : List Nat} {i : Nat} (h : feq (b.getD i 0) 0 = true) {j : Nat} (hj : ∀ k, k < j → ¬ (feq (a i k) 0 = false ∧ feq (x.getD k 0) 0 = false)) : someR a x b i j = false := by
  induction j with
  | zero => simp [someR, h, -List.getD_eq_getElem?_getD]
  | succ j ih =>
    have := hj j (by omega)
    simp only [someR, ih (fun k hk => hj k (by omega)), Bool.false_or]
    cases e1 : feq (a i j) 0 <;> cases e2 : feq (x.getD j 0) 0 <;> simp_all
/-- the backward errors of the rows that say one -/
def berrL (f w : List Nat) (sm : Nat → Bool) : Nat → List Nat
  | 0 => []
  | k + 1 => if feq (w.getD k 0) 0 = false then berrL f w sm k ++ [ratF (f.getD k 0) (w.getD k 0)] else if sm k = true then berrL f w sm k ++ [4607182418800017408] else berrL f w sm k
theorem berrL_w {f w : List Nat} {sm : Nat → Bool} {k : Nat} (h : feq (w.getD k 0) 0 = false) : berrL f w sm (k + 1) = berrL f w sm k ++ [ratF (f.getD k 0) (w.getD k 0)] := by simp [berrL, h, -List.getD_eq_getElem?_getD]
theorem berrL_s {f w : List Nat} {sm : Nat → Bool} {k : Nat} (h : feq (w.getD k 0) 0 = true) (h2 : sm k = true) : berrL f w sm (k + 1) = berrL f w sm k ++ [4607182418800017408] := by simp [berrL, h, h2, -List.getD_eq_getElem?_getD]
theorem berrL_n {f w : List Nat} {sm : Nat → Bool} {k : Nat} (h : feq (w.getD k 0) 0 = true) (h2 : sm k = false) : berrL f w sm (k + 1) = berrL f w sm k := by simp [berrL, h, h2, -List.getD_eq_getElem?_getD]
theorem berrL_len (f w : List Nat) (sm : Nat → Bool) (k : Nat) : (berrL f w sm k).length ≤ k := by
  induction k with
  | zero => simp [berrL]
  | succ k ih =>
    unfold berrL
    split
    · simp; omega
    · split
      · simp; omega
      · omega
def restL (a : Nat → Nat → Nat) (x b : List Nat) (n : Nat) : List Nat := rml (fun i => restF a x b i n) n
def wtL (a : Nat → Nat → Nat) (x b : List Nat) (n : Nat) : List Nat := rml (fun i => wtF a x b i n) n
def bndL (r w : List Nat) (n : Nat) : List Nat := rml (bndF n r w) n
@[simp] theorem restL_len (a : Nat → Nat → Nat) (x b : List Nat) (n : Nat) : (restL a x b n).length = n := by simp [restL]
@[simp] theorem wtL_len (a : Nat → Nat → Nat) (x b : List Nat) (n : Nat) : (wtL a x b n).length = n := by simp [wtL]
@[simp] theorem bndL_len (r w : List Nat) (n : Nat) : (bndL r w n).length = n := by simp [bndL]
def berrR (a : Nat → Nat → Nat) (x b : List Nat) (n k : Nat) : List Nat := berrL (bndL (restL a x b n) (wtL a x b n) n) (wtL a x b n) (fun i => someR a x b i n) k
def berrF (a : Nat → Nat → Nat) (x b : List Nat) (n : Nat) : Nat := greatF (berrR a x b n n)
theorem FLn (H : List (List AV)) (l : List Nat) (n : Nat) (h : l.length = n) : FL H (.sl none n (fl l)) l := by subst h; exact FL.fz H none l
attribute [local irreducible] Ex exOps exD opX opE thenX blkX RetQ Spec CSpec Fr condK guardK guardD ckK valK pickK loadK faK callK argK gK fK rK RetV lpX prK
set_option maxHeartbeats 4000000 in
theorem rk_0 (H : List (List AV)) (D : AV) (l : List Nat) (hF : FL H D l) (off ld : Int) (n : Nat) (hI : MI l.length off n n ld) (hG : GoodP l.length off n n ld) (hn : n ≤ 64) (X : AV) (xl : List Nat) (hX : FL H X xl) (hxl : xl.length = n) (B : AV) (bl : List Nat) (hB : FL H B bl) (hbl : bl.length = n) :
    CSpec Try.prog 80 [mt D off (n : Int) (n : Int) ld, X, B] H (.int .i64 0) H := by
  have hXn : slen X = some n := (by rw [hX.len, hxl])
  have hBn : slen B = some n := (by rw [hB.len, hbl])
  obtain ⟨hm, ho1, ho2, hr1, hr2, hc1, hc2, hl1, hl2⟩ := id hI
  refine .mk (fun args w => Try.call80 args w) (Spec.intro' (fn := Try.f80) Try.func80 rfl (by kernel_rfl) (by simp) false [] (draw := drawX Try.prog ⟨false, _, []⟩) dOk ?_)
  simp only [argE, Nat.reduceAdd]
  repeat' (first
    | (refine gateE ?_; (first | refine b_c0 ?_ | refine b_nil ?_ | refine m13 ?_ | refine m12 ?_ | refine m11 ?_ | (refine m10 ?_; (first | refine g_TT ?_ | refine g_FF ?_ | refine g_TF ?_ | refine g_FT ?_ | refine g_PT ?_ ?_ | refine g_PF ?_ ?_ | refine g_BT ?_ ?_ | refine g_BF ?_ ?_ | fail)) | (refine m09 ?_; (first | refine g_TT ?_ | refine g_FF ?_ | refine g_TF ?_ | refine g_FT ?_ | refine g_PT ?_ ?_ | refine g_PF ?_ ?_ | refine g_BT ?_ ?_ | refine g_BF ?_ ?_ | fail)) | refine m38 ?_ | fail))
    | (refine gateO ?_; (first | refine m14 ?_ | (refine m17 ?_; first | refine m19 ?_ | refine m18 ?_) | (refine m07 ?_; (first | refine m15 ?_ | refine m16 ?_ | fail)) | refine b_lenA (by (conv => {lhs; whnf}); done) (by exact hXn) ?_ | refine b_lenA (by (conv => {lhs; whnf}); done) (by exact hBn) ?_ | (refine m00 ?_; (first | refine m54 ?_ | refine m55 ?_ | refine v_neP ?_ | refine m47 ?_ | refine m48 ?_ | refine m49 ?_ | refine m50 ?_ | refine v_nT ?_ | refine v_nF ?_ | refine v_nP ?_ | refine v_k ?_ | refine m51 ?_ | fail)) | (refine m22 ?_; (first | refine m26 ?_ | refine m27 ?_ | fail)) | refine m42 ?_ | refine b_assignI ?_ | refine b_assignN ?_ | refine m08 ?_ | (refine m20 ?_; (first | refine m54 ?_ | refine m55 ?_ | refine v_neP ?_ | refine m47 ?_ | refine m48 ?_ | refine m49 ?_ | refine m50 ?_ | refine v_nT ?_ | refine v_nF ?_ | refine v_nP ?_ | refine v_k ?_ | refine m51 ?_ | fail)) | refine b_callB ?_ | refine b_lenA (by (conv => {lhs; whnf}); done) (by first | rfl | assumption) ?_ | refine m01 ?_ | fail))
    | (refine gateT ?_; (first | refine b_thn ?_ | refine b_thr ?_ | refine b_the ?_ | fail))
    | (refine gateX ?_; (first | refine b_seq ?_ | refine b_region ?_ | (refine m06 ?_; (first | refine c_T ?_ | refine c_F ?_ | refine c_P ?_ ?_ | refine c_B ?_ ?_ | fail)) | refine b_ret ?_ | refine b_skip ?_ | refine b_block ?_ | refine b_exit ?_ | fail))
    | refine m21 ?_
    | refine a_nil ?_
    | (refine gateK ?_; (first | refine c_call (good_c _ D l.length off n n ld hF.len hI) (OldOk.app (by simp)) ?_ | fail))
    | (refine gateB ?_; (first | refine b_bln ?_ | refine b_blr ?_ | refine b_ble ?_ | refine m57 ?_ | fail))
    | (refine gateQ ?_; refine m05 ?_)
    | (refine gateR ?_; (first | refine m04 ?_ | refine m02 ?_ | refine m03 ?_ | refine rk_nil ?_ | fail))
    | intro _)
  all_goals first
    | (exfalso; contradiction)
    | (exfalso; omega)
    | (exfalso; simp_all; done)
    | (refine rv_old rfl (by simp [mx, mxL, resOne, aOf, aOf1]) ?_; exact rfl)

set_option maxHeartbeats 4000000 in
theorem rest_c (H : List (List AV)) (D : AV) (l : List Nat) (hF : FL H D l) (off ld : Int) (n : Nat) (hI : MI l.length off n n ld) (hG : GoodP l.length off n n ld) (hn : n ≤ 64) (X : AV) (xl : List Nat) (hX : FL H X xl) (hxl : xl.length = n) (B : AV) (bl : List Nat) (hB : FL H B bl) (hbl : bl.length = n) :
    CSpec Try.prog 44 [mt D off (n : Int) (n : Int) ld, X, B] H (.tup [.sl none n (fl (restL (mel l off ld) xl bl n)), .sl none n (fl (wtL (mel l off ld) xl bl n)), .int .i64 0]) H := by
  have hXn : slen X = some n := (by rw [hX.len, hxl])
  have hBn : slen B = some n := (by rw [hB.len, hbl])
  obtain ⟨hm, ho1, ho2, hr1, hr2, hc1, hc2, hl1, hl2⟩ := id hI
  refine .mk (fun args w => Try.call44 args w) (Spec.intro' (fn := Try.f44) Try.func44 rfl (by kernel_rfl) (by simp) true [] (draw := drawX Try.prog ⟨true, _, []⟩) dOk ?_)
  simp only [argE, Nat.reduceAdd]
  repeat' (first
    | (refine gateE ?_; (first | refine b_c0 ?_ | refine b_nil ?_ | fail))
    | (refine gateO ?_; (first | refine m14 ?_ | (refine m07 ?_; (first | refine m15 ?_ | refine m16 ?_ | refine l_nA (by exact rfl) (by exact rfl) (by exact rfl) (by exact rfl) ?_ | refine l_n1 (by exact rfl) (by exact rfl) (by exact rfl) (by exact rfl) ?_ | fail)) | refine b_boxE (by (conv => {lhs; whnf}); done) (by exact cells_of_len hX.len) (by exact rfl) (by exact rfl) (by (conv => {lhs; whnf}); done) (by (conv => {lhs; simp only [List.nil_append, List.cons_append]}); done) ?_ | refine b_boxE (by (conv => {lhs; whnf}); done) (by exact cells_of_len hB.len) (by exact rfl) (by exact rfl) (by (conv => {lhs; whnf}); done) (by (conv => {lhs; simp only [List.nil_append, List.cons_append]}); done) ?_ | refine b_boxE (by (conv => {lhs; whnf}); done) (by exact rfl) (by exact rfl) (by exact rfl) (by (conv => {lhs; whnf}); done) (by (conv => {lhs; simp only [List.nil_append, List.cons_append]}); done) ?_ | refine b_mkF ?_ | refine b_allocE (by exact rfl) (by exact rfl) (by (conv => {lhs; whnf}); done) (by (conv => {lhs; simp only [List.nil_append, List.cons_append]}); done) ?_ | refine b_stNA (by (conv => {lhs; whnf}); done) (by exact rfl) (by exact rfl) (by exact rfl) (by exact rfl) (by exact rfl) (by exact rfl) (by exact rfl) (by exact rfl) (by exact rfl) ?_ | (refine m00 ?_; (first | refine m54 ?_ | refine m55 ?_ | refine v_neP ?_ | refine m49 ?_ | refine m50 ?_ | refine v_k ?_ | refine m51 ?_ | fail)) | refine m42 ?_ | refine b_assignI ?_ | refine b_assignN ?_ | refine m08 ?_ | refine b_callB ?_ | refine m25 ?_ | refine m01 ?_ | refine m24 ?_ | refine b_build ?_ | fail))
    | (refine gateD ?_; (first | refine m36 ?_ | refine d_nil ?_ | fail))
    | (refine gateC ?_; (first | refine k_lt ?_ | refine k_fz ?_ | refine k_lb (by (conv => {lhs; whnf}); done) ?_ | refine k_ms ?_ | refine k_bx (by exact rfl) (by exact rfl) ?_ | refine m34 ?_ | refine m35 ?_ | refine m33 ?_ | refine k_mn ?_ | refine m56 ?_ | refine k_mnF ?_ | refine k_mnL (by exact rfl) ?_ | fail))
    | (refine gateT ?_; (first | refine b_thn ?_ | refine b_thr ?_ | refine b_the ?_ | fail))
    | (refine gateX ?_; (first | refine b_seq ?_ | refine b_region ?_ | (refine m06 ?_; (first | refine c_T ?_ | refine c_F ?_ | refine c_P ?_ ?_ | refine c_B ?_ ?_ | fail)) | refine b_ret ?_ | refine b_skip ?_ | refine b_block ?_ | refine b_exit ?_ | refine b_draw (id := 6) [] [] [(0, .ld true), (1, .ld true), (3, .ld true), (4, .ld true), (2, .mn true), (5, .mn true), (6, .lt), (7, .lt), (8, .lt)] (by kernel_rfl) ?_ | fail))
    | refine m21 ?_
    | refine a_nil ?_
    | (refine gateK ?_; (first | refine c_call (rk_0 _ D l (FL.app hF _) off ld n hI hG hn X xl (FL.app hX _) hxl B bl (FL.app hB _) hbl) (OldOk.app (by simp)) ?_ | refine c_call (rows_c _ D l (FL.app hF _) off ld n hI hG hn 81 82 [.eptr (.slm (H.length + 2) 1 0 1 1) 0] [.eptr (.slm (H.length + 1) 1 0 1 1) 0] (fun i => bl.getD i 0) (fun s c j => fsub s (fmul c (xl.getD j 0))) (fun i N hi => cl1_c _ _ B (hg_old (hg_new (by exact rfl) rfl)) bl (FL.app (FL.app hB _) _) i (by omega)) (fun s c j N hj => cl2_c _ _ X (hg_old (hg_new (by exact rfl) rfl)) xl (FL.app (FL.app hX _) _) j (by omega) s c)) (OldOk.app (by simp)) ?_ | refine c_call (rows_c _ D l (FL.app hF _) off ld n hI hG hn 83 85 [.eptr (.slm (H.length + 2) 1 0 1 1) 0] [.eptr (.slm (H.length + 1) 1 0 1 1) 0] (fun i => absF (bl.getD i 0)) (fun s c j => fadd s (fmul (absF c) (absF (xl.getD j 0)))) (fun i N hi => cl3_c _ _ B (hg_old (hg_new (by exact rfl) rfl)) bl (FL.app (FL.app hB _) _) i (by omega)) (fun s c j N hj => cl4_c _ _ X (hg_old (hg_new (by exact rfl) rfl)) xl (FL.app (FL.app hX _) _) j (by omega) s c)) (OldOk.app (by simp)) ?_ | fail))
    | refine m58 ?_
    | refine fk_nil ?_
    | refine m44 ?_
    | refine m40 ?_
    | (refine gk_nilN (by (conv => {lhs; simp only [List.nil_append, List.cons_append]}); done) ?_; first | refine ⟨by exact rfl, ?_⟩ | skip)
    | refine gk_nil ?_
    | (intro N' hN'; simp only [List.nil_append, List.cons_append] at hN'; subst hN')
    | (refine gateQ ?_; refine m05 ?_)
    | (refine gateR ?_; (first | refine m04 ?_ | refine m02 ?_ | refine m03 ?_ | refine rk_nil ?_ | fail))
    | intro _)
  all_goals first
    | (exfalso; omega)
    | (refine rv_old rfl (by simp [mx, mxL, resOne, aOf, aOf1, mxL_fl]) ?_; exact rfl)

set_option maxHeartbeats 4000000 in
theorem bounds_c (H : List (List AV)) (n : Nat) (R : AV) (rl : List Nat) (hR : FL H R rl) (hrl : rl.length = n) (Wv : AV) (wl : List Nat) (hW : FL H Wv wl) (hwl : wl.length = n) (hn : n ≤ 64) :
    CSpec Try.prog 76 [R, Wv] H (.tup [.sl none n (fl (bndL rl wl n)), .int .i64 0]) H := by
  subst hrl
  refine .mk (fun args w => Try.call76 args w) (Spec.intro' (fn := Try.f76) Try.func76 rfl (by kernel_rfl) (by simp) false [46] (draw := drawX Try.prog ⟨false, _, [46]⟩) dOk ?_)
  simp only [argE, Nat.reduceAdd]
  repeat' (first
    | (refine gateE ?_; (first | refine b_c0 ?_ | refine b_nil ?_ | fail))
    | (refine gateO ?_; (first | refine m41 ?_ | refine b_moveI ?_ | refine m14 ?_ | (refine m07 ?_; (first | refine m15 ?_ | refine m16 ?_ | refine l_FL (FL.app hR _) (by omega) ?_ | refine l_FL (FL.app hW _) (by omega) ?_ | fail)) | refine b_lenA (by (conv => {lhs; whnf}); done) (by exact hR.len) ?_ | refine b_lenA (by (conv => {lhs; whnf}); done) (by exact hW.len) ?_ | refine b_iaN (by (conv => {lhs; whnf}); done) (by (conv => {lhs; whnf}); done) (by exact hR.len) (by omega) ?_ | refine b_iaN (by (conv => {lhs; whnf}); done) (by (conv => {lhs; whnf}); done) (by exact hW.len) (by omega) ?_ | refine b_grow (i := 0) (N₀ := []) (by (conv => {lhs; whnf}); done) (by (conv => {lhs; whnf}); done) (by exact rfl) (by exact rfl) (by simp) (by omega) (by exact rfl) (by exact rfl) (l' := fl (rml (bndF rl.length rl wl) (k + 1))) (by exact rml_fl (bndF rl.length rl wl) k) ?_ | (refine m00 ?_; (first | refine v_to ((k + 1 : Nat) : Int) (by omega) (by omega) ?_ | refine v_to ((rl.length + 3 : Nat) : Int) (by omega) (by omega) ?_ | refine m54 ?_ | refine m55 ?_ | refine v_neP ?_ | refine m47 ?_ | refine m48 ?_ | refine m49 ?_ | refine m50 ?_ | refine v_k ?_ | refine m51 ?_ | fail)) | refine m42 ?_ | refine b_assignI ?_ | refine b_assignN ?_ | refine m08 ?_ | refine b_callB ?_ | refine b_lenA (by (conv => {lhs; whnf}); done) (by first | rfl | assumption) ?_ | (refine m46 ?_; (first | refine v_to ((k + 1 : Nat) : Int) (by omega) (by omega) ?_ | refine v_to ((rl.length + 3 : Nat) : Int) (by omega) (by omega) ?_ | refine m54 ?_ | refine m55 ?_ | refine v_neP ?_ | refine m47 ?_ | refine m48 ?_ | refine m49 ?_ | refine m50 ?_ | refine v_k ?_ | refine m51 ?_ | fail)) | refine b_cnvF (by (conv => {lhs; whnf}); done) (by exact rfl) ?_ | refine b_cnvIF (by (conv => {lhs; whnf}); done) ?_ | refine b_bslZ (by exact rfl) (by exact rfl) (by decide) ?_ | fail))
    | (refine gateD ?_; (first | refine m36 ?_ | refine d_nil ?_ | fail))
    | (refine gateC ?_; (first | refine k_lt ?_ | refine k_fz ?_ | refine k_lb (by (conv => {lhs; whnf}); done) ?_ | refine k_ms ?_ | refine k_bx (by exact rfl) (by exact rfl) ?_ | refine m34 ?_ | refine m35 ?_ | refine m33 ?_ | refine k_mn ?_ | refine m56 ?_ | refine k_mnF ?_ | refine k_mnL (by exact rfl) ?_ | fail))
    | (refine gateT ?_; (first | refine b_thn ?_ | refine b_thr ?_ | refine b_the ?_ | fail))
    | (refine gateX ?_; (first | refine b_seq ?_ | refine b_region ?_ | (refine m06 ?_; (first | refine c_T ?_ | refine c_F ?_ | refine c_P ?_ ?_ | refine c_B ?_ ?_ | fail)) | refine b_ret ?_ | refine b_skip ?_ | refine b_block ?_ | refine b_exit ?_ | refine b_draw (id := 9) [] [] [(0, .lt), (2, .lt), (3, .lt), (4, .lt), (5, .lt), (6, .ld true), (7, .lt), (1, .mn true), (8, .lt), (9, .lt)] (by kernel_rfl) ?_ | (refine b_loop [1, 7, 8, 9, 26, 27, 28] rl.length (fun k => ⟨[(1, .val Wv), (7, .val (.flt (scaleF (cn (FloatKind.f64.nearest ((rl.length + 3 : Nat) : Int))) (clK (-52))))), (8, .val (.flt (scaleF (cn (FloatKind.f64.nearest ((rl.length + 3 : Nat) : Int))) (clK (-1070))))), (9, .val (gV H.length 0 k)), (26, .val R), (27, .val (.int .i64 ((rl.length : Nat) : Int))), (28, .val (.int .i64 ((k : Nat) : Int)))], [], H ++ ([] ++ gN (fl (rml (bndF rl.length rl wl) k)))⟩) (by exact rfl) ?_ ?_ <;> (first | intro k hk K hK | intro K) <;> (try dsimp only at *)) | fail))
    | refine m43 ?_
    | refine a_consI ?_
    | refine m21 ?_
    | refine a_nil ?_
    | (refine gateK ?_; (first | refine c_call (scale_c _ _ _) (OldOk.app (by simp)) ?_ | refine c_call (mabs_c _ _) (OldOk.app (by simp)) ?_ | fail))
    | refine m44 ?_
    | refine m40 ?_
    | (refine gk_nilN (by (conv => {lhs; simp only [List.nil_append, List.cons_append]}); done) ?_; first | refine ⟨by exact rfl, ?_⟩ | skip)
    | refine gk_nil ?_
    | (intro N' hN'; simp only [List.nil_append, List.cons_append] at hN'; subst hN')
    | (refine gateB ?_; (first | refine b_bln ?_ | refine b_blr ?_ | refine b_ble ?_ | refine m57 ?_ | fail))
    | (refine gateL ?_; (first | refine lp_n ?_ | refine lp_r ?_ | refine lp_e ?_ | fail))
    | (refine pr_k (by exact rfl) ?_; first | exact hK | fail | (exfalso; first | omega | (simp_all; done) | (simp_all; omega)))
    | (refine gateQ ?_; refine m05 ?_)
    | (refine gateR ?_; (first | refine m04 ?_ | refine m02 ?_ | refine m03 ?_ | refine rk_nil ?_ | fail))
    | intro _)
  all_goals first
    | (exfalso; omega)
    | (refine rv_fr rfl ?_; exact Fr.tup (Frs.cons (gV_fr (N₀ := []) (i := 0) rfl rfl (by simp) (by rw [mxL_fl]; exact Nat.zero_le _)) (Frs.cons (Fr.old (by simp [mx])) Frs.nil)))

set_option maxHeartbeats 4000000 in
theorem ratio_c (H : List (List AV)) (f w : Nat) :
    CSpec Try.prog 77 [.flt f, .flt w] H (.flt (ratF f w)) H := by
  refine .mk (fun args w => Try.call77 args w) (Spec.intro' (fn := Try.f77) Try.func77 rfl (by kernel_rfl) (by simp) false [] (draw := drawX Try.prog ⟨false, _, []⟩) dOk ?_)
  simp only [argE, Nat.reduceAdd]
  repeat' (first
    | (refine gateE ?_; (first | refine b_c0 ?_ | refine b_nil ?_ | fail))
    | (refine gateO ?_; (first | refine m14 ?_ | (refine m00 ?_; (first | refine m47 ?_ | refine m48 ?_ | refine m49 ?_ | refine m50 ?_ | refine v_qc (by omega) (by omega) ?_ | refine v_k ?_ | refine m51 ?_ | fail)) | refine m42 ?_ | refine b_assignI ?_ | refine b_assignN ?_ | refine m08 ?_ | refine b_callB ?_ | fail))
    | (refine gateT ?_; (first | refine b_thn ?_ | refine b_thr ?_ | refine b_the ?_ | fail))
    | (refine gateX ?_; (first | refine b_seq ?_ | refine b_region ?_ | (refine m06 ?_; (first | refine c_T ?_ | refine c_F ?_ | refine c_P ?_ ?_ | refine c_B ?_ ?_ | fail)) | refine b_ret ?_ | refine b_skip ?_ | refine b_block ?_ | refine b_exit ?_ | fail))
    | refine m43 ?_
    | refine a_consI ?_
    | refine m21 ?_
    | refine a_nil ?_
    | (refine gateK ?_; (first | refine c_call (two_c _ _) (OldOk.app (by simp)) ?_ | fail))
    | (refine gateQ ?_; refine m05 ?_)
    | (refine gateR ?_; (first | refine m04 ?_ | refine m02 ?_ | refine m03 ?_ | refine rk_nil ?_ | fail))
    | intro _)
  all_goals first
    | (rw [ratF_t (by assumption)]; refine rv_old rfl (by simp [mx, mxL, resOne, aOf, aOf1]) ?_; exact rfl)
    | (rw [ratF_f (by assumption)]; refine rv_old rfl (by simp [mx, mxL, resOne, aOf, aOf1]) ?_; exact rfl)

set_option maxHeartbeats 4000000 in
theorem noth_b (H : List (List AV)) (D : AV) (l : List Nat) (hF : FL H D l) (off ld : Int) (n : Nat) (hI : MI l.length off n n ld) (hG : GoodP l.length off n n ld) (hn : n ≤ 64) (X : AV) (xl : List Nat) (hX : FL H X xl) (hxl : xl.length = n) (B : AV) (bl : List Nat) (hB : FL H B bl) (hbl : bl.length = n) (i : Nat) (hi : i < n) (h0 : feq (bl.getD i 0) 0 = false) :
    CSpec Try.prog 78 [mt D off (n : Int) (n : Int) ld, X, B, .int .i64 (i : Int)] H (.bool false) H := by
  have hXn : slen X = some n := (by rw [hX.len, hxl])
  have hBn : slen B = some n := (by rw [hB.len, hbl])
  obtain ⟨hm, ho1, ho2, hr1, hr2, hc1, hc2, hl1, hl2⟩ := id hI
  refine .mk (fun args w => Try.call78 args w) (Spec.intro' (fn := Try.f78) Try.func78 rfl (by kernel_rfl) (by simp) false [] (draw := drawX Try.prog ⟨false, _, []⟩) dOk ?_)
  simp only [argE, Nat.reduceAdd]
  repeat' (first
    | (refine gateE ?_; (first | refine b_c0 ?_ | refine b_nil ?_ | refine m13 ?_ | refine m12 ?_ | refine m11 ?_ | (refine m10 ?_; (first | refine g_TT ?_ | refine g_FF ?_ | refine g_TF ?_ | refine g_FT ?_ | refine g_PT ?_ ?_ | refine g_PF ?_ ?_ | refine g_BT ?_ ?_ | refine g_BF ?_ ?_ | fail)) | (refine m09 ?_; (first | refine g_TT ?_ | refine g_FF ?_ | refine g_TF ?_ | refine g_FT ?_ | refine g_PT ?_ ?_ | refine g_PF ?_ ?_ | refine g_BT ?_ ?_ | refine g_BF ?_ ?_ | fail)) | refine m38 ?_ | fail))
    | (refine gateO ?_; (first | refine m41 ?_ | refine b_moveI ?_ | refine m14 ?_ | (refine m07 ?_; (first | refine m15 ?_ | refine m16 ?_ | refine l_FL (FL.app hX _) (by omega) ?_ | refine l_FL (FL.app hB _) (by omega) ?_ | fail)) | refine b_lenA (by (conv => {lhs; whnf}); done) (by exact hXn) ?_ | refine b_lenA (by (conv => {lhs; whnf}); done) (by exact hBn) ?_ | refine b_iaN (by (conv => {lhs; whnf}); done) (by (conv => {lhs; whnf}); done) (by exact hX.len) (by omega) ?_ | refine b_iaN (by (conv => {lhs; whnf}); done) (by (conv => {lhs; whnf}); done) (by exact hB.len) (by omega) ?_ | (refine m00 ?_; (first | refine v_to ((k + 1 : Nat) : Int) (by omega) (by omega) ?_ | refine v_neP ?_ | refine m54 ?_ | refine m55 ?_ | refine v_neP ?_ | refine m47 ?_ | refine m48 ?_ | refine m49 ?_ | refine m50 ?_ | refine v_k ?_ | refine m51 ?_ | fail)) | (refine m22 ?_; (first | refine m26 ?_ | refine m27 ?_ | fail)) | refine m42 ?_ | refine b_assignI ?_ | refine b_assignN ?_ | refine m08 ?_ | refine b_callB ?_ | refine b_lenA (by (conv => {lhs; whnf}); done) (by first | rfl | assumption) ?_ | refine m01 ?_ | fail))
    | (refine gateT ?_; (first | refine b_thn ?_ | refine b_thr ?_ | refine b_the ?_ | fail))
    | (refine gateX ?_; (first | refine b_seq ?_ | refine b_region ?_ | (refine m06 ?_; (first | refine c_T ?_ | refine c_F ?_ | refine c_P ?_ ?_ | refine c_B ?_ ?_ | fail)) | refine b_ret ?_ | refine b_skip ?_ | refine b_block ?_ | refine b_exit ?_ | fail))
    | refine m21 ?_
    | refine a_nil ?_
    | (refine gateK ?_; (first | refine c_call (vat_n _ D l (FL.app hF _) off ld n hI hG i k (by omega) (by omega) _ rfl) (OldOk.app (by simp)) ?_ | fail))
    | (refine gateB ?_; (first | refine b_bln ?_ | refine b_blr ?_ | refine b_ble ?_ | refine m57 ?_ | fail))
    | (refine gateL ?_; (first | refine lp_n ?_ | refine lp_r ?_ | refine lp_e ?_ | fail))
    | (refine pr_k (by exact rfl) ?_; first | exact hK | (exfalso; simp only [show cn 0 = 0 from by decide] at *; have := hz k (by omega); simp_all; done) | (exfalso; first | omega | (simp_all; done) | (simp_all; omega)))
    | (refine gateQ ?_; refine m05 ?_)
    | (refine gateR ?_; (first | refine m04 ?_ | refine m02 ?_ | refine m03 ?_ | refine rk_nil ?_ | fail))
    | intro _)
  all_goals first
    | (exfalso; omega)
    | (refine rv_old rfl (by simp [mx, mxL, resOne, aOf, aOf1]) ?_; exact rfl)
    | (exfalso; simp only [show cn 0 = 0 from by decide] at *; have := hz k (by omega); simp_all; done)
    | (exfalso; simp only [show cn 0 = 0 from by decide] at *; simp_all; done)

set_option maxHeartbeats 4000000 in
theorem noth_f (H : List (List AV)) (D : AV) (l : List Nat) (hF : FL H D l) (off ld : Int) (n : Nat) (hI : MI l.length off n n ld) (hG : GoodP l.length off n n ld) (hn : n ≤ 64) (X : AV) (xl : List Nat) (hX : FL H X xl) (hxl : xl.length = n) (B : AV) (bl : List Nat) (hB : FL H B bl) (hbl : bl.length = n) (i : Nat) (hi : i < n) (h0 : feq (bl.getD i 0) 0 = true) (z : Nat) (hzn : z < n) (hz : ∀ k, k < z → ¬ (feq (mel l off ld i k) 0 = false ∧ feq (xl.getD k 0) 0 = false)) (hz1 : feq (mel l off ld i z) 0 = false) (hz2 : feq (xl.getD z 0) 0 = false) :
    CSpec Try.prog 78 [mt D off (n : Int) (n : Int) ld, X, B, .int .i64 (i : Int)] H (.bool false) H := by
  have hXn : slen X = some n := (by rw [hX.len, hxl])
  have hBn : slen B = some n := (by rw [hB.len, hbl])
  obtain ⟨hm, ho1, ho2, hr1, hr2, hc1, hc2, hl1, hl2⟩ := id hI
  refine .mk (fun args w => Try.call78 args w) (Spec.intro' (fn := Try.f78) Try.func78 rfl (by kernel_rfl) (by simp) false [] (draw := drawX Try.prog ⟨false, _, []⟩) dOk ?_)
  simp only [argE, Nat.reduceAdd]
  repeat' (first
    | (refine gateE ?_; (first | refine b_c0 ?_ | refine b_nil ?_ | refine m13 ?_ | refine m12 ?_ | refine m11 ?_ | (refine m10 ?_; (first | refine g_TT ?_ | refine g_FF ?_ | refine g_TF ?_ | refine g_FT ?_ | refine g_PT ?_ ?_ | refine g_PF ?_ ?_ | refine g_BT ?_ ?_ | refine g_BF ?_ ?_ | fail)) | (refine m09 ?_; (first | refine g_TT ?_ | refine g_FF ?_ | refine g_TF ?_ | refine g_FT ?_ | refine g_PT ?_ ?_ | refine g_PF ?_ ?_ | refine g_BT ?_ ?_ | refine g_BF ?_ ?_ | fail)) | refine m38 ?_ | fail))
    | (refine gateO ?_; (first | refine m41 ?_ | refine b_moveI ?_ | refine m14 ?_ | (refine m07 ?_; (first | refine m15 ?_ | refine m16 ?_ | refine l_FL (FL.app hX _) (by omega) ?_ | refine l_FL (FL.app hB _) (by omega) ?_ | fail)) | refine b_lenA (by (conv => {lhs; whnf}); done) (by exact hXn) ?_ | refine b_lenA (by (conv => {lhs; whnf}); done) (by exact hBn) ?_ | refine b_iaN (by (conv => {lhs; whnf}); done) (by (conv => {lhs; whnf}); done) (by exact hX.len) (by omega) ?_ | refine b_iaN (by (conv => {lhs; whnf}); done) (by (conv => {lhs; whnf}); done) (by exact hB.len) (by omega) ?_ | (refine m00 ?_; (first | refine v_to ((k + 1 : Nat) : Int) (by omega) (by omega) ?_ | refine v_neP ?_ | refine m54 ?_ | refine m55 ?_ | refine v_neP ?_ | refine m47 ?_ | refine m48 ?_ | refine m49 ?_ | refine m50 ?_ | refine v_k ?_ | refine m51 ?_ | fail)) | (refine m22 ?_; (first | refine m26 ?_ | refine m27 ?_ | fail)) | refine m42 ?_ | refine b_assignI ?_ | refine b_assignN ?_ | refine m08 ?_ | refine b_callB ?_ | refine b_lenA (by (conv => {lhs; whnf}); done) (by first | rfl | assumption) ?_ | refine m01 ?_ | fail))
    | (refine gateT ?_; (first | refine b_thn ?_ | refine b_thr ?_ | refine b_the ?_ | fail))
    | (refine gateX ?_; (first | refine b_seq ?_ | refine b_region ?_ | (refine m06 ?_; (first | refine c_T ?_ | refine c_F ?_ | refine c_P ?_ ?_ | refine c_B ?_ ?_ | fail)) | refine b_ret ?_ | refine b_skip ?_ | refine b_block ?_ | refine b_exit ?_ | (refine b_loop [3, 4, 16, 17, 18] z (fun k => ⟨[(3, .val (.int .i64 ((i : Nat) : Int))), (4, .loc 4 0), (16, .val X), (17, .val (.int .i64 ((n : Nat) : Int))), (18, .val (.int .i64 ((k : Nat) : Int)))], [(4, [D, .int .i64 off, .int .i64 (n : Int), .int .i64 (n : Int), .int .i64 ld])], H ++ []⟩) (by exact rfl) ?_ ?_ <;> (first | intro k hk K hK | intro K) <;> (try dsimp only at *)) | fail))
    | refine m21 ?_
    | refine a_nil ?_
    | (refine gateK ?_; (first | refine c_call (vat_n _ D l (FL.app hF _) off ld n hI hG i k (by omega) (by omega) _ rfl) (OldOk.app (by simp)) ?_ | refine c_call (vat_n _ D l (FL.app hF _) off ld n hI hG i z (by omega) (by omega) _ rfl) (OldOk.app (by simp)) ?_ | fail))
    | (refine gateB ?_; (first | refine b_bln ?_ | refine b_blr ?_ | refine b_ble ?_ | refine m57 ?_ | fail))
    | (refine gateL ?_; (first | refine lp_n ?_ | refine lp_r ?_ | refine lp_e ?_ | fail))
    | (refine pr_k (by exact rfl) ?_; first | exact hK | (exfalso; simp only [show cn 0 = 0 from by decide] at *; have := hz k (by omega); simp_all; done) | (exfalso; first | omega | (simp_all; done) | (simp_all; omega)))
    | (refine gateQ ?_; refine m05 ?_)
    | (refine gateR ?_; (first | refine m04 ?_ | refine m02 ?_ | refine m03 ?_ | refine rk_nil ?_ | fail))
    | intro _)
  all_goals first
    | (exfalso; omega)
    | (refine rv_old rfl (by simp [mx, mxL, resOne, aOf, aOf1]) ?_; exact rfl)
    | (exfalso; simp only [show cn 0 = 0 from by decide] at *; have := hz k (by omega); simp_all; done)
    | (exfalso; simp only [show cn 0 = 0 from by decide] at *; simp_all; done)

set_option maxHeartbeats 4000000 in
theorem noth_t (H : List (List AV)) (D : AV) (l : List Nat) (hF : FL H D l) (off ld : Int) (n : Nat) (hI : MI l.length off n n ld) (hG : GoodP l.length off n n ld) (hn : n ≤ 64) (X : AV) (xl : List Nat) (hX : FL H X xl) (hxl : xl.length = n) (B : AV) (bl : List Nat) (hB : FL H B bl) (hbl : bl.length = n) (i : Nat) (hi : i < n) (h0 : feq (bl.getD i 0) 0 = true) (hz : ∀ k, k < n → ¬ (feq (mel l off ld i k) 0 = false ∧ feq (xl.getD k 0) 0 = false)) :
    CSpec Try.prog 78 [mt D off (n : Int) (n : Int) ld, X, B, .int .i64 (i : Int)] H (.bool true) H := by
  have hXn : slen X = some n := (by rw [hX.len, hxl])
  have hBn : slen B = some n := (by rw [hB.len, hbl])
  obtain ⟨hm, ho1, ho2, hr1, hr2, hc1, hc2, hl1, hl2⟩ := id hI
  refine .mk (fun args w => Try.call78 args w) (Spec.intro' (fn := Try.f78) Try.func78 rfl (by kernel_rfl) (by simp) false [] (draw := drawX Try.prog ⟨false, _, []⟩) dOk ?_)
  simp only [argE, Nat.reduceAdd]
  repeat' (first
    | (refine gateE ?_; (first | refine b_c0 ?_ | refine b_nil ?_ | refine m13 ?_ | refine m12 ?_ | refine m11 ?_ | (refine m10 ?_; (first | refine g_TT ?_ | refine g_FF ?_ | refine g_TF ?_ | refine g_FT ?_ | refine g_PT ?_ ?_ | refine g_PF ?_ ?_ | refine g_BT ?_ ?_ | refine g_BF ?_ ?_ | fail)) | (refine m09 ?_; (first | refine g_TT ?_ | refine g_FF ?_ | refine g_TF ?_ | refine g_FT ?_ | refine g_PT ?_ ?_ | refine g_PF ?_ ?_ | refine g_BT ?_ ?_ | refine g_BF ?_ ?_ | fail)) | refine m38 ?_ | fail))
    | (refine gateO ?_; (first | refine m41 ?_ | refine b_moveI ?_ | refine m14 ?_ | (refine m07 ?_; (first | refine m15 ?_ | refine m16 ?_ | refine l_FL (FL.app hX _) (by omega) ?_ | refine l_FL (FL.app hB _) (by omega) ?_ | fail)) | refine b_lenA (by (conv => {lhs; whnf}); done) (by exact hXn) ?_ | refine b_lenA (by (conv => {lhs; whnf}); done) (by exact hBn) ?_ | refine b_iaN (by (conv => {lhs; whnf}); done) (by (conv => {lhs; whnf}); done) (by exact hX.len) (by omega) ?_ | refine b_iaN (by (conv => {lhs; whnf}); done) (by (conv => {lhs; whnf}); done) (by exact hB.len) (by omega) ?_ | (refine m00 ?_; (first | refine v_to ((k + 1 : Nat) : Int) (by omega) (by omega) ?_ | refine v_neP ?_ | refine m54 ?_ | refine m55 ?_ | refine v_neP ?_ | refine m47 ?_ | refine m48 ?_ | refine m49 ?_ | refine m50 ?_ | refine v_k ?_ | refine m51 ?_ | fail)) | (refine m22 ?_; (first | refine m26 ?_ | refine m27 ?_ | fail)) | refine m42 ?_ | refine b_assignI ?_ | refine b_assignN ?_ | refine m08 ?_ | refine b_callB ?_ | refine b_lenA (by (conv => {lhs; whnf}); done) (by first | rfl | assumption) ?_ | refine m01 ?_ | fail))
    | (refine gateT ?_; (first | refine b_thn ?_ | refine b_thr ?_ | refine b_the ?_ | fail))
    | (refine gateX ?_; (first | refine b_seq ?_ | refine b_region ?_ | (refine m06 ?_; (first | refine c_T ?_ | refine c_F ?_ | refine c_P ?_ ?_ | refine c_B ?_ ?_ | fail)) | refine b_ret ?_ | refine b_skip ?_ | refine b_block ?_ | refine b_exit ?_ | (refine b_loop [3, 4, 16, 17, 18] n (fun k => ⟨[(3, .val (.int .i64 ((i : Nat) : Int))), (4, .loc 4 0), (16, .val X), (17, .val (.int .i64 ((n : Nat) : Int))), (18, .val (.int .i64 ((k : Nat) : Int)))], [(4, [D, .int .i64 off, .int .i64 (n : Int), .int .i64 (n : Int), .int .i64 ld])], H ++ []⟩) (by exact rfl) ?_ ?_ <;> (first | intro k hk K hK | intro K) <;> (try dsimp only at *)) | fail))
    | refine m21 ?_
    | refine a_nil ?_
    | (refine gateK ?_; (first | refine c_call (vat_n _ D l (FL.app hF _) off ld n hI hG i k (by omega) (by omega) _ rfl) (OldOk.app (by simp)) ?_ | fail))
    | (refine gateB ?_; (first | refine b_bln ?_ | refine b_blr ?_ | refine b_ble ?_ | refine m57 ?_ | fail))
    | (refine gateL ?_; (first | refine lp_n ?_ | refine lp_r ?_ | refine lp_e ?_ | fail))
    | (refine pr_k (by exact rfl) ?_; first | exact hK | (exfalso; simp only [show cn 0 = 0 from by decide] at *; have := hz k (by omega); simp_all; done) | (exfalso; first | omega | (simp_all; done) | (simp_all; omega)))
    | (refine gateQ ?_; refine m05 ?_)
    | (refine gateR ?_; (first | refine m04 ?_ | refine m02 ?_ | refine m03 ?_ | refine rk_nil ?_ | fail))
    | intro _)
  all_goals first
    | (exfalso; omega)
    | (refine rv_old rfl (by simp [mx, mxL, resOne, aOf, aOf1]) ?_; exact rfl)
    | (exfalso; simp only [show cn 0 = 0 from by decide] at *; have := hz k (by omega); simp_all; done)
    | (exfalso; simp only [show cn 0 = 0 from by decide] at *; simp_all; done)


theorem noth_c (H : List (List AV)) (D : AV) (l : List Nat) (hF : FL H D l) (off ld : Int) (n : Nat) (hI : MI l.length off n n ld) (hG : GoodP l.length off n n ld) (hn : n ≤ 64) (X : AV) (xl : List Nat) (hX : FL H X xl) (hxl : xl.length = n) (B : AV) (bl : List Nat) (hB : FL H B bl) (hbl : bl.length = n) (i : Nat) (hi : i < n) : CSpec Try.prog 78 [mt D off (n : Int) (n : Int) ld, X, B, .int .i64 (i : Int)] H (.bool (!someR (mel l off ld) xl bl i n)) H := by
  cases h0 : feq (bl.getD i 0) 0
  · rw [someR_b h0]; exact noth_b H D l hF off ld n hI hG hn X xl hX hxl B bl hB hbl i hi h0
  · obtain ⟨N, hN1, hN2, hN3⟩ := first_bad (fun k => ¬ (feq (mel l off ld i k) 0 = false ∧ feq (xl.getD k 0) 0 = false)) n
    by_cases hN : N < n
    · have := hN3 hN
      simp only [Classical.not_not] at this
      rw [someR_t this.1 this.2 hN]
      exact noth_f H D l hF off ld n hI hG hn X xl hX hxl B bl hB hbl i hi h0 N hN hN2 this.1 this.2
    · have e : N = n := by omega
      subst e
      rw [someR_f h0 hN2]
      exact noth_t H D l hF off ld N hI hG hn X xl hX hxl B bl hB hbl i hi h0 hN2

end Go.Sx

set_option linter.unusedVariables false
set_option linter.unusedSimpArgs false
set_option maxRecDepth 20000
namespace Go.Sx
open Go.Proofs

section
variable {a : Nat → Nat → Nat} {x b : List Nat} {n k : Nat}
theorem berrR_w (h : (!feq ((wtL a x b n).getD k 0) (cn 0)) = true) : fl (berrR a x b n k) ++ [.flt (ratF ((bndL (restL a x b n) (wtL a x b n) n).getD k 0) ((wtL a x b n).getD k 0))] = fl (berrR a x b n (k + 1)) := by
  have h' : feq ((wtL a x b n).getD k 0) 0 = false := by rw [show cn 0 = 0 from by decide] at h; simpa using h
  unfold berrR; rw [berrL_w h']; unfold fl; rw [List.map_append]; rfl
theorem berrR_s (h : (!feq ((wtL a x b n).getD k 0) (cn 0)) = false) (h2 : (!(!someR a x b k n)) = true) : fl (berrR a x b n k) ++ [.flt 4607182418800017408] = fl (berrR a x b n (k + 1)) := by
  have h' : feq ((wtL a x b n).getD k 0) 0 = true := by rw [show cn 0 = 0 from by decide] at h; simpa using h
  unfold berrR; rw [berrL_s h' (by simpa using h2)]; unfold fl; rw [List.map_append]; rfl
theorem berrR_n (h : (!feq ((wtL a x b n).getD k 0) (cn 0)) = false) (h2 : (!(!someR a x b k n)) = false) : berrR a x b n (k + 1) = berrR a x b n k := by
  have h' : feq ((wtL a x b n).getD k 0) 0 = true := by rw [show cn 0 = 0 from by decide] at h; simpa using h
  unfold berrR; rw [berrL_n h' (by simpa using h2)]
theorem berrR_lw (h : (!feq ((wtL a x b n).getD k 0) (cn 0)) = true) : (berrR a x b n k).length + 1 = (berrR a x b n (k + 1)).length := by
  have := congrArg List.length (berrR_w h); simpa using this
theorem berrR_ls (h : (!feq ((wtL a x b n).getD k 0) (cn 0)) = false) (h2 : (!(!someR a x b k n)) = true) : (berrR a x b n k).length + 1 = (berrR a x b n (k + 1)).length := by
  have := congrArg List.length (berrR_s h h2); simpa using this
theorem berrR_len : (berrR a x b n k).length ≤ k := berrL_len _ _ _ _
end
attribute [local irreducible] Ex exOps exD opX opE thenX blkX RetQ Spec CSpec Fr condK guardK guardD ckK valK pickK loadK faK callK argK gK fK rK RetV lpX prK
set_option maxHeartbeats 4000000 in
theorem berr_c (H : List (List AV)) (D : AV) (l : List Nat) (hF : FL H D l) (off ld : Int) (n : Nat) (hI : MI l.length off n n ld) (hG : GoodP l.length off n n ld) (hn : n ≤ 64) (X : AV) (xl : List Nat) (hX : FL H X xl) (hxl : xl.length = n) (B : AV) (bl : List Nat) (hB : FL H B bl) (hbl : bl.length = n) :
    CSpec Try.prog 43 [mt D off (n : Int) (n : Int) ld, X, B] H (.tup [.flt (berrF (mel l off ld) xl bl n), .int .i64 0]) H := by
  have hXn : slen X = some n := (by rw [hX.len, hxl])
  have hBn : slen B = some n := (by rw [hB.len, hbl])
  obtain ⟨hm, ho1, ho2, hr1, hr2, hc1, hc2, hl1, hl2⟩ := id hI
  refine .mk (fun args w => Try.call43 args w) (Spec.intro' (fn := Try.f43) Try.func43 rfl (by kernel_rfl) (by simp) false [53, 63] (draw := drawX Try.prog ⟨false, _, [53, 63]⟩) dOk ?_)
  simp only [argE, Nat.reduceAdd]
  repeat' (first
    | (refine gateE ?_; (first | refine b_c0 ?_ | refine b_nil ?_ | fail))
    | (refine gateO ?_; (first | refine m41 ?_ | refine b_moveI ?_ | refine m14 ?_ | (refine m07 ?_; (first | refine m15 ?_ | refine m16 ?_ | refine l_FL (FLn _ (wtL (mel l off ld) xl bl n) n (by simp)) (by simp; omega) ?_ | refine l_FL (FLn _ (bndL (restL (mel l off ld) xl bl n) (wtL (mel l off ld) xl bl n) n) n (by simp)) (by simp; omega) ?_ | fail)) | refine b_lenA (by (conv => {lhs; whnf}); done) (by exact hXn) ?_ | refine b_lenA (by (conv => {lhs; whnf}); done) (by exact hBn) ?_ | refine b_iaN (by (conv => {lhs; whnf}); done) (by (conv => {lhs; whnf}); done) (by exact rfl) (by omega) ?_ | refine b_grow (i := 0) (N₀ := []) (by (conv => {lhs; whnf}); done) (by (conv => {lhs; whnf}); done) (by exact rfl) (by exact rfl) (by simp) (by have := berrR_len (a := (mel l off ld)) (x := xl) (b := bl) (n := n) (k := k); omega) (by exact rfl) (by exact rfl) (l' := fl (berrR (mel l off ld) xl bl n (k + 1))) (by first | exact berrR_w (by assumption) | exact berrR_s (by assumption) (by assumption) | fail) ?_ | (refine m00 ?_; (first | refine v_to ((k + 1 : Nat) : Int) (by omega) (by omega) ?_ | refine m54 ?_ | refine m55 ?_ | refine v_neP ?_ | refine m47 ?_ | refine m48 ?_ | refine m49 ?_ | refine m50 ?_ | refine v_nT ?_ | refine v_nF ?_ | refine v_nP ?_ | refine v_k ?_ | refine m51 ?_ | fail)) | refine m42 ?_ | refine b_assignI ?_ | refine b_assignN ?_ | refine m08 ?_ | (refine m20 ?_; (first | refine v_to ((k + 1 : Nat) : Int) (by omega) (by omega) ?_ | refine m54 ?_ | refine m55 ?_ | refine v_neP ?_ | refine m47 ?_ | refine m48 ?_ | refine m49 ?_ | refine m50 ?_ | refine v_nT ?_ | refine v_nF ?_ | refine v_nP ?_ | refine v_k ?_ | refine m51 ?_ | fail)) | refine b_callB ?_ | refine b_lenA (by (conv => {lhs; whnf}); done) (by first | rfl | assumption) ?_ | refine m23 ?_ | refine m01 ?_ | refine b_bslZ (by exact rfl) (by exact rfl) (by decide) ?_ | fail))
    | (refine gateD ?_; (first | refine m36 ?_ | refine d_nil ?_ | fail))
    | (refine gateC ?_; (first | refine k_lt ?_ | refine k_fz ?_ | refine k_lb (by (conv => {lhs; whnf}); done) ?_ | refine k_ms ?_ | refine k_bx (by exact rfl) (by exact rfl) ?_ | refine m34 ?_ | refine m35 ?_ | refine m33 ?_ | refine k_mn ?_ | refine m56 ?_ | refine k_mnF ?_ | refine k_mnL (by exact rfl) ?_ | fail))
    | (refine gateT ?_; (first | refine b_thn ?_ | refine b_thr ?_ | refine b_the ?_ | fail))
    | (refine gateX ?_; (first | refine b_seq ?_ | refine b_region ?_ | (refine m06 ?_; (first | refine c_T ?_ | refine c_F ?_ | refine c_P ?_ ?_ | refine c_B ?_ ?_ | fail)) | refine b_ret ?_ | refine b_skip ?_ | refine b_block ?_ | refine b_exit ?_ | refine b_draw (id := 10) [] [11] [(0, .lt), (1, .lt), (2, .lt), (3, .lt), (4, .ld true), (5, .lt), (6, .lt), (7, .lt), (8, .ld true), (9, .mn true), (10, .fz), (11, .mn false), (12, .lt)] (by kernel_rfl) ?_ | (refine b_loop [1, 2, 3, 9, 11, 13, 33, 34] n (fun k => ⟨[(1, .val X), (2, .val B), (3, .loc 3 0), (9, .val (.sl none n (fl (wtL (mel l off ld) xl bl n)))), (11, .val (.sl none n (fl (bndL (restL (mel l off ld) xl bl n) (wtL (mel l off ld) xl bl n) n)))), (13, .val (gV H.length 0 (berrR (mel l off ld) xl bl n k).length)), (33, .val (.int .i64 ((n : Nat) : Int))), (34, .val (.int .i64 ((k : Nat) : Int)))], [(3, [D, .int .i64 off, .int .i64 (n : Int), .int .i64 (n : Int), .int .i64 ld])], H ++ ([] ++ gN (fl (berrR (mel l off ld) xl bl n k)))⟩) (by exact rfl) ?_ ?_ <;> (first | intro k hk K hK | intro K) <;> (try dsimp only at *)) | fail))
    | refine m21 ?_
    | refine a_nil ?_
    | (refine gateK ?_; (first | refine c_call (rest_c _ D l (FL.app hF _) off ld n hI hG hn X xl (FL.app hX _) hxl B bl (FL.app hB _) hbl) (OldOk.app (by simp)) ?_ | refine c_call (bounds_c _ n _ (restL (mel l off ld) xl bl n) (FLn _ (restL (mel l off ld) xl bl n) n (by simp)) (by simp) _ (wtL (mel l off ld) xl bl n) (FLn _ (wtL (mel l off ld) xl bl n) n (by simp)) (by simp) hn) (OldOk.app (by simp)) ?_ | refine c_call (ratio_c _ _ _) (OldOk.app (by simp)) ?_ | refine c_call (noth_c _ D l (FL.app hF _) off ld n hI hG hn X xl (FL.app hX _) hxl B bl (FL.app hB _) hbl k (by omega)) (OldOk.app (by simp)) ?_ | refine c_call (great_c _ _ (berrR (mel l off ld) xl bl n n) (gV_FL (by exact rfl) rfl) (by have := berrR_len (a := (mel l off ld)) (x := xl) (b := bl) (n := n) (k := n); omega)) (OldOk.app (by simp)) ?_ | fail))
    | refine m44 ?_
    | refine m40 ?_
    | (refine gk_nilN (by (conv => {lhs; simp only [List.nil_append, List.cons_append]}); done) ?_; first | refine ⟨by exact rfl, ?_⟩ | skip)
    | refine gk_nil ?_
    | (intro N' hN'; simp only [List.nil_append, List.cons_append] at hN'; subst hN')
    | (refine gateB ?_; (first | refine b_bln ?_ | refine b_blr ?_ | refine b_ble ?_ | refine m57 ?_ | fail))
    | (refine gateL ?_; (first | refine lp_n ?_ | refine lp_r ?_ | refine lp_e ?_ | fail))
    | (refine pr_k (by exact rfl) ?_; first | exact hK | (rw [← berrR_lw (by assumption)] at hK; exact hK) | (rw [← berrR_ls (by assumption) (by assumption)] at hK; exact hK) | (rw [berrR_n (by assumption) (by assumption)] at hK; exact hK) | (exfalso; first | omega | (simp_all; done) | (simp_all; omega)))
    | (refine gateQ ?_; refine m05 ?_)
    | (refine gateR ?_; (first | refine m04 ?_ | refine m02 ?_ | refine m03 ?_ | refine rk_nil ?_ | fail))
    | intro _)
  all_goals first
    | (exfalso; omega)
    | (refine rv_old rfl (by simp [mx, mxL, resOne, aOf, aOf1]) ?_; exact rfl)


end Go.Sx

set_option linter.unusedVariables false
set_option linter.unusedSimpArgs false
set_option maxRecDepth 20000
namespace Go.Sx
open Go.Proofs

theorem b_grow1 {P : Program} {cfg : Cfg} {e : List (Nat × EV)} {L : List (Nat × List AV)} {K : St → Prop} {ty : TypeId} {pos : String} {aft : Array Edge} {gd : Option (Nat × Bool)} {dd : Nat}
    {t tx : TypeId} {s x : Operand} {n k by_ el' z' : Nat} {z v : AV} {l l' l0 : List AV} {A : List (List AV)} [ei : EI P t 1 by_ [z]] [si : SlI P tx el' z'] (hs : St.ev ⟨e, L, A ++ ([] ++ (gN l0 ++ gN l))⟩ s = .val (gV n 1 k)) (hx : St.ev ⟨e, L, A ++ ([] ++ (gN l0 ++ gN l))⟩ x = .val (.sl none 1 [v]))
    (hA : A.length = n) (hne : l0 ≠ []) (hk : l.length = k) (hm : k + 1 ≤ 2 ^ 32) (hn : cfg.n0 = n) (hz : (decide (by_ ≤ 2 ^ 10) && decide (0 < by_)) = true) (hl : l ++ [v] = l')
    (h : K ⟨(dd, .val (gV n 1 (k + 1))) :: e, L, A ++ ([] ++ (gN l0 ++ gN l'))⟩) :
    opX P cfg ⟨some dd, .call { callee := .builtin .append, args := #[s, x], argTypes := #[t, tx] }, ty, pos, aft, gd⟩ K ⟨e, L, A ++ ([] ++ (gN l0 ++ gN l))⟩ := by
  exact b_grow (i := 1) (N₀ := gN l0) hs hx hA (by rw [gN_ne hne]; rfl) hk hm hn hz hl h
theorem gV_fr1 {n k : Nat} {l l0 : List AV} {A : List (List AV)} (hA : A.length = n) (hne : l0 ≠ []) (hk : l.length = k) (hm : mxL l ≤ n) : Fr n [] (A ++ ([] ++ (gN l0 ++ gN l))) (gV n 1 k) (.sl none k l) := gV_fr (i := 1) (N₀ := gN l0) hA (by rw [gN_ne hne]; rfl) hk hm
theorem fl_ne {g : Nat → Nat} {n : Nat} (h : 0 < n) : fl (rml g n) ≠ [] := by
  intro e
  have := congrArg List.length e
  simp at this; omega
section
variable {a : Nat → Nat → Nat} {x b : List Nat} {n k : Nat}
theorem berrR_w1 (h : (!feq ((wtL a x b n).getD k 0) (cn 0)) = true) (hq : flt (cn 4607182418800017408) (ratQ ((bndL (restL a x b n) (wtL a x b n) n).getD k 0) ((wtL a x b n).getD k 0)) = true) : fl (berrR a x b n k) ++ [.flt 4607182418800017408] = fl (berrR a x b n (k + 1)) := by
  have := berrR_w h; rwa [ratF_t hq] at this
theorem berrR_w2 (h : (!feq ((wtL a x b n).getD k 0) (cn 0)) = true) (hq : flt (cn 4607182418800017408) (ratQ ((bndL (restL a x b n) (wtL a x b n) n).getD k 0) ((wtL a x b n).getD k 0)) = false) : fl (berrR a x b n k) ++ [.flt (ratQ ((bndL (restL a x b n) (wtL a x b n) n).getD k 0) ((wtL a x b n).getD k 0))] = fl (berrR a x b n (k + 1)) := by
  have := berrR_w h; rwa [ratF_f hq] at this
theorem berrR_s1 (h : (!feq ((wtL a x b n).getD k 0) (cn 0)) = false) (h2 : someR a x b k n = true) : fl (berrR a x b n k) ++ [.flt 4607182418800017408] = fl (berrR a x b n (k + 1)) := berrR_s h (by rw [h2]; rfl)
theorem berrR_n1 (h : (!feq ((wtL a x b n).getD k 0) (cn 0)) = false) (h2 : someR a x b k n = false) : berrR a x b n (k + 1) = berrR a x b n k := berrR_n h (by rw [h2]; rfl)
theorem berrR_ls1 (h : (!feq ((wtL a x b n).getD k 0) (cn 0)) = false) (h2 : someR a x b k n = true) : (berrR a x b n k).length + 1 = (berrR a x b n (k + 1)).length := berrR_ls h (by rw [h2]; rfl)
variable {i t : Nat}
theorem someR_0 : someR a x b i 0 = !feq (b.getD i 0) (cn 0) := by rw [show cn 0 = 0 from by decide]; rfl
theorem someR_1 (h : someR a x b i t = true) : someR a x b i (t + 1) = true := by simp only [someR, h, Bool.true_or]
theorem someR_2 (h : someR a x b i t = false) (h2 : (!feq (a i t) (cn 0)) = false) : someR a x b i (t + 1) = false := by
  rw [show cn 0 = 0 from by decide] at h2; simp only [someR, h, h2, Bool.false_and, Bool.or_false]
theorem someR_3 (h : someR a x b i t = false) (h2 : (!feq (a i t) (cn 0)) = true) : someR a x b i (t + 1) = !feq (x.getD t 0) (cn 0) := by
  rw [show cn 0 = 0 from by decide] at *; simp only [someR, h, h2, Bool.true_and, Bool.false_or]
end
attribute [local irreducible] Ex exOps exD opX opE thenX blkX RetQ Spec CSpec Fr condK guardK guardD ckK valK pickK loadK faK callK argK gK fK rK RetV lpX prK
set_option maxHeartbeats 4000000 in
theorem rrest_c (H : List (List AV)) (A : AV) (a : Nat → Nat → Nat) (n : Nat) (hA : FL H A (rmA a n n)) (hn1 : 1 ≤ n) (hn : n ≤ 64) (X : AV) (xl : List Nat) (hX : FL H X xl) (hxl : xl.length = n) (B : AV) (bl : List Nat) (hB : FL H B bl) (hbl : bl.length = n) :
    CSpec Try.prog 45 [mM A n n, X, B] H (.tup [.sl none n (fl (restL a xl bl n)), .sl none n (fl (wtL a xl bl n))]) H := by
  have hXn : slen X = some n := (by rw [hX.len, hxl])
  have hBn : slen B = some n := (by rw [hB.len, hbl])
  refine .mk (fun args w => Try.call45 args w) (Spec.intro' (fn := Try.f45) Try.func45 rfl (by kernel_rfl) (by simp) false [61, 65] (draw := drawX Try.prog ⟨false, _, [61, 65]⟩) dOk ?_)
  simp only [argE, Nat.reduceAdd]
  repeat' (first
    | (refine gateE ?_; (first | refine b_c0 ?_ | refine b_nil ?_ | fail))
    | (refine gateO ?_; (first | refine m14 ?_ | (refine m17 ?_; first | refine m19 ?_ | refine m18 ?_) | (refine m07 ?_; (first | refine m15 ?_ | refine m16 ?_ | refine l_FL (FL.app hX _) (by omega) ?_ | refine l_FL (FL.app hB _) (by omega) ?_ | fail)) | refine b_iaN (by (conv => {lhs; whnf}); done) (by (conv => {lhs; whnf}); done) (by exact hX.len) (by omega) ?_ | refine b_iaN (by (conv => {lhs; whnf}); done) (by (conv => {lhs; whnf}); done) (by exact hB.len) (by omega) ?_ | refine b_growG (n := H.length) (i := 0) (k := k) (N₀ := []) (G := gN (fl (rml (fun i => wtF a xl bl i n) k))) (l := fl (rml (fun i => restF a xl bl i n) k)) (l' := fl (rml (fun i => restF a xl bl i n) (k + 1))) (by (conv => {lhs; whnf}); done) (by (conv => {lhs; whnf}); done) (by exact rfl) (by exact rfl) (by simp) (fun h => by rw [h]; rfl) (by omega) (by exact rfl) (by exact rfl) (by exact rml_fl (fun i => restF a xl bl i n) k) ?_ | refine b_grow1 (n := H.length) (k := k) (l0 := fl (rml (fun i => restF a xl bl i n) (k + 1))) (l := fl (rml (fun i => wtF a xl bl i n) k)) (l' := fl (rml (fun i => wtF a xl bl i n) (k + 1))) (by (conv => {lhs; whnf}); done) (by (conv => {lhs; whnf}); done) (by exact rfl) (fl_ne (by omega)) (by simp) (by omega) (by exact rfl) (by exact rfl) (by exact rml_fl (fun i => wtF a xl bl i n) k) ?_ | (refine m00 ?_; (first | refine v_to ((k + 1 : Nat) : Int) (by omega) (by omega) ?_ | refine v_to ((t + 1 : Nat) : Int) (by omega) (by omega) ?_ | refine m47 ?_ | refine m48 ?_ | refine m49 ?_ | refine m50 ?_ | refine v_k ?_ | refine m51 ?_ | fail)) | refine m42 ?_ | refine b_assignI ?_ | refine b_assignN ?_ | refine m08 ?_ | refine b_callB ?_ | refine m01 ?_ | refine b_bslZ (by exact rfl) (by exact rfl) (by decide) ?_ | fail))
    | (refine gateD ?_; (first | refine m36 ?_ | refine d_nil ?_ | fail))
    | (refine gateC ?_; (first | refine k_lt ?_ | refine k_fz ?_ | refine k_lb (by (conv => {lhs; whnf}); done) ?_ | refine k_ms ?_ | refine k_bx (by exact rfl) (by exact rfl) ?_ | refine m34 ?_ | refine m35 ?_ | refine m33 ?_ | refine k_mn ?_ | refine m56 ?_ | refine k_mnF ?_ | refine k_mnL (by exact rfl) ?_ | fail))
    | (refine gateT ?_; (first | refine b_thn ?_ | refine b_thr ?_ | refine b_the ?_ | fail))
    | (refine gateX ?_; (first | refine b_seq ?_ | refine b_region ?_ | (refine m06 ?_; (first | refine c_T ?_ | refine c_F ?_ | refine c_P ?_ ?_ | refine c_B ?_ ?_ | fail)) | refine b_ret ?_ | refine b_skip ?_ | refine b_block ?_ | refine b_exit ?_ | refine b_draw (id := 5) [] [] [(0, .lt), (1, .lt), (2, .lt), (3, .ld true), (4, .lt), (5, .lt), (6, .lt), (7, .ld true), (8, .mn true), (9, .lt), (10, .lt)] (by kernel_rfl) ?_ | refine b_draw (id := 9) [] [] [(0, .lt), (1, .ld true), (2, .lt), (3, .lt), (5, .lt), (6, .lt), (7, .lt), (8, .ld true), (4, .mn true), (9, .mn true), (10, .mn true), (11, .lt)] (by kernel_rfl) ?_ | refine b_draw (id := 10) [] [] [(0, .lt), (1, .ld true), (2, .lt), (3, .lt), (6, .lt), (7, .lt), (8, .lt), (9, .ld true), (4, .mn true), (5, .mn true), (10, .mn true), (11, .mn true), (12, .mn true), (13, .lt)] (by kernel_rfl) ?_ | (refine b_loop [1, 2, 3, 8, 9, 10, 11, 12, 13] n (fun t => ⟨[(1, .val X), (2, .val B), (3, .loc 3 0), (8, .val (gV H.length 0 k)), (9, .val (gV H.length 1 k)), (10, .val (.int .i64 ((k : Nat) : Int))), (11, .val (.flt (restF a xl bl k t))), (12, .val (.flt (wtF a xl bl k t))), (13, .val (.int .i64 ((t : Nat) : Int)))], [(3, [.int .i64 (n : Int), .int .i64 (n : Int), A])], H ++ ([] ++ (gN (fl (rml (fun i => restF a xl bl i n) k)) ++ gN (fl (rml (fun i => wtF a xl bl i n) k))))⟩) (by exact rfl) ?_ ?_ <;> (first | intro t ht K hK | intro K) <;> (try dsimp only at *)) | (refine b_loop [1, 2, 3, 8, 9, 10] n (fun k => ⟨[(1, .val X), (2, .val B), (3, .loc 3 0), (8, .val (gV H.length 0 k)), (9, .val (gV H.length 1 k)), (10, .val (.int .i64 ((k : Nat) : Int)))], [(3, [.int .i64 (n : Int), .int .i64 (n : Int), A])], H ++ ([] ++ (gN (fl (rml (fun i => restF a xl bl i n) k)) ++ gN (fl (rml (fun i => wtF a xl bl i n) k))))⟩) (by exact rfl) ?_ ?_ <;> (first | intro k hk K hK | intro K) <;> (try dsimp only at *)) | fail))
    | refine m21 ?_
    | refine a_nil ?_
    | (refine gateK ?_; (first | refine c_call (tat_m _ A a n n (FL.app hA _) (by omega) (by omega) k t (by omega) (by omega)) (OldOk.app (by simp)) ?_ | refine c_call (rabs_c _ _) (OldOk.app (by simp)) ?_ | refine c_call (times_c _ _ _) (OldOk.app (by simp)) ?_ | refine c_call (plus_c _ _ _) (OldOk.app (by simp)) ?_ | refine c_call (less_c _ _ _) (OldOk.app (by simp)) ?_ | refine c_call (rscale_c _ _ _) (OldOk.app (by simp)) ?_ | refine c_call (rover_c _ _ _) (OldOk.app (by simp)) ?_ | fail))
    | refine m44 ?_
    | refine m40 ?_
    | (refine gk_nilN (by (conv => {lhs; simp only [List.nil_append, List.cons_append]}); done) ?_; first | refine ⟨by exact rfl, ?_⟩ | skip)
    | refine gk_nil ?_
    | (intro N' hN'; simp only [List.nil_append, List.cons_append] at hN'; subst hN')
    | (refine gateB ?_; (first | refine b_bln ?_ | refine b_blr ?_ | refine b_ble ?_ | refine m57 ?_ | fail))
    | (refine gateL ?_; (first | refine lp_n ?_ | refine lp_r ?_ | refine lp_e ?_ | fail))
    | (refine pr_k (by exact rfl) ?_; first | exact hK | fail | (exfalso; first | omega | (simp_all; done) | (simp_all; omega)))
    | (refine gateQ ?_; refine m05 ?_)
    | (refine gateR ?_; (first | refine m04 ?_ | refine m02 ?_ | refine m03 ?_ | refine rk_nil ?_ | fail))
    | intro _)
  all_goals first
    | (exfalso; omega)
    | (refine rv_fr rfl ?_; exact Fr.tup (Frs.cons (gV_frG (N₀ := []) (i := 0) rfl rfl (by simp) (by rw [mxL_fl]; exact Nat.zero_le _)) (Frs.cons (gV_fr1 rfl (fl_ne (by omega)) (by simp) (by rw [mxL_fl]; exact Nat.zero_le _)) Frs.nil)))

set_option maxHeartbeats 4000000 in
theorem rbounds_c (H : List (List AV)) (n : Nat) (R : AV) (rl : List Nat) (hR : FL H R rl) (hrl : rl.length = n) (Wv : AV) (wl : List Nat) (hW : FL H Wv wl) (hwl : wl.length = n) (hn : n ≤ 64) :
    CSpec Try.prog 52 [R, Wv] H (.sl none n (fl (bndL rl wl n))) H := by
  subst hrl
  refine .mk (fun args w => Try.call52 args w) (Spec.intro' (fn := Try.f52) Try.func52 rfl (by kernel_rfl) (by simp) false [37] (draw := drawX Try.prog ⟨false, _, [37]⟩) dOk ?_)
  simp only [argE, Nat.reduceAdd]
  repeat' (first
    | (refine gateE ?_; (first | refine b_c0 ?_ | refine b_nil ?_ | fail))
    | (refine gateO ?_; (first | refine m14 ?_ | (refine m07 ?_; (first | refine m15 ?_ | refine m16 ?_ | refine l_FL (FL.app hR _) (by omega) ?_ | refine l_FL (FL.app hW _) (by omega) ?_ | fail)) | refine b_lenA (by (conv => {lhs; whnf}); done) (by exact hR.len) ?_ | refine b_iaN (by (conv => {lhs; whnf}); done) (by (conv => {lhs; whnf}); done) (by exact hR.len) (by omega) ?_ | refine b_iaN (by (conv => {lhs; whnf}); done) (by (conv => {lhs; whnf}); done) (by exact hW.len) (by omega) ?_ | refine b_grow (i := 0) (N₀ := []) (by (conv => {lhs; whnf}); done) (by (conv => {lhs; whnf}); done) (by exact rfl) (by exact rfl) (by simp) (by omega) (by exact rfl) (by exact rfl) (l' := fl (rml (bndF rl.length rl wl) (k + 1))) (by exact rml_fl (bndF rl.length rl wl) k) ?_ | (refine m00 ?_; (first | refine v_to ((k + 1 : Nat) : Int) (by omega) (by omega) ?_ | refine v_to ((rl.length + 3 : Nat) : Int) (by omega) (by omega) ?_ | refine m47 ?_ | refine m48 ?_ | refine m49 ?_ | refine m50 ?_ | refine v_k ?_ | refine m51 ?_ | fail)) | refine m42 ?_ | refine b_assignI ?_ | refine b_assignN ?_ | refine m08 ?_ | refine b_callB ?_ | refine b_lenA (by (conv => {lhs; whnf}); done) (by first | rfl | assumption) ?_ | (refine m46 ?_; (first | refine v_to ((k + 1 : Nat) : Int) (by omega) (by omega) ?_ | refine v_to ((rl.length + 3 : Nat) : Int) (by omega) (by omega) ?_ | refine m47 ?_ | refine m48 ?_ | refine m49 ?_ | refine m50 ?_ | refine v_k ?_ | refine m51 ?_ | fail)) | refine b_cnvF (by (conv => {lhs; whnf}); done) (by exact rfl) ?_ | refine b_cnvIF (by (conv => {lhs; whnf}); done) ?_ | refine b_bslZ (by exact rfl) (by exact rfl) (by decide) ?_ | fail))
    | (refine gateD ?_; (first | refine m36 ?_ | refine d_nil ?_ | fail))
    | (refine gateC ?_; (first | refine k_lt ?_ | refine k_fz ?_ | refine k_lb (by (conv => {lhs; whnf}); done) ?_ | refine k_ms ?_ | refine k_bx (by exact rfl) (by exact rfl) ?_ | refine m34 ?_ | refine m35 ?_ | refine m33 ?_ | refine k_mn ?_ | refine m56 ?_ | refine k_mnF ?_ | refine k_mnL (by exact rfl) ?_ | fail))
    | (refine gateT ?_; (first | refine b_thn ?_ | refine b_thr ?_ | refine b_the ?_ | fail))
    | (refine gateX ?_; (first | refine b_seq ?_ | refine b_region ?_ | (refine m06 ?_; (first | refine c_T ?_ | refine c_F ?_ | refine c_P ?_ ?_ | refine c_B ?_ ?_ | fail)) | refine b_ret ?_ | refine b_skip ?_ | refine b_block ?_ | refine b_exit ?_ | refine b_draw (id := 6) [] [] [(0, .lt), (1, .lt), (2, .lt), (3, .ld true), (5, .lt), (7, .lt), (8, .lt), (9, .lt), (10, .ld true), (4, .mn true), (6, .mn true), (11, .mn true), (12, .mn true), (13, .lt)] (by kernel_rfl) ?_ | (refine b_loop [0, 1, 5, 6, 7] rl.length (fun k => ⟨[(0, .val R), (1, .val Wv), (5, .val (gV H.length 0 k)), (6, .val (.flt (cn (FloatKind.f64.nearest ((rl.length + 3 : Nat) : Int))))), (7, .val (.int .i64 ((k : Nat) : Int)))], [], H ++ ([] ++ gN (fl (rml (bndF rl.length rl wl) k)))⟩) (by exact rfl) ?_ ?_ <;> (first | intro k hk K hK | intro K) <;> (try dsimp only at *)) | fail))
    | refine m43 ?_
    | refine a_consI ?_
    | refine m21 ?_
    | refine a_nil ?_
    | (refine gateK ?_; (first | refine c_call (rabs_c _ _) (OldOk.app (by simp)) ?_ | refine c_call (times_c _ _ _) (OldOk.app (by simp)) ?_ | refine c_call (plus_c _ _ _) (OldOk.app (by simp)) ?_ | refine c_call (less_c _ _ _) (OldOk.app (by simp)) ?_ | refine c_call (rscale_c _ _ _) (OldOk.app (by simp)) ?_ | refine c_call (rover_c _ _ _) (OldOk.app (by simp)) ?_ | fail))
    | refine m44 ?_
    | refine m40 ?_
    | (refine gk_nilN (by (conv => {lhs; simp only [List.nil_append, List.cons_append]}); done) ?_; first | refine ⟨by exact rfl, ?_⟩ | skip)
    | refine gk_nil ?_
    | (intro N' hN'; simp only [List.nil_append, List.cons_append] at hN'; subst hN')
    | (refine gateB ?_; (first | refine b_bln ?_ | refine b_blr ?_ | refine b_ble ?_ | refine m57 ?_ | fail))
    | (refine gateL ?_; (first | refine lp_n ?_ | refine lp_r ?_ | refine lp_e ?_ | fail))
    | (refine pr_k (by exact rfl) ?_; first | exact hK | fail | (exfalso; first | omega | (simp_all; done) | (simp_all; omega)))
    | (refine gateQ ?_; refine m05 ?_)
    | (refine gateR ?_; (first | refine m04 ?_ | refine m02 ?_ | refine m03 ?_ | refine rk_nil ?_ | fail))
    | intro _)
  all_goals first
    | (exfalso; omega)
    | (refine rv_fr rfl ?_; exact gV_fr (N₀ := []) (i := 0) rfl rfl (by simp) (by rw [mxL_fl]; exact Nat.zero_le _))

set_option maxHeartbeats 4000000 in
theorem rberr_c (H : List (List AV)) (A : AV) (a : Nat → Nat → Nat) (n : Nat) (hA : FL H A (rmA a n n)) (hn1 : 1 ≤ n) (hn : n ≤ 64) (X : AV) (xl : List Nat) (hX : FL H X xl) (hxl : xl.length = n) (B : AV) (bl : List Nat) (hB : FL H B bl) (hbl : bl.length = n) :
    CSpec Try.prog 22 [mM A n n, X, B] H (.flt (berrF a xl bl n)) H := by
  have hXn : slen X = some n := (by rw [hX.len, hxl])
  have hBn : slen B = some n := (by rw [hB.len, hbl])
  refine .mk (fun args w => Try.call22 args w) (Spec.intro' (fn := Try.f22) Try.func22 rfl (by kernel_rfl) (by simp) false [54, 84] (draw := drawX Try.prog ⟨false, _, [54, 84]⟩) dOk ?_)
  simp only [argE, Nat.reduceAdd]
  repeat' (first
    | (refine gateE ?_; (first | refine b_c0 ?_ | refine b_nil ?_ | refine m13 ?_ | refine m12 ?_ | refine m11 ?_ | (refine m10 ?_; (first | refine g_TT ?_ | refine g_FF ?_ | refine g_TF ?_ | refine g_FT ?_ | refine g_PT ?_ ?_ | refine g_PF ?_ ?_ | refine g_BT ?_ ?_ | refine g_BF ?_ ?_ | fail)) | (refine m09 ?_; (first | refine g_TT ?_ | refine g_FF ?_ | refine g_TF ?_ | refine g_FT ?_ | refine g_PT ?_ ?_ | refine g_PF ?_ ?_ | refine g_BT ?_ ?_ | refine g_BF ?_ ?_ | fail)) | refine m38 ?_ | fail))
    | (refine gateO ?_; (first | refine m14 ?_ | (refine m17 ?_; first | refine m19 ?_ | refine m18 ?_) | (refine m07 ?_; (first | refine m15 ?_ | refine m16 ?_ | refine l_FL (FL.app hX _) (by omega) ?_ | refine l_FL (FL.app hB _) (by omega) ?_ | refine l_FL (FLn _ (wtL a xl bl n) n (by simp)) (by simp; omega) ?_ | refine l_FL (FLn _ (bndL (restL a xl bl n) (wtL a xl bl n) n) n (by simp)) (by simp; omega) ?_ | fail)) | refine b_iaN (by (conv => {lhs; whnf}); done) (by (conv => {lhs; whnf}); done) (by exact hX.len) (by omega) ?_ | refine b_iaN (by (conv => {lhs; whnf}); done) (by (conv => {lhs; whnf}); done) (by exact hB.len) (by omega) ?_ | refine b_iaN (by (conv => {lhs; whnf}); done) (by (conv => {lhs; whnf}); done) (by exact rfl) (by omega) ?_ | refine b_grow (i := 0) (N₀ := []) (by (conv => {lhs; whnf}); done) (by (conv => {lhs; whnf}); done) (by exact rfl) (by exact rfl) (by simp) (by have := berrR_len (a := a) (x := xl) (b := bl) (n := n) (k := k); omega) (by exact rfl) (by exact rfl) (l' := fl (berrR a xl bl n (k + 1))) (by first | exact berrR_w1 (by assumption) (by assumption) | exact berrR_w2 (by assumption) (by assumption) | exact berrR_s1 (by assumption) (by assumption) | fail) ?_ | (refine m00 ?_; (first | refine v_to ((k + 1 : Nat) : Int) (by omega) (by omega) ?_ | refine v_to ((t + 1 : Nat) : Int) (by omega) (by omega) ?_ | refine m54 ?_ | refine m55 ?_ | refine v_neP ?_ | refine m47 ?_ | refine m48 ?_ | refine m49 ?_ | refine m50 ?_ | refine v_k ?_ | refine m51 ?_ | fail)) | (refine m22 ?_; (first | refine m26 ?_ | refine m27 ?_ | fail)) | refine m42 ?_ | refine b_assignI ?_ | refine b_assignN ?_ | refine m08 ?_ | refine b_callB ?_ | refine m23 ?_ | refine m01 ?_ | refine b_bslZ (by exact rfl) (by exact rfl) (by decide) ?_ | fail))
    | (refine gateD ?_; (first | refine m36 ?_ | refine d_nil ?_ | refine m32 ?_ | refine m31 ?_ | refine m30 ?_ | (refine m28 ?_; (first | refine dg_TT ?_ | refine dg_FF ?_ | refine dg_TF ?_ | refine dg_FT ?_ | refine dg_PT ?_ ?_ | refine dg_PF ?_ ?_ | refine dg_BT ?_ ?_ | refine dg_BF ?_ ?_ | fail)) | (refine m29 ?_; (first | refine dg_TT ?_ | refine dg_FF ?_ | refine dg_TF ?_ | refine dg_FT ?_ | refine dg_PT ?_ ?_ | refine dg_PF ?_ ?_ | refine dg_BT ?_ ?_ | refine dg_BF ?_ ?_ | fail)) | refine m37 ?_ | fail))
    | (refine gateC ?_; (first | refine k_lt ?_ | refine k_fz ?_ | refine k_lb (by (conv => {lhs; whnf}); done) ?_ | refine k_ms ?_ | refine k_bx (by exact rfl) (by exact rfl) ?_ | refine m34 ?_ | refine m35 ?_ | refine m33 ?_ | refine k_mn ?_ | refine m56 ?_ | refine k_mnF ?_ | refine k_mnL (by exact rfl) ?_ | fail))
    | (refine gateT ?_; (first | refine b_thn ?_ | refine b_thr ?_ | refine b_the ?_ | fail))
    | (refine gateX ?_; (first | refine b_seq ?_ | refine b_region ?_ | (refine m06 ?_; (first | refine c_T ?_ | refine c_F ?_ | refine c_P ?_ ?_ | refine c_B ?_ ?_ | fail)) | refine b_ret ?_ | refine b_skip ?_ | refine b_block ?_ | refine b_exit ?_ | refine b_draw (id := 8) [] [] [(0, .lt), (1, .lt), (2, .lt), (3, .ld true), (4, .lt), (5, .lt), (6, .lt), (7, .ld true), (8, .mn true), (9, .lt)] (by kernel_rfl) ?_ | (refine b_loop [1, 2, 3, 8, 9, 10, 11, 13, 14] n (fun t => ⟨[(1, .val X), (2, .val B), (3, .loc 3 0), (8, .val (.sl none n (fl (wtL a xl bl n)))), (9, .val (.sl none n (fl (bndL (restL a xl bl n) (wtL a xl bl n) n)))), (10, .val (gV H.length 0 (berrR a xl bl n k).length)), (11, .val (.int .i64 ((k : Nat) : Int))), (13, .val (.bool (someR a xl bl k t))), (14, .val (.int .i64 ((t : Nat) : Int)))], [(3, [.int .i64 (n : Int), .int .i64 (n : Int), A])], H ++ ([] ++ gN (fl (berrR a xl bl n k)))⟩) (by rw [someR_0]; exact rfl) ?_ ?_ <;> (first | intro t ht K hK | intro K) <;> (try dsimp only at *)) | (refine b_loop [1, 2, 3, 8, 9, 10, 11] n (fun k => ⟨[(1, .val X), (2, .val B), (3, .loc 3 0), (8, .val (.sl none n (fl (wtL a xl bl n)))), (9, .val (.sl none n (fl (bndL (restL a xl bl n) (wtL a xl bl n) n)))), (10, .val (gV H.length 0 (berrR a xl bl n k).length)), (11, .val (.int .i64 ((k : Nat) : Int)))], [(3, [.int .i64 (n : Int), .int .i64 (n : Int), A])], H ++ ([] ++ gN (fl (berrR a xl bl n k)))⟩) (by exact rfl) ?_ ?_ <;> (first | intro k hk K hK | intro K) <;> (try dsimp only at *)) | fail))
    | refine m43 ?_
    | refine a_consI ?_
    | refine m21 ?_
    | refine a_nil ?_
    | (refine gateK ?_; (first | refine c_call (rrest_c _ A a n (FL.app hA _) hn1 hn X xl (FL.app hX _) hxl B bl (FL.app hB _) hbl) (OldOk.app (by simp)) ?_ | refine c_call (rbounds_c _ n _ (restL a xl bl n) (FLn _ (restL a xl bl n) n (by simp)) (by simp) _ (wtL a xl bl n) (FLn _ (wtL a xl bl n) n (by simp)) (by simp) hn) (OldOk.app (by simp)) ?_ | refine c_call (tat_m _ A a n n (FL.app hA _) (by omega) (by omega) k t (by omega) (by omega)) (OldOk.app (by simp)) ?_ | refine c_call (rabs_c _ _) (OldOk.app (by simp)) ?_ | refine c_call (times_c _ _ _) (OldOk.app (by simp)) ?_ | refine c_call (plus_c _ _ _) (OldOk.app (by simp)) ?_ | refine c_call (less_c _ _ _) (OldOk.app (by simp)) ?_ | refine c_call (rscale_c _ _ _) (OldOk.app (by simp)) ?_ | refine c_call (rover_c _ _ _) (OldOk.app (by simp)) ?_ | refine c_call (rgreat_c _ _ (berrR a xl bl n n) (gV_FL (by exact rfl) rfl) (by have := berrR_len (a := a) (x := xl) (b := bl) (n := n) (k := n); omega)) (OldOk.app (by simp)) ?_ | fail))
    | refine m44 ?_
    | refine m40 ?_
    | (refine gk_nilN (by (conv => {lhs; simp only [List.nil_append, List.cons_append]}); done) ?_; first | refine ⟨by exact rfl, ?_⟩ | skip)
    | refine gk_nil ?_
    | (intro N' hN'; simp only [List.nil_append, List.cons_append] at hN'; subst hN')
    | (refine gateB ?_; (first | refine b_bln ?_ | refine b_blr ?_ | refine b_ble ?_ | refine m57 ?_ | fail))
    | (refine gateL ?_; (first | refine lp_n ?_ | refine lp_r ?_ | refine lp_e ?_ | fail))
    | (refine pr_k (by exact rfl) ?_; first | exact hK | (rw [← berrR_lw (by assumption)] at hK; exact hK) | (rw [← berrR_ls1 (by assumption) (by assumption)] at hK; exact hK) | (rw [berrR_n1 (by assumption) (by assumption)] at hK; exact hK) | (rw [someR_1 (by assumption)] at hK; exact hK) | (rw [someR_2 (by assumption) (by assumption)] at hK; exact hK) | (rw [someR_3 (by assumption) (by assumption)] at hK; exact hK) | (exfalso; first | omega | (simp_all; done) | (simp_all; omega)))
    | (refine gateQ ?_; refine m05 ?_)
    | (refine gateR ?_; (first | refine m04 ?_ | refine m02 ?_ | refine m03 ?_ | refine rk_nil ?_ | fail))
    | intro _)
  all_goals first
    | (exfalso; omega)
    | (refine rv_old rfl (by simp [mx, mxL, resOne, aOf, aOf1]) ?_; exact rfl)


end Go.Sx

set_option linter.unusedVariables false
set_option linter.unusedSimpArgs false
set_option maxRecDepth 20000
namespace Go.Sx
open Go.Proofs

/-! ### made better, step by step -/
def slvS (m : Nat → Nat → Nat) (p rl cl : List Int) (n : Nat) (f : Nat → Nat) : Nat → Nat := (shF (up2 m (lo1 m (tkF p (shF f rl n) n) n) n n) cl n)
/-- what is added to a solution -/
def corF (a m : Nat → Nat → Nat) (p rl cl : List Int) (b : List Nat) (n : Nat) (y : List Nat) : Nat → Nat := slvS m p rl cl n (fun i => (restL a y b n).getD i 0)
def refY (a m : Nat → Nat → Nat) (p rl cl : List Int) (x b : List Nat) (n : Nat) : Nat → List Nat
  | 0 => x
  | k + 1 => rml (fun i => fadd ((refY a m p rl cl x b n k).getD i 0) (corF a m p rl cl b n (refY a m p rl cl x b n k) i)) n
/-- is a step one that helps? -/
def refG (a m : Nat → Nat → Nat) (p rl cl : List Int) (x b : List Nat) (n k : Nat) : Bool :=
  flt (berrF a (refY a m p rl cl x b n (k + 1)) b n) (fmul (berrF a (refY a m p rl cl x b n k) b n) 4602678819172646912) || feq (berrF a (refY a m p rl cl x b n (k + 1)) b n) (fmul (berrF a (refY a m p rl cl x b n k) b n) 4602678819172646912)
theorem refY_len {a m : Nat → Nat → Nat} {p rl cl : List Int} {x b : List Nat} {n : Nat} (hx : x.length = n) (k : Nat) : (refY a m p rl cl x b n k).length = n := by
  cases k with
  | zero => exact hx
  | succ k => simp [refY]
theorem restL_self (a : Nat → Nat → Nat) (x b : List Nat) (n : Nat) : rml (fun i => (restL a x b n).getD i 0) n = restL a x b n := by
  unfold restL
  exact rml_congr fun i hi => rml_get hi
theorem half_cn : cn 4602678819172646912 = 4602678819172646912 := by decide
def ysL (y : Nat → List Nat) : Nat → List (List AV)
  | 0 => [fl (y 0)]
  | k + 1 => ysL y k ++ [fl (y (k + 1))]
theorem ysL_len (y : Nat → List Nat) (k : Nat) : (ysL y k).length = k + 1 := by
  induction k with
  | zero => rfl
  | succ k ih => simp [ysL, ih]
theorem ysL_at (y : Nat → List Nat) (k : Nat) : (ysL y k)[k]? = some (fl (y k)) := by
  cases k with
  | zero => rfl
  | succ k => rw [ysL, List.getElem?_append_right (by rw [ysL_len]; omega), ysL_len]; simp
theorem ysL_at' (y : Nat → List Nat) (k : Nat) (N : List (List AV)) : (ysL y k ++ N)[k]? = some (fl (y k)) := by
  rw [List.getElem?_append_left (by rw [ysL_len]; omega)]; exact ysL_at y k
theorem ysL_new (y : Nat → List Nat) (k : Nat) (X : List AV) : (ysL y k ++ [X])[k + 1]? = some X := by
  rw [List.getElem?_append_right (by rw [ysL_len]; omega), ysL_len]; simp
theorem ysL_set (y : Nat → List Nat) (k : Nat) (X Z : List AV) : (ysL y k ++ [X]).set (k + 1) Z = ysL y k ++ [Z] := by
  rw [List.set_append_right _ _ (by rw [ysL_len]; omega), ysL_len]; simp
/-- the numbers written so far -/
def dwF (y : List Nat) (d : Nat → Nat) (t : Nat) : Nat → Nat := fun i => if i < t then fadd (y.getD i 0) (d i) else d i
theorem dwF_zero (y : List Nat) (d : Nat → Nat) : dwF y d 0 = d := by funext i; unfold dwF; rw [if_neg (by omega)]
theorem dwF_step {y : List Nat} {d : Nat → Nat} {n t : Nat} (ht : t < n) : (rml (dwF y d t) n).set t (fadd (y.getD t 0) ((rml (dwF y d t) n).getD t 0)) = rml (dwF y d (t + 1)) n := by
  have e : (rml (dwF y d t) n).getD t 0 = d t := by rw [rml_get ht]; unfold dwF; rw [if_neg (by omega)]
  rw [e]
  apply List.ext_getElem
  · simp
  · intro i h1 h2
    rw [List.getElem_set]
    simp only [rml, List.getElem_map, List.getElem_range]
    unfold dwF
    by_cases h : t = i
    · subst h; rw [if_pos rfl, if_pos (by omega)]
    · rw [if_neg h]
      by_cases h9 : i < t
      · rw [if_pos h9, if_pos (by omega)]
      · rw [if_neg h9, if_neg (by omega)]
theorem dwF_all (a m : Nat → Nat → Nat) (p rl cl : List Int) (x b : List Nat) (n k : Nat) : rml (dwF (refY a m p rl cl x b n k) (corF a m p rl cl b n (refY a m p rl cl x b n k)) n) n = refY a m p rl cl x b n (k + 1) := by
  refine Eq.trans (rml_congr fun i hi => ?_) (rfl : rml (fun i => fadd ((refY a m p rl cl x b n k).getD i 0) (corF a m p rl cl b n (refY a m p rl cl x b n k) i)) n = _)
  unfold dwF; rw [if_pos hi]
theorem fr_new {n k z : Nat} {A N : List (List AV)} {l : List Nat} (hA : A.length = n) (h : N[k]? = some (fl l)) (hl : l.length = z) : Fr n [] (A ++ N) (.slm (n + k) z 0 z 1) (.sl none z (fl l)) :=
  Fr.fz (by omega) (by simp) (hg_new hA h) (by simpa using hl) (gc_all _ (by simp [hl])) (Frs.old (by rw [mxL_fl]; exact Nat.zero_le _))
theorem clone_l (H H' : List (List AV)) (X : AV) (xl : List Nat) (n : Nat) (hX : FL H X xl) (hxl : xl.length = n) (hn : n ≤ 64) (hN : NN X) (m : Nat) (hm : H.length = m) (hH : H ++ [fl xl] = H') : CSpec Try.prog 42 [X] H (.slm m n 0 n 1) H' := by
  subst hxl
  exact clone_k H H' X xl hX (by omega) hN m hm hH
theorem ysL_FL {H : List (List AV)} {y : Nat → List Nat} {k n : Nat} (h : (y k).length = n) (N : List (List AV)) : FL (H ++ (ysL y k ++ N)) (.slm (H.length + k) n 0 n 1) (y k) := FL.old (hg_new rfl (ysL_at' y k N)) h.symm h.symm
theorem ysL_FL0 {H : List (List AV)} {y : Nat → List Nat} {k n : Nat} (h : (y k).length = n) : FL (H ++ ysL y k) (.slm (H.length + k) n 0 n 1) (y k) := FL.old (hg_new rfl (ysL_at y k)) h.symm h.symm
theorem ysL_FLn {H : List (List AV)} {y : Nat → List Nat} {k n : Nat} {l : List Nat} (h : l.length = n) : FL (H ++ (ysL y k ++ [fl l])) (.slm (H.length + (k + 1)) n 0 n 1) l := FL.old (hg_new rfl (ysL_new y k _)) h.symm h.symm
attribute [local irreducible] Ex exOps exD opX opE thenX blkX RetQ Spec CSpec Fr condK guardK guardD ckK valK pickK loadK faK callK argK gK fK rK RetV lpX prK
set_option maxHeartbeats 4000000 in
theorem ref_m (H : List (List AV)) (x : Nat × Nat) (l : List Nat) (off ld : Int) (n : Nat) (hI : MI l.length off n n ld) (hG : GoodP l.length off n n ld) (q : Nat × Nat) (la : List Nat) (ao al : Int) (hJ : MI la.length ao n n al) (hGa : GoodP la.length ao n n al) (q' : Nat × Nat) (p : List Int) (hpl : p.length = n) (hpv : pivP p) (Rv : AV) (rl : List Int) (hRl : ∀ H, IL H Rv rl) (Cv : AV) (cl : List Int) (hCl : ∀ H, IL H Cv cl) (hrl : rl.length = n) (hcl : cl.length = n) (hn1 : 1 ≤ n) (hn : n ≤ 64) (hz : ∀ k, k < n → feq ((mel la ao al) k k) 0 = false) (X : AV) (xl : List Nat) (hX : ∀ H', FL (H ++ H') X xl) (hxl : xl.length = n) (hN : NN X) (B : AV) (bl : List Nat) (hB : FL H B bl) (hbl : bl.length = n) (hRm : mx Rv ≤ H.length) (hCm : mx Cv ≤ H.length) (most : Int) (M : Nat) (hM : max (min most 5) 0 = (M : Int)) (N : Nat) (hNM : N = M) (hg : ∀ k, k < N → refG (mel l off ld) (mel la ao al) p rl cl xl bl n k = true) :
    CSpec Try.prog 17 [(.agg [aD x l, .int .i64 off, .int .i64 (n : Int), .int .i64 (n : Int), .int .i64 ld, aD q la, .int .i64 ao, .int .i64 (n : Int), .int .i64 (n : Int), .int .i64 al, aI q' p, Rv, Cv]), X, B, .int .i64 most] H (.tup [.sl none n (fl (refY (mel l off ld) (mel la ao al) p rl cl xl bl n N)), .flt (berrF (mel l off ld) (refY (mel l off ld) (mel la ao al) p rl cl xl bl n N) bl n), .int .i64 (N : Int), .int .i64 0]) H := by
  have hXn : slen X = some n := (by rw [(hX []).len, hxl])
  have hBn : slen B = some n := (by rw [hB.len, hbl])
  have hyl : ∀ k, (refY (mel l off ld) (mel la ao al) p rl cl xl bl n k).length = n := fun k => refY_len hxl k
  have ysE : ∀ k, ysL (refY (mel l off ld) (mel la ao al) p rl cl xl bl n) (k + 1) = ysL (refY (mel l off ld) (mel la ao al) p rl cl xl bl n) k ++ [fl (rml (dwF (refY (mel l off ld) (mel la ao al) p rl cl xl bl n k) (corF (mel l off ld) (mel la ao al) p rl cl bl n (refY (mel l off ld) (mel la ao al) p rl cl xl bl n k)) n) n)] := fun k => (by rw [dwF_all]; rfl)
  refine .mk (fun args w => Try.call17 args w) (Spec.intro' (fn := Try.f17) Try.func17 rfl (by kernel_rfl) (by simp) false [] (draw := drawX Try.prog ⟨false, _, []⟩) dOk ?_)
  simp only [argE, Nat.reduceAdd]
  repeat' (first
    | (refine gateE ?_; (first | refine b_c0 ?_ | refine b_nil ?_ | refine m13 ?_ | refine m12 ?_ | refine m11 ?_ | (refine m10 ?_; (first | refine g_TT ?_ | refine g_FF ?_ | refine g_TF ?_ | refine g_FT ?_ | refine g_PT ?_ ?_ | refine g_PF ?_ ?_ | refine g_BT ?_ ?_ | refine g_BF ?_ ?_ | fail)) | (refine m09 ?_; (first | refine g_TT ?_ | refine g_FF ?_ | refine g_TF ?_ | refine g_FT ?_ | refine g_PT ?_ ?_ | refine g_PF ?_ ?_ | refine g_BT ?_ ?_ | refine g_BF ?_ ?_ | fail)) | refine m38 ?_ | fail))
    | (refine gateO ?_; (first | refine m41 ?_ | refine b_moveI ?_ | refine m14 ?_ | (refine m17 ?_; first | refine m19 ?_ | refine m18 ?_) | (refine m07 ?_; (first | refine m15 ?_ | refine m16 ?_ | refine l_FL (ysL_FL (hyl k) _) (by rw [hyl]; omega) ?_ | refine l_FL (ysL_FLn (y := (refY (mel l off ld) (mel la ao al) p rl cl xl bl n)) (k := k) (l := (rml (dwF (refY (mel l off ld) (mel la ao al) p rl cl xl bl n k) (corF (mel l off ld) (mel la ao al) p rl cl bl n (refY (mel l off ld) (mel la ao al) p rl cl xl bl n k)) t) n)) (by simp)) (by simp; omega) ?_ | fail)) | refine b_lenA (by (conv => {lhs; whnf}); done) (by exact hXn) ?_ | refine b_lenA (by (conv => {lhs; whnf}); done) (by exact hBn) ?_ | refine b_lenA (by (conv => {lhs; whnf}); done) (by exact rfl) ?_ | refine b_iaN (by (conv => {lhs; whnf}); done) (by (conv => {lhs; whnf}); done) (by exact rfl) (by omega) ?_ | refine b_max2 (by first | (conv => {lhs; whnf}; done) | exact (by exact rfl) | fail) (by first | (conv => {lhs; whnf}; done) | exact (by exact rfl) | fail) hM ?_ | refine b_stN (i := k + 1) (m := (rml (dwF (refY (mel l off ld) (mel la ao al) p rl cl xl bl n k) (corF (mel l off ld) (mel la ao al) p rl cl bl n (refY (mel l off ld) (mel la ao al) p rl cl xl bl n k)) t) n)) (m' := (rml (dwF (refY (mel l off ld) (mel la ao al) p rl cl xl bl n k) (corF (mel l off ld) (mel la ao al) p rl cl bl n (refY (mel l off ld) (mel la ao al) p rl cl xl bl n k)) (t + 1)) n)) (by (conv => {lhs; whnf}); done) (by (conv => {lhs; whnf}); done) (by exact rfl) (ysL_new _ _ _) (by simp) (by simp; omega) (by rw [Nat.zero_add]; exact dwF_step (by omega)) (ysL_set _ _ _ _) ?_ | (refine m45 ?_; (first | refine v_to ((k + 1 : Nat) : Int) (by omega) (by omega) ?_ | refine v_to ((t + 1 : Nat) : Int) (by omega) (by omega) ?_ | refine v_bbT (by exact rfl) ?_ | refine v_k ?_ | fail)) | (refine m00 ?_; (first | refine v_to ((k + 1 : Nat) : Int) (by omega) (by omega) ?_ | refine v_to ((t + 1 : Nat) : Int) (by omega) (by omega) ?_ | refine m52 ?_ | refine m53 ?_ | refine v_eP ?_ | refine m54 ?_ | refine m55 ?_ | refine v_neP ?_ | refine m47 ?_ | refine m48 ?_ | refine m49 ?_ | refine m50 ?_ | refine v_nT ?_ | refine v_nF ?_ | refine v_nP ?_ | refine v_k ?_ | refine m51 ?_ | fail)) | (refine m22 ?_; (first | refine m26 ?_ | refine m27 ?_ | fail)) | refine m42 ?_ | refine b_assignI ?_ | refine b_assignN ?_ | refine m08 ?_ | (refine m20 ?_; (first | refine v_to ((k + 1 : Nat) : Int) (by omega) (by omega) ?_ | refine v_to ((t + 1 : Nat) : Int) (by omega) (by omega) ?_ | refine m52 ?_ | refine m53 ?_ | refine v_eP ?_ | refine m54 ?_ | refine m55 ?_ | refine v_neP ?_ | refine m47 ?_ | refine m48 ?_ | refine m49 ?_ | refine m50 ?_ | refine v_nT ?_ | refine v_nF ?_ | refine v_nP ?_ | refine v_k ?_ | refine m51 ?_ | fail)) | refine b_callB ?_ | refine m39 ?_ | refine b_lenA (by (conv => {lhs; whnf}); done) (by first | rfl | assumption) ?_ | refine m23 ?_ | refine m25 ?_ | refine m01 ?_ | refine b_max2 (by first | (conv => {lhs; whnf}; done) | exact (by exact rfl) | fail) (by first | (conv => {lhs; whnf}; done) | exact (by exact rfl) | fail) (by first | assumption | exact rfl) ?_ | refine b_min2 (by first | (conv => {lhs; whnf}; done) | exact (by exact rfl) | fail) (by first | (conv => {lhs; whnf}; done) | exact (by exact rfl) | fail) (by first | assumption | exact rfl) ?_ | fail))
    | (refine gateD ?_; (first | refine m36 ?_ | refine d_nil ?_ | refine m32 ?_ | refine m31 ?_ | refine m30 ?_ | (refine m28 ?_; (first | refine dg_TT ?_ | refine dg_FF ?_ | refine dg_TF ?_ | refine dg_FT ?_ | refine dg_PT ?_ ?_ | refine dg_PF ?_ ?_ | refine dg_BT ?_ ?_ | refine dg_BF ?_ ?_ | fail)) | (refine m29 ?_; (first | refine dg_TT ?_ | refine dg_FF ?_ | refine dg_TF ?_ | refine dg_FT ?_ | refine dg_PT ?_ ?_ | refine dg_PF ?_ ?_ | refine dg_BT ?_ ?_ | refine dg_BF ?_ ?_ | fail)) | refine m37 ?_ | fail))
    | (refine gateC ?_; (first | refine k_lt ?_ | refine k_fz ?_ | refine k_lb (by (conv => {lhs; whnf}); done) ?_ | refine k_ms ?_ | refine k_bx (by exact rfl) (by exact rfl) ?_ | refine m34 ?_ | refine m35 ?_ | refine m33 ?_ | refine k_mn ?_ | refine m56 ?_ | refine k_mnF ?_ | refine k_mnL (by exact rfl) ?_ | fail))
    | (refine gateT ?_; (first | refine b_thn ?_ | refine b_thr ?_ | refine b_the ?_ | fail))
    | (refine gateX ?_; (first | refine b_seq ?_ | refine b_region ?_ | (refine m06 ?_; (first | refine c_T ?_ | refine c_F ?_ | refine c_P ?_ ?_ | refine c_B ?_ ?_ | fail)) | refine b_ret ?_ | refine b_skip ?_ | refine b_block ?_ | refine b_exit ?_ | refine b_draw (id := 16) [] [12] [(0, .lt), (1, .lt), (2, .lt), (3, .lt), (4, .lt), (5, .ld true), (6, .lt), (7, .lt), (8, .lt), (9, .ld true), (10, .lt), (11, .lt), (12, .mn false)] (by kernel_rfl) ?_ | (refine b_loop [2, 4, 8, 9, 10, 12, 16, 56, 57, 76, 77] n (fun t => ⟨[(2, .val B), (4, .loc 4 0), (8, .val (.slm (H.length + k) n 0 n 1)), (9, .val (.flt (berrF (mel l off ld) (refY (mel l off ld) (mel la ao al) p rl cl xl bl n k) bl n))), (10, .val (.int .i64 ((k : Nat) : Int))), (12, .val (.func 10 [] [])), (16, .val (.slm (H.length + (k + 1)) n 0 n 1)), (56, .val (.int .i64 ((M : Nat) : Int))), (57, .val (.int .i64 ((k : Nat) : Int))), (76, .val (.int .i64 ((n : Nat) : Int))), (77, .val (.int .i64 ((t : Nat) : Int)))], [(4, [aD x l, .int .i64 off, .int .i64 (n : Int), .int .i64 (n : Int), .int .i64 ld, aD q la, .int .i64 ao, .int .i64 (n : Int), .int .i64 (n : Int), .int .i64 al, aI q' p, Rv, Cv])], H ++ (ysL (refY (mel l off ld) (mel la ao al) p rl cl xl bl n) k ++ [fl (rml (dwF (refY (mel l off ld) (mel la ao al) p rl cl xl bl n k) (corF (mel l off ld) (mel la ao al) p rl cl bl n (refY (mel l off ld) (mel la ao al) p rl cl xl bl n k)) t) n)])⟩) (by rw [dwF_zero]; exact rfl) ?_ ?_ <;> (first | intro t ht K hK | intro K) <;> (try dsimp only at *)) | (refine b_loop [2, 4, 8, 9, 10, 12, 56, 57] N (fun k => ⟨[(2, .val B), (4, .loc 4 0), (8, .val (.slm (H.length + k) n 0 n 1)), (9, .val (.flt (berrF (mel l off ld) (refY (mel l off ld) (mel la ao al) p rl cl xl bl n k) bl n))), (10, .val (.int .i64 ((k : Nat) : Int))), (12, .val (.func 10 [] [])), (56, .val (.int .i64 ((M : Nat) : Int))), (57, .val (.int .i64 ((k : Nat) : Int)))], [(4, [aD x l, .int .i64 off, .int .i64 (n : Int), .int .i64 (n : Int), .int .i64 ld, aD q la, .int .i64 ao, .int .i64 (n : Int), .int .i64 (n : Int), .int .i64 al, aI q' p, Rv, Cv])], H ++ ysL (refY (mel l off ld) (mel la ao al) p rl cl xl bl n) k⟩) (by exact rfl) ?_ ?_ <;> (first | intro k hk K hK | intro K) <;> (try dsimp only at *)) | fail))
    | refine m21 ?_
    | refine a_nil ?_
    | (refine gateK ?_; (first | refine c_call (check_0 _ x l off ld n hI hG q la ao al hJ hGa q' p hpl hpv Rv rl hRl Cv cl hCl hrl hcl hn1 hn hz) (OldOk.app (by simp)) ?_ | refine c_call (clone_l _ (H ++ ysL (refY (mel l off ld) (mel la ao al) p rl cl xl bl n) 0) X xl n (hX _) hxl hn hN _ (by (conv => {lhs; simp only [List.length_append, List.length_cons, List.length_nil, List.length_set, Nat.reduceAdd, Nat.zero_add]}); done) (by simp only [List.append_nil]; rfl)) (OldOk.app (by simp)) ?_ | refine c_call (berr_c _ (aD x l) l (aD_FL _ x l) off ld n hI hG hn _ (refY (mel l off ld) (mel la ao al) p rl cl xl bl n 0) (ysL_FL0 (hyl _)) (hyl _) B bl (FL.app hB _) hbl) (OldOk.app (by simp)) ?_ | refine c_call (rest_c _ (aD x l) l (aD_FL _ x l) off ld n hI hG hn _ (refY (mel l off ld) (mel la ao al) p rl cl xl bl n k) (ysL_FL0 (hyl _)) (hyl _) B bl (FL.app hB _) hbl) (OldOk.app (by simp)) ?_ | refine c_call (berr_c _ (aD x l) l (aD_FL _ x l) off ld n hI hG hn _ (refY (mel l off ld) (mel la ao al) p rl cl xl bl n (k + 1)) (by rw [← dwF_all]; exact ysL_FLn (by simp)) (hyl _) B bl (FL.app hB _) hbl) (OldOk.app (by simp)) ?_ | refine c_call (sv_ok (H ++ ysL (refY (mel l off ld) (mel la ao al) p rl cl xl bl n) k) x l off ld n hI hG q la ao al hJ hGa q' p hpl hpv Rv rl hRl Cv cl hCl hrl hcl hn1 hn hz _ (fun i => (restL (mel l off ld) (refY (mel l off ld) (mel la ao al) p rl cl xl bl n k) bl n).getD i 0) (fun _ => by rw [restL_self]; exact FLn _ (restL (mel l off ld) (refY (mel l off ld) (mel la ao al) p rl cl xl bl n k) bl n) n (by simp)) (NN.sl (by rw [restL_len]; omega)) (by rw [List.length_append]; omega) (by rw [List.length_append]; omega) (H ++ (ysL (refY (mel l off ld) (mel la ao al) p rl cl xl bl n) k ++ [fl (rml (corF (mel l off ld) (mel la ao al) p rl cl bl n (refY (mel l off ld) (mel la ao al) p rl cl xl bl n k)) n)])) (by rw [List.append_assoc]; rfl) (H.length + (k + 1)) (by rw [List.length_append, ysL_len])) (OldOk.app (by simp)) ?_ | fail))
    | refine m44 ?_
    | refine m40 ?_
    | (refine gk_nilN (by (conv => {lhs; simp only [List.nil_append, List.cons_append]}); done) ?_; first | refine ⟨by exact rfl, ?_⟩ | skip)
    | refine gk_nil ?_
    | (intro N' hN'; simp only [List.nil_append, List.cons_append] at hN'; subst hN')
    | (refine gateB ?_; (first | refine b_bln ?_ | refine b_blr ?_ | refine b_ble ?_ | refine m57 ?_ | fail))
    | (refine gateL ?_; (first | refine lp_n ?_ | refine lp_r ?_ | refine lp_e ?_ | fail))
    | (refine pr_k (by exact rfl) ?_; first | exact hK | (rw [ysE k] at hK; exact hK) | (exfalso; first | omega | (simp_all; done) | (simp_all; omega)))
    | (refine gateQ ?_; refine m05 ?_)
    | (refine gateR ?_; (first | refine m04 ?_ | refine m02 ?_ | refine m03 ?_ | refine rk_nil ?_ | fail))
    | intro _)
  all_goals first
    | (exfalso; omega)
    | (refine rv_fr rfl ?_; exact Fr.tup (Frs.cons (fr_new rfl (by first | exact ysL_at _ _ | exact ysL_at' _ _ _) (hyl _)) (Frs.cons (Fr.old (by simp [mx])) (Frs.cons (Fr.old (by simp [mx])) (Frs.cons (Fr.old (by simp [mx])) Frs.nil)))))
    | (exfalso; rw [half_cn] at *; have h9 := hg k (by omega); unfold refG at h9; simp_all; done)
    | (exfalso; rw [half_cn] at *; unfold refG at hb; simp_all; done)

set_option maxHeartbeats 4000000 in
theorem ref_b (H : List (List AV)) (x : Nat × Nat) (l : List Nat) (off ld : Int) (n : Nat) (hI : MI l.length off n n ld) (hG : GoodP l.length off n n ld) (q : Nat × Nat) (la : List Nat) (ao al : Int) (hJ : MI la.length ao n n al) (hGa : GoodP la.length ao n n al) (q' : Nat × Nat) (p : List Int) (hpl : p.length = n) (hpv : pivP p) (Rv : AV) (rl : List Int) (hRl : ∀ H, IL H Rv rl) (Cv : AV) (cl : List Int) (hCl : ∀ H, IL H Cv cl) (hrl : rl.length = n) (hcl : cl.length = n) (hn1 : 1 ≤ n) (hn : n ≤ 64) (hz : ∀ k, k < n → feq ((mel la ao al) k k) 0 = false) (X : AV) (xl : List Nat) (hX : ∀ H', FL (H ++ H') X xl) (hxl : xl.length = n) (hN : NN X) (B : AV) (bl : List Nat) (hB : FL H B bl) (hbl : bl.length = n) (hRm : mx Rv ≤ H.length) (hCm : mx Cv ≤ H.length) (most : Int) (M : Nat) (hM : max (min most 5) 0 = (M : Int)) (N : Nat) (hNM : N < M) (hg : ∀ k, k < N → refG (mel l off ld) (mel la ao al) p rl cl xl bl n k = true) (hb : ¬ refG (mel l off ld) (mel la ao al) p rl cl xl bl n N = true) :
    CSpec Try.prog 17 [(.agg [aD x l, .int .i64 off, .int .i64 (n : Int), .int .i64 (n : Int), .int .i64 ld, aD q la, .int .i64 ao, .int .i64 (n : Int), .int .i64 (n : Int), .int .i64 al, aI q' p, Rv, Cv]), X, B, .int .i64 most] H (.tup [.sl none n (fl (refY (mel l off ld) (mel la ao al) p rl cl xl bl n N)), .flt (berrF (mel l off ld) (refY (mel l off ld) (mel la ao al) p rl cl xl bl n N) bl n), .int .i64 (N : Int), .int .i64 0]) H := by
  have hXn : slen X = some n := (by rw [(hX []).len, hxl])
  have hBn : slen B = some n := (by rw [hB.len, hbl])
  have hyl : ∀ k, (refY (mel l off ld) (mel la ao al) p rl cl xl bl n k).length = n := fun k => refY_len hxl k
  have ysE : ∀ k, ysL (refY (mel l off ld) (mel la ao al) p rl cl xl bl n) (k + 1) = ysL (refY (mel l off ld) (mel la ao al) p rl cl xl bl n) k ++ [fl (rml (dwF (refY (mel l off ld) (mel la ao al) p rl cl xl bl n k) (corF (mel l off ld) (mel la ao al) p rl cl bl n (refY (mel l off ld) (mel la ao al) p rl cl xl bl n k)) n) n)] := fun k => (by rw [dwF_all]; rfl)
  refine .mk (fun args w => Try.call17 args w) (Spec.intro' (fn := Try.f17) Try.func17 rfl (by kernel_rfl) (by simp) false [] (draw := drawX Try.prog ⟨false, _, []⟩) dOk ?_)
  simp only [argE, Nat.reduceAdd]
  repeat' (first
    | (refine gateE ?_; (first | refine b_c0 ?_ | refine b_nil ?_ | refine m13 ?_ | refine m12 ?_ | refine m11 ?_ | (refine m10 ?_; (first | refine g_TT ?_ | refine g_FF ?_ | refine g_TF ?_ | refine g_FT ?_ | refine g_PT ?_ ?_ | refine g_PF ?_ ?_ | refine g_BT ?_ ?_ | refine g_BF ?_ ?_ | fail)) | (refine m09 ?_; (first | refine g_TT ?_ | refine g_FF ?_ | refine g_TF ?_ | refine g_FT ?_ | refine g_PT ?_ ?_ | refine g_PF ?_ ?_ | refine g_BT ?_ ?_ | refine g_BF ?_ ?_ | fail)) | refine m38 ?_ | fail))
    | (refine gateO ?_; (first | refine m41 ?_ | refine b_moveI ?_ | refine m14 ?_ | (refine m17 ?_; first | refine m19 ?_ | refine m18 ?_) | (refine m07 ?_; (first | refine m15 ?_ | refine m16 ?_ | refine l_FL (ysL_FL (hyl k) _) (by rw [hyl]; omega) ?_ | refine l_FL (ysL_FLn (y := (refY (mel l off ld) (mel la ao al) p rl cl xl bl n)) (k := k) (l := (rml (dwF (refY (mel l off ld) (mel la ao al) p rl cl xl bl n k) (corF (mel l off ld) (mel la ao al) p rl cl bl n (refY (mel l off ld) (mel la ao al) p rl cl xl bl n k)) t) n)) (by simp)) (by simp; omega) ?_ | refine l_FL (ysL_FL (hyl N) _) (by rw [hyl]; omega) ?_ | refine l_FL (ysL_FLn (y := (refY (mel l off ld) (mel la ao al) p rl cl xl bl n)) (k := N) (l := (rml (dwF (refY (mel l off ld) (mel la ao al) p rl cl xl bl n N) (corF (mel l off ld) (mel la ao al) p rl cl bl n (refY (mel l off ld) (mel la ao al) p rl cl xl bl n N)) t) n)) (by simp)) (by simp; omega) ?_ | fail)) | refine b_lenA (by (conv => {lhs; whnf}); done) (by exact hXn) ?_ | refine b_lenA (by (conv => {lhs; whnf}); done) (by exact hBn) ?_ | refine b_lenA (by (conv => {lhs; whnf}); done) (by exact rfl) ?_ | refine b_iaN (by (conv => {lhs; whnf}); done) (by (conv => {lhs; whnf}); done) (by exact rfl) (by omega) ?_ | refine b_max2 (by first | (conv => {lhs; whnf}; done) | exact (by exact rfl) | fail) (by first | (conv => {lhs; whnf}; done) | exact (by exact rfl) | fail) hM ?_ | refine b_stN (i := k + 1) (m := (rml (dwF (refY (mel l off ld) (mel la ao al) p rl cl xl bl n k) (corF (mel l off ld) (mel la ao al) p rl cl bl n (refY (mel l off ld) (mel la ao al) p rl cl xl bl n k)) t) n)) (m' := (rml (dwF (refY (mel l off ld) (mel la ao al) p rl cl xl bl n k) (corF (mel l off ld) (mel la ao al) p rl cl bl n (refY (mel l off ld) (mel la ao al) p rl cl xl bl n k)) (t + 1)) n)) (by (conv => {lhs; whnf}); done) (by (conv => {lhs; whnf}); done) (by exact rfl) (ysL_new _ _ _) (by simp) (by simp; omega) (by rw [Nat.zero_add]; exact dwF_step (by omega)) (ysL_set _ _ _ _) ?_ | refine b_stN (i := N + 1) (m := (rml (dwF (refY (mel l off ld) (mel la ao al) p rl cl xl bl n N) (corF (mel l off ld) (mel la ao al) p rl cl bl n (refY (mel l off ld) (mel la ao al) p rl cl xl bl n N)) t) n)) (m' := (rml (dwF (refY (mel l off ld) (mel la ao al) p rl cl xl bl n N) (corF (mel l off ld) (mel la ao al) p rl cl bl n (refY (mel l off ld) (mel la ao al) p rl cl xl bl n N)) (t + 1)) n)) (by (conv => {lhs; whnf}); done) (by (conv => {lhs; whnf}); done) (by exact rfl) (ysL_new _ _ _) (by simp) (by simp; omega) (by rw [Nat.zero_add]; exact dwF_step (by omega)) (ysL_set _ _ _ _) ?_ | (refine m45 ?_; (first | refine v_to ((k + 1 : Nat) : Int) (by omega) (by omega) ?_ | refine v_to ((t + 1 : Nat) : Int) (by omega) (by omega) ?_ | refine v_bbT (by exact rfl) ?_ | refine v_k ?_ | fail)) | (refine m00 ?_; (first | refine v_to ((k + 1 : Nat) : Int) (by omega) (by omega) ?_ | refine v_to ((t + 1 : Nat) : Int) (by omega) (by omega) ?_ | refine m52 ?_ | refine m53 ?_ | refine v_eP ?_ | refine m54 ?_ | refine m55 ?_ | refine v_neP ?_ | refine m47 ?_ | refine m48 ?_ | refine m49 ?_ | refine m50 ?_ | refine v_nT ?_ | refine v_nF ?_ | refine v_nP ?_ | refine v_k ?_ | refine m51 ?_ | fail)) | (refine m22 ?_; (first | refine m26 ?_ | refine m27 ?_ | fail)) | refine m42 ?_ | refine b_assignI ?_ | refine b_assignN ?_ | refine m08 ?_ | (refine m20 ?_; (first | refine v_to ((k + 1 : Nat) : Int) (by omega) (by omega) ?_ | refine v_to ((t + 1 : Nat) : Int) (by omega) (by omega) ?_ | refine m52 ?_ | refine m53 ?_ | refine v_eP ?_ | refine m54 ?_ | refine m55 ?_ | refine v_neP ?_ | refine m47 ?_ | refine m48 ?_ | refine m49 ?_ | refine m50 ?_ | refine v_nT ?_ | refine v_nF ?_ | refine v_nP ?_ | refine v_k ?_ | refine m51 ?_ | fail)) | refine b_callB ?_ | refine m39 ?_ | refine b_lenA (by (conv => {lhs; whnf}); done) (by first | rfl | assumption) ?_ | refine m23 ?_ | refine m25 ?_ | refine m01 ?_ | refine b_max2 (by first | (conv => {lhs; whnf}; done) | exact (by exact rfl) | fail) (by first | (conv => {lhs; whnf}; done) | exact (by exact rfl) | fail) (by first | assumption | exact rfl) ?_ | refine b_min2 (by first | (conv => {lhs; whnf}; done) | exact (by exact rfl) | fail) (by first | (conv => {lhs; whnf}; done) | exact (by exact rfl) | fail) (by first | assumption | exact rfl) ?_ | fail))
    | (refine gateD ?_; (first | refine m36 ?_ | refine d_nil ?_ | refine m32 ?_ | refine m31 ?_ | refine m30 ?_ | (refine m28 ?_; (first | refine dg_TT ?_ | refine dg_FF ?_ | refine dg_TF ?_ | refine dg_FT ?_ | refine dg_PT ?_ ?_ | refine dg_PF ?_ ?_ | refine dg_BT ?_ ?_ | refine dg_BF ?_ ?_ | fail)) | (refine m29 ?_; (first | refine dg_TT ?_ | refine dg_FF ?_ | refine dg_TF ?_ | refine dg_FT ?_ | refine dg_PT ?_ ?_ | refine dg_PF ?_ ?_ | refine dg_BT ?_ ?_ | refine dg_BF ?_ ?_ | fail)) | refine m37 ?_ | fail))
    | (refine gateC ?_; (first | refine k_lt ?_ | refine k_fz ?_ | refine k_lb (by (conv => {lhs; whnf}); done) ?_ | refine k_ms ?_ | refine k_bx (by exact rfl) (by exact rfl) ?_ | refine m34 ?_ | refine m35 ?_ | refine m33 ?_ | refine k_mn ?_ | refine m56 ?_ | refine k_mnF ?_ | refine k_mnL (by exact rfl) ?_ | fail))
    | (refine gateT ?_; (first | refine b_thn ?_ | refine b_thr ?_ | refine b_the ?_ | fail))
    | (refine gateX ?_; (first | refine b_seq ?_ | refine b_region ?_ | (refine m06 ?_; (first | refine c_T ?_ | refine c_F ?_ | refine c_P ?_ ?_ | refine c_B ?_ ?_ | fail)) | refine b_ret ?_ | refine b_skip ?_ | refine b_block ?_ | refine b_exit ?_ | refine b_draw (id := 16) [] [12] [(0, .lt), (1, .lt), (2, .lt), (3, .lt), (4, .lt), (5, .ld true), (6, .lt), (7, .lt), (8, .lt), (9, .ld true), (10, .lt), (11, .lt), (12, .mn false)] (by kernel_rfl) ?_ | (refine b_loop [2, 4, 8, 9, 10, 12, 16, 56, 57, 76, 77] n (fun t => ⟨[(2, .val B), (4, .loc 4 0), (8, .val (.slm (H.length + k) n 0 n 1)), (9, .val (.flt (berrF (mel l off ld) (refY (mel l off ld) (mel la ao al) p rl cl xl bl n k) bl n))), (10, .val (.int .i64 ((k : Nat) : Int))), (12, .val (.func 10 [] [])), (16, .val (.slm (H.length + (k + 1)) n 0 n 1)), (56, .val (.int .i64 ((M : Nat) : Int))), (57, .val (.int .i64 ((k : Nat) : Int))), (76, .val (.int .i64 ((n : Nat) : Int))), (77, .val (.int .i64 ((t : Nat) : Int)))], [(4, [aD x l, .int .i64 off, .int .i64 (n : Int), .int .i64 (n : Int), .int .i64 ld, aD q la, .int .i64 ao, .int .i64 (n : Int), .int .i64 (n : Int), .int .i64 al, aI q' p, Rv, Cv])], H ++ (ysL (refY (mel l off ld) (mel la ao al) p rl cl xl bl n) k ++ [fl (rml (dwF (refY (mel l off ld) (mel la ao al) p rl cl xl bl n k) (corF (mel l off ld) (mel la ao al) p rl cl bl n (refY (mel l off ld) (mel la ao al) p rl cl xl bl n k)) t) n)])⟩) (by rw [dwF_zero]; exact rfl) ?_ ?_ <;> (first | intro t ht K hK | intro K) <;> (try dsimp only at *)) | (refine b_loop [2, 4, 8, 9, 10, 12, 16, 56, 57, 76, 77] n (fun t => ⟨[(2, .val B), (4, .loc 4 0), (8, .val (.slm (H.length + N) n 0 n 1)), (9, .val (.flt (berrF (mel l off ld) (refY (mel l off ld) (mel la ao al) p rl cl xl bl n N) bl n))), (10, .val (.int .i64 ((N : Nat) : Int))), (12, .val (.func 10 [] [])), (16, .val (.slm (H.length + (N + 1)) n 0 n 1)), (56, .val (.int .i64 ((M : Nat) : Int))), (57, .val (.int .i64 ((N : Nat) : Int))), (76, .val (.int .i64 ((n : Nat) : Int))), (77, .val (.int .i64 ((t : Nat) : Int)))], [(4, [aD x l, .int .i64 off, .int .i64 (n : Int), .int .i64 (n : Int), .int .i64 ld, aD q la, .int .i64 ao, .int .i64 (n : Int), .int .i64 (n : Int), .int .i64 al, aI q' p, Rv, Cv])], H ++ (ysL (refY (mel l off ld) (mel la ao al) p rl cl xl bl n) N ++ [fl (rml (dwF (refY (mel l off ld) (mel la ao al) p rl cl xl bl n N) (corF (mel l off ld) (mel la ao al) p rl cl bl n (refY (mel l off ld) (mel la ao al) p rl cl xl bl n N)) t) n)])⟩) (by rw [dwF_zero]; exact rfl) ?_ ?_ <;> (first | intro t ht K hK | intro K) <;> (try dsimp only at *)) | (refine b_loop [2, 4, 8, 9, 10, 12, 56, 57] N (fun k => ⟨[(2, .val B), (4, .loc 4 0), (8, .val (.slm (H.length + k) n 0 n 1)), (9, .val (.flt (berrF (mel l off ld) (refY (mel l off ld) (mel la ao al) p rl cl xl bl n k) bl n))), (10, .val (.int .i64 ((k : Nat) : Int))), (12, .val (.func 10 [] [])), (56, .val (.int .i64 ((M : Nat) : Int))), (57, .val (.int .i64 ((k : Nat) : Int)))], [(4, [aD x l, .int .i64 off, .int .i64 (n : Int), .int .i64 (n : Int), .int .i64 ld, aD q la, .int .i64 ao, .int .i64 (n : Int), .int .i64 (n : Int), .int .i64 al, aI q' p, Rv, Cv])], H ++ ysL (refY (mel l off ld) (mel la ao al) p rl cl xl bl n) k⟩) (by exact rfl) ?_ ?_ <;> (first | intro k hk K hK | intro K) <;> (try dsimp only at *)) | fail))
    | refine m21 ?_
    | refine a_nil ?_
    | (refine gateK ?_; (first | refine c_call (check_0 _ x l off ld n hI hG q la ao al hJ hGa q' p hpl hpv Rv rl hRl Cv cl hCl hrl hcl hn1 hn hz) (OldOk.app (by simp)) ?_ | refine c_call (clone_l _ (H ++ ysL (refY (mel l off ld) (mel la ao al) p rl cl xl bl n) 0) X xl n (hX _) hxl hn hN _ (by (conv => {lhs; simp only [List.length_append, List.length_cons, List.length_nil, List.length_set, Nat.reduceAdd, Nat.zero_add]}); done) (by simp only [List.append_nil]; rfl)) (OldOk.app (by simp)) ?_ | refine c_call (berr_c _ (aD x l) l (aD_FL _ x l) off ld n hI hG hn _ (refY (mel l off ld) (mel la ao al) p rl cl xl bl n 0) (ysL_FL0 (hyl _)) (hyl _) B bl (FL.app hB _) hbl) (OldOk.app (by simp)) ?_ | refine c_call (rest_c _ (aD x l) l (aD_FL _ x l) off ld n hI hG hn _ (refY (mel l off ld) (mel la ao al) p rl cl xl bl n k) (ysL_FL0 (hyl _)) (hyl _) B bl (FL.app hB _) hbl) (OldOk.app (by simp)) ?_ | refine c_call (berr_c _ (aD x l) l (aD_FL _ x l) off ld n hI hG hn _ (refY (mel l off ld) (mel la ao al) p rl cl xl bl n (k + 1)) (by rw [← dwF_all]; exact ysL_FLn (by simp)) (hyl _) B bl (FL.app hB _) hbl) (OldOk.app (by simp)) ?_ | refine c_call (sv_ok (H ++ ysL (refY (mel l off ld) (mel la ao al) p rl cl xl bl n) k) x l off ld n hI hG q la ao al hJ hGa q' p hpl hpv Rv rl hRl Cv cl hCl hrl hcl hn1 hn hz _ (fun i => (restL (mel l off ld) (refY (mel l off ld) (mel la ao al) p rl cl xl bl n k) bl n).getD i 0) (fun _ => by rw [restL_self]; exact FLn _ (restL (mel l off ld) (refY (mel l off ld) (mel la ao al) p rl cl xl bl n k) bl n) n (by simp)) (NN.sl (by rw [restL_len]; omega)) (by rw [List.length_append]; omega) (by rw [List.length_append]; omega) (H ++ (ysL (refY (mel l off ld) (mel la ao al) p rl cl xl bl n) k ++ [fl (rml (corF (mel l off ld) (mel la ao al) p rl cl bl n (refY (mel l off ld) (mel la ao al) p rl cl xl bl n k)) n)])) (by rw [List.append_assoc]; rfl) (H.length + (k + 1)) (by rw [List.length_append, ysL_len])) (OldOk.app (by simp)) ?_ | refine c_call (rest_c _ (aD x l) l (aD_FL _ x l) off ld n hI hG hn _ (refY (mel l off ld) (mel la ao al) p rl cl xl bl n N) (ysL_FL0 (hyl _)) (hyl _) B bl (FL.app hB _) hbl) (OldOk.app (by simp)) ?_ | refine c_call (berr_c _ (aD x l) l (aD_FL _ x l) off ld n hI hG hn _ (refY (mel l off ld) (mel la ao al) p rl cl xl bl n (N + 1)) (by rw [← dwF_all]; exact ysL_FLn (by simp)) (hyl _) B bl (FL.app hB _) hbl) (OldOk.app (by simp)) ?_ | refine c_call (sv_ok (H ++ ysL (refY (mel l off ld) (mel la ao al) p rl cl xl bl n) N) x l off ld n hI hG q la ao al hJ hGa q' p hpl hpv Rv rl hRl Cv cl hCl hrl hcl hn1 hn hz _ (fun i => (restL (mel l off ld) (refY (mel l off ld) (mel la ao al) p rl cl xl bl n N) bl n).getD i 0) (fun _ => by rw [restL_self]; exact FLn _ (restL (mel l off ld) (refY (mel l off ld) (mel la ao al) p rl cl xl bl n N) bl n) n (by simp)) (NN.sl (by rw [restL_len]; omega)) (by rw [List.length_append]; omega) (by rw [List.length_append]; omega) (H ++ (ysL (refY (mel l off ld) (mel la ao al) p rl cl xl bl n) N ++ [fl (rml (corF (mel l off ld) (mel la ao al) p rl cl bl n (refY (mel l off ld) (mel la ao al) p rl cl xl bl n N)) n)])) (by rw [List.append_assoc]; rfl) (H.length + (N + 1)) (by rw [List.length_append, ysL_len])) (OldOk.app (by simp)) ?_ | fail))
    | refine m44 ?_
    | refine m40 ?_
    | (refine gk_nilN (by (conv => {lhs; simp only [List.nil_append, List.cons_append]}); done) ?_; first | refine ⟨by exact rfl, ?_⟩ | skip)
    | refine gk_nil ?_
    | (intro N' hN'; simp only [List.nil_append, List.cons_append] at hN'; subst hN')
    | (refine gateB ?_; (first | refine b_bln ?_ | refine b_blr ?_ | refine b_ble ?_ | refine m57 ?_ | fail))
    | (refine gateL ?_; (first | refine lp_n ?_ | refine lp_r ?_ | refine lp_e ?_ | fail))
    | (refine pr_k (by exact rfl) ?_; first | exact hK | (rw [ysE k] at hK; exact hK) | (exfalso; first | omega | (simp_all; done) | (simp_all; omega)))
    | (refine gateQ ?_; refine m05 ?_)
    | (refine gateR ?_; (first | refine m04 ?_ | refine m02 ?_ | refine m03 ?_ | refine rk_nil ?_ | fail))
    | intro _)
  all_goals first
    | (exfalso; omega)
    | (refine rv_fr rfl ?_; exact Fr.tup (Frs.cons (fr_new rfl (by first | exact ysL_at _ _ | exact ysL_at' _ _ _) (hyl _)) (Frs.cons (Fr.old (by simp [mx])) (Frs.cons (Fr.old (by simp [mx])) (Frs.cons (Fr.old (by simp [mx])) Frs.nil)))))
    | (exfalso; rw [half_cn] at *; have h9 := hg k (by omega); unfold refG at h9; simp_all; done)
    | (exfalso; rw [half_cn] at *; unfold refG at hb; simp_all; done)


end Go.Sx

set_option linter.unusedVariables false
set_option linter.unusedSimpArgs false
set_option maxRecDepth 20000
namespace Go.Sx
open Go.Proofs

def xV (X : AV) (h n : Nat) : Nat → AV
  | 0 => X
  | k + 1 => gV h k n
def bkL (y : Nat → List Nat) : Nat → List (List AV)
  | 0 => []
  | k + 1 => bkL y k ++ gN (fl (y (k + 1)))
/-- what is handed back: what went in, or a new list -/
def xR (X : AV) (l : List Nat) (n : Nat) : Nat → AV
  | 0 => X
  | _ + 1 => .sl none n (fl l)
section
variable {y : Nat → List Nat} {n : Nat} (hy : ∀ k, (y k).length = n) (hn : 1 ≤ n)
include hy hn in
theorem bkL_ne (k : Nat) : fl (y k) ≠ [] := by
  intro e
  have h1 := congrArg List.length e
  have h2 := hy k
  have h3 : y k = [] := by simpa using h1
  rw [h3] at h2; simp at h2; omega
include hy hn in
theorem bkL_len (k : Nat) : (bkL y k).length = k := by
  induction k with
  | zero => rfl
  | succ k ih => rw [bkL, List.length_append, ih, gN_ne (bkL_ne hy hn _)]; rfl
theorem xV_len {X : AV} {h k : Nat} (hX : slen X = some n) : slen (xV X h n k) = some n := by
  cases k with
  | zero => exact hX
  | succ k => exact gV_len _ _ _
variable {H : List (List AV)} {X : AV} (hX : ∀ H', FL (H ++ H') X (y 0))
include hX hy hn in
theorem xV_FL (k : Nat) (N : List (List AV)) : FL (H ++ (bkL y k ++ N)) (xV X H.length n k) (y k) := by
  cases k with
  | zero => exact hX _
  | succ k =>
    have h1 := FL.app (gV_FL (n := H.length) (i := k) (l := y (k + 1)) (A := H) (N₀ := bkL y k) rfl (bkL_len hy hn k)) N
    rw [hy] at h1
    rw [List.append_assoc] at h1
    exact h1
include hX hy hn in
theorem xV_FL0 (k : Nat) : FL (H ++ bkL y k) (xV X H.length n k) (y k) := by
  have := xV_FL hy hn hX k []
  rwa [List.append_nil] at this
include hX hy hn in
theorem xV_fr (k : Nat) (N : List (List AV)) : Fr H.length [] (H ++ (bkL y k ++ N)) (xV X H.length n k) (xR X (y k) n k) := by
  cases k with
  | zero => exact Fr.old (by have := (hX []).mx; rwa [List.append_nil] at this)
  | succ k =>
    have h1 := gV_frG (n := H.length) (i := k) (k := n) (l := fl (y (k + 1))) (A := H) (N₀ := bkL y k) (G := N) rfl (bkL_len hy hn k) (by simp [hy]) (by rw [mxL_fl]; exact Nat.zero_le _)
    simp only [bkL, xV, xR, List.append_assoc]
    exact h1
include hX hy hn in
theorem xV_fr0 (k : Nat) : Fr H.length [] (H ++ bkL y k) (xV X H.length n k) (xR X (y k) n k) := by
  have := xV_fr hy hn hX k []
  rwa [List.append_nil] at this
end
theorem ry_fl {y : List Nat} {d : Nat → Nat} {n t : Nat} (ht : t < n) : fl (rml (fun i => fadd (y.getD i 0) (d i)) t) ++ [.flt (fadd (y.getD t 0) ((rml d n).getD t 0))] = fl (rml (fun i => fadd (y.getD i 0) (d i)) (t + 1)) := by
  rw [rml_get ht]; exact rml_fl (fun i => fadd (y.getD i 0) (d i)) t
theorem xR_FL {H : List (List AV)} {X : AV} {l0 l : List Nat} {n : Nat} (k : Nat) (h0 : k = 0 → l = l0) (hl : l.length = n) (hX : FL H X l0) : FL H (xR X l n k) l := by
  cases k with
  | zero => rw [h0 rfl]; exact hX
  | succ k => exact FLn _ _ _ hl
attribute [local irreducible] Ex exOps exD opX opE thenX blkX RetQ Spec CSpec Fr condK guardK guardD ckK valK pickK loadK faK callK argK gK fK rK RetV lpX prK
set_option maxHeartbeats 4000000 in
theorem rref_5 (H : List (List AV)) (x : Nat × Nat) (l : List Nat) (off ld : Int) (n : Nat) (hI : MI l.length off n n ld) (hG : GoodP l.length off n n ld) (q : Nat × Nat) (la : List Nat) (ao al : Int) (hJ : MI la.length ao n n al) (hGa : GoodP la.length ao n n al) (q' : Nat × Nat) (p : List Int) (hpl : p.length = n) (hpv : pivP p) (Rv : AV) (rl : List Int) (hRl : ∀ H, IL H Rv rl) (Cv : AV) (cl : List Int) (hCl : ∀ H, IL H Cv cl) (hrl : rl.length = n) (hcl : cl.length = n) (hn1 : 1 ≤ n) (hn : n ≤ 64) (hz : ∀ k, k < n → feq ((mel la ao al) k k) 0 = false) (X : AV) (xl : List Nat) (hX : ∀ H', FL (H ++ H') X xl) (hxl : xl.length = n) (hN : NN X) (B : AV) (bl : List Nat) (hB : FL H B bl) (hbl : bl.length = n) (most : Int) (M : Nat) (hM : max (min most 5) 0 = (M : Int)) (hN5 : M = 5) (hg : ∀ k, k < 5 → refG (mel l off ld) (mel la ao al) p rl cl xl bl n k = true) :
    CSpec Try.prog 18 [(.agg [.int .i64 (n : Int), .int .i64 (n : Int), .sl none (n * n) (fl (rmA (mel l off ld) n n)), .int .i64 (n : Int), .int .i64 (n : Int), .sl none (n * n) (fl (rmA (mel la ao al) n n)), aI q' p, Rv, Cv]), X, B, .int .i64 most] H (.tup [xR X (refY (mel l off ld) (mel la ao al) p rl cl xl bl n 5) n 5, .flt (berrF (mel l off ld) (refY (mel l off ld) (mel la ao al) p rl cl xl bl n 5) bl n), .int .i64 ((5 : Nat) : Int)]) H := by
  have hXn : slen X = some n := (by rw [(hX []).len, hxl])
  have hBn : slen B = some n := (by rw [hB.len, hbl])
  have hyl : ∀ k, (refY (mel l off ld) (mel la ao al) p rl cl xl bl n k).length = n := fun k => refY_len hxl k
  have hX0 : ∀ H', FL (H ++ H') X ((refY (mel l off ld) (mel la ao al) p rl cl xl bl n 0)) := hX
  refine .mk (fun args w => Try.call18 args w) (Spec.intro' (fn := Try.f18) Try.func18 rfl (by kernel_rfl) (by simp) false [61] (draw := drawX Try.prog ⟨false, _, [61]⟩) dOk ?_)
  simp only [argE, Nat.reduceAdd]
  repeat' (first
    | (refine gateE ?_; (first | refine b_c0 ?_ | refine b_nil ?_ | fail))
    | (refine gateO ?_; (first | refine m14 ?_ | (refine m17 ?_; first | refine m19 ?_ | refine m18 ?_) | (refine m07 ?_; (first | refine m15 ?_ | refine m16 ?_ | refine l_FL (xV_FL hyl hn1 hX0 k _) (by rw [hyl]; omega) ?_ | refine l_FL (FLn _ (rml (corF (mel l off ld) (mel la ao al) p rl cl bl n (refY (mel l off ld) (mel la ao al) p rl cl xl bl n k)) n) n (by simp)) (by simp; omega) ?_ | fail)) | refine b_lenA (by (conv => {lhs; whnf}); done) (by exact xV_len hXn) ?_ | refine b_iaN (by (conv => {lhs; whnf}); done) (by (conv => {lhs; whnf}); done) (by exact xV_len hXn) (by omega) ?_ | refine b_iaN (by (conv => {lhs; whnf}); done) (by (conv => {lhs; whnf}); done) (by exact rfl) (by omega) ?_ | refine b_grow (i := k) (N₀ := bkL (refY (mel l off ld) (mel la ao al) p rl cl xl bl n) k) (by (conv => {lhs; whnf}); done) (by (conv => {lhs; whnf}); done) (by exact rfl) (bkL_len hyl hn1 _) (by simp) (by omega) (by exact rfl) (by exact rfl) (l' := fl (rml (fun i => fadd ((refY (mel l off ld) (mel la ao al) p rl cl xl bl n k).getD i 0) ((corF (mel l off ld) (mel la ao al) p rl cl bl n (refY (mel l off ld) (mel la ao al) p rl cl xl bl n k)) i)) (t + 1))) (by exact ry_fl (by omega)) ?_ | (refine m00 ?_; (first | refine v_to ((k + 1 : Nat) : Int) (by omega) (by omega) ?_ | refine v_to ((t + 1 : Nat) : Int) (by omega) (by omega) ?_ | refine m47 ?_ | refine m48 ?_ | refine m49 ?_ | refine m50 ?_ | refine v_nT ?_ | refine v_nF ?_ | refine v_nP ?_ | refine v_k ?_ | refine m51 ?_ | fail)) | refine m42 ?_ | refine b_assignI ?_ | refine b_assignN ?_ | refine m08 ?_ | (refine m20 ?_; (first | refine v_to ((k + 1 : Nat) : Int) (by omega) (by omega) ?_ | refine v_to ((t + 1 : Nat) : Int) (by omega) (by omega) ?_ | refine m47 ?_ | refine m48 ?_ | refine m49 ?_ | refine m50 ?_ | refine v_nT ?_ | refine v_nF ?_ | refine v_nP ?_ | refine v_k ?_ | refine m51 ?_ | fail)) | refine b_callB ?_ | refine b_lenA (by (conv => {lhs; whnf}); done) (by first | rfl | assumption) ?_ | refine m23 ?_ | refine m01 ?_ | refine b_bslZ (by exact rfl) (by exact rfl) (by decide) ?_ | fail))
    | (refine gateD ?_; (first | refine m36 ?_ | refine d_nil ?_ | fail))
    | (refine gateC ?_; (first | refine k_lt ?_ | refine k_fz ?_ | refine k_lb (by (conv => {lhs; whnf}); done) ?_ | refine k_ms ?_ | refine k_bx (by exact rfl) (by exact rfl) ?_ | refine m34 ?_ | refine m35 ?_ | refine m33 ?_ | refine k_mn ?_ | refine m56 ?_ | refine k_mnF ?_ | refine k_mnL (by exact rfl) ?_ | fail))
    | (refine gateT ?_; (first | refine b_thn ?_ | refine b_thr ?_ | refine b_the ?_ | fail))
    | (refine gateX ?_; (first | refine b_seq ?_ | refine b_region ?_ | (refine m06 ?_; (first | refine c_T ?_ | refine c_F ?_ | refine c_P ?_ ?_ | refine c_B ?_ ?_ | fail)) | refine b_ret ?_ | refine b_skip ?_ | refine b_block ?_ | refine b_exit ?_ | refine b_draw (id := 13) [] [11] [(0, .lt), (1, .lt), (2, .lt), (3, .lt), (4, .ld true), (5, .lt), (6, .lt), (7, .lt), (8, .ld true), (9, .mn true), (10, .fz), (11, .mn false), (12, .lt)] (by kernel_rfl) ?_ | (refine b_loop [1, 2, 3, 4, 11, 12, 15, 16, 17] n (fun t => ⟨[(1, .val (xV X H.length n k)), (2, .val B), (3, .val (.int .i64 most)), (4, .loc 4 0), (11, .val (.flt (berrF (mel l off ld) (refY (mel l off ld) (mel la ao al) p rl cl xl bl n k) bl n))), (12, .val (.int .i64 ((k : Nat) : Int))), (15, .val (.sl none n (fl (rml (corF (mel l off ld) (mel la ao al) p rl cl bl n (refY (mel l off ld) (mel la ao al) p rl cl xl bl n k)) n)))), (16, .val (gV H.length k t)), (17, .val (.int .i64 ((t : Nat) : Int)))], [(4, [.int .i64 (n : Int), .int .i64 (n : Int), .sl none (n * n) (fl (rmA (mel l off ld) n n)), .int .i64 (n : Int), .int .i64 (n : Int), .sl none (n * n) (fl (rmA (mel la ao al) n n)), aI q' p, Rv, Cv])], H ++ (bkL (refY (mel l off ld) (mel la ao al) p rl cl xl bl n) k ++ gN (fl (rml (fun i => fadd ((refY (mel l off ld) (mel la ao al) p rl cl xl bl n k).getD i 0) ((corF (mel l off ld) (mel la ao al) p rl cl bl n (refY (mel l off ld) (mel la ao al) p rl cl xl bl n k)) i)) t)))⟩) (by rw [show gN (fl (rml (fun i => fadd ((refY (mel l off ld) (mel la ao al) p rl cl xl bl n k).getD i 0) ((corF (mel l off ld) (mel la ao al) p rl cl bl n (refY (mel l off ld) (mel la ao al) p rl cl xl bl n k)) i)) 0)) = [] from rfl, List.append_nil]; exact rfl) ?_ ?_ <;> (first | intro t ht K hK | intro K) <;> (try dsimp only at *)) | (refine b_loop [1, 2, 3, 4, 11, 12] 5 (fun k => ⟨[(1, .val (xV X H.length n k)), (2, .val B), (3, .val (.int .i64 most)), (4, .loc 4 0), (11, .val (.flt (berrF (mel l off ld) (refY (mel l off ld) (mel la ao al) p rl cl xl bl n k) bl n))), (12, .val (.int .i64 ((k : Nat) : Int)))], [(4, [.int .i64 (n : Int), .int .i64 (n : Int), .sl none (n * n) (fl (rmA (mel l off ld) n n)), .int .i64 (n : Int), .int .i64 (n : Int), .sl none (n * n) (fl (rmA (mel la ao al) n n)), aI q' p, Rv, Cv])], H ++ bkL (refY (mel l off ld) (mel la ao al) p rl cl xl bl n) k⟩) (by rw [show ∀ y, bkL y 0 = [] from fun _ => rfl]; exact rfl) ?_ ?_ <;> (first | intro k hk K hK | intro K) <;> (try dsimp only at *)) | fail))
    | refine m43 ?_
    | refine a_consI ?_
    | refine m21 ?_
    | refine a_nil ?_
    | (refine gateK ?_; (first | refine c_call (rberr_c _ (.sl none (n * n) (fl (rmA (mel l off ld) n n))) (mel l off ld) n (FLz _ _ _ (by simp)) hn1 hn X (refY (mel l off ld) (mel la ao al) p rl cl xl bl n 0) (hX0 _) (hyl _) B bl (FL.app hB _) hbl) (OldOk.app (by simp)) ?_ | refine c_call (rrest_c _ (.sl none (n * n) (fl (rmA (mel l off ld) n n))) (mel l off ld) n (FLz _ _ _ (by simp)) hn1 hn _ (refY (mel l off ld) (mel la ao al) p rl cl xl bl n k) (xV_FL0 hyl hn1 hX0 _) (hyl _) B bl (FL.app hB _) hbl) (OldOk.app (by simp)) ?_ | refine c_call (rsv_c _ x l off ld n hI hG q la ao al hJ hGa q' p hpl hpv Rv rl hRl Cv cl hCl hrl hcl hn1 hn hz _ (restL (mel l off ld) (refY (mel l off ld) (mel la ao al) p rl cl xl bl n k) bl n) (fun H9 => FLn H9 (restL (mel l off ld) (refY (mel l off ld) (mel la ao al) p rl cl xl bl n k) bl n) n (by simp)) (by simp)) (OldOk.app (by simp)) ?_ | refine c_call (rberr_c _ (.sl none (n * n) (fl (rmA (mel l off ld) n n))) (mel l off ld) n (FLz _ _ _ (by simp)) hn1 hn _ (refY (mel l off ld) (mel la ao al) p rl cl xl bl n (k + 1)) (by have h9 := xV_FL0 hyl hn1 hX0 (k + 1); exact h9) (hyl _) B bl (FL.app hB _) hbl) (OldOk.app (by simp)) ?_ | refine c_call (plus_c _ _ _) (OldOk.app (by simp)) ?_ | refine c_call (times_c _ _ _) (OldOk.app (by simp)) ?_ | fail))
    | refine m44 ?_
    | refine m40 ?_
    | (refine gk_nilN (by (conv => {lhs; simp only [List.nil_append, List.cons_append]}); done) ?_; first | refine ⟨by exact rfl, ?_⟩ | skip)
    | refine gk_nil ?_
    | (intro N' hN'; simp only [List.nil_append, List.cons_append] at hN'; subst hN')
    | (refine gateB ?_; (first | refine b_bln ?_ | refine b_blr ?_ | refine b_ble ?_ | refine m57 ?_ | fail))
    | (refine gateL ?_; (first | refine lp_n ?_ | refine lp_r ?_ | refine lp_e ?_ | fail))
    | (refine pr_k (by exact rfl) ?_; first | exact hK | fail | (exfalso; first | omega | (simp_all; done) | (simp_all; omega)))
    | (refine gateQ ?_; refine m05 ?_)
    | (refine gateR ?_; (first | refine m04 ?_ | refine m02 ?_ | refine m03 ?_ | refine rk_nil ?_ | fail))
    | intro _)
  all_goals first
    | (exfalso; omega)
    | (refine rv_fr rfl ?_; exact Fr.tup (Frs.cons (by first | exact xV_fr0 hyl hn1 hX0 _ | exact xV_fr hyl hn1 hX0 _ _) (Frs.cons (Fr.old (by simp [mx])) (Frs.cons (Fr.old (by simp [mx])) Frs.nil))))
    | (exfalso; (try rw [half_cn] at *); have h9 := hg k (by omega); unfold refG at h9; simp_all; done)
    | (exfalso; (try rw [half_cn] at *); unfold refG at hb; simp_all; done)

set_option maxHeartbeats 4000000 in
theorem rref_m (H : List (List AV)) (x : Nat × Nat) (l : List Nat) (off ld : Int) (n : Nat) (hI : MI l.length off n n ld) (hG : GoodP l.length off n n ld) (q : Nat × Nat) (la : List Nat) (ao al : Int) (hJ : MI la.length ao n n al) (hGa : GoodP la.length ao n n al) (q' : Nat × Nat) (p : List Int) (hpl : p.length = n) (hpv : pivP p) (Rv : AV) (rl : List Int) (hRl : ∀ H, IL H Rv rl) (Cv : AV) (cl : List Int) (hCl : ∀ H, IL H Cv cl) (hrl : rl.length = n) (hcl : cl.length = n) (hn1 : 1 ≤ n) (hn : n ≤ 64) (hz : ∀ k, k < n → feq ((mel la ao al) k k) 0 = false) (X : AV) (xl : List Nat) (hX : ∀ H', FL (H ++ H') X xl) (hxl : xl.length = n) (hN : NN X) (B : AV) (bl : List Nat) (hB : FL H B bl) (hbl : bl.length = n) (most : Int) (M : Nat) (hM : max (min most 5) 0 = (M : Int)) (N : Nat) (hNM : N = M) (hN5 : N < 5) (hg : ∀ k, k < N → refG (mel l off ld) (mel la ao al) p rl cl xl bl n k = true) :
    CSpec Try.prog 18 [(.agg [.int .i64 (n : Int), .int .i64 (n : Int), .sl none (n * n) (fl (rmA (mel l off ld) n n)), .int .i64 (n : Int), .int .i64 (n : Int), .sl none (n * n) (fl (rmA (mel la ao al) n n)), aI q' p, Rv, Cv]), X, B, .int .i64 most] H (.tup [xR X (refY (mel l off ld) (mel la ao al) p rl cl xl bl n N) n N, .flt (berrF (mel l off ld) (refY (mel l off ld) (mel la ao al) p rl cl xl bl n N) bl n), .int .i64 ((N : Nat) : Int)]) H := by
  have hXn : slen X = some n := (by rw [(hX []).len, hxl])
  have hBn : slen B = some n := (by rw [hB.len, hbl])
  have hyl : ∀ k, (refY (mel l off ld) (mel la ao al) p rl cl xl bl n k).length = n := fun k => refY_len hxl k
  have hX0 : ∀ H', FL (H ++ H') X ((refY (mel l off ld) (mel la ao al) p rl cl xl bl n 0)) := hX
  refine .mk (fun args w => Try.call18 args w) (Spec.intro' (fn := Try.f18) Try.func18 rfl (by kernel_rfl) (by simp) false [61] (draw := drawX Try.prog ⟨false, _, [61]⟩) dOk ?_)
  simp only [argE, Nat.reduceAdd]
  repeat' (first
    | (refine gateE ?_; (first | refine b_c0 ?_ | refine b_nil ?_ | fail))
    | (refine gateO ?_; (first | refine m14 ?_ | (refine m17 ?_; first | refine m19 ?_ | refine m18 ?_) | (refine m07 ?_; (first | refine m15 ?_ | refine m16 ?_ | refine l_FL (xV_FL hyl hn1 hX0 k _) (by rw [hyl]; omega) ?_ | refine l_FL (FLn _ (rml (corF (mel l off ld) (mel la ao al) p rl cl bl n (refY (mel l off ld) (mel la ao al) p rl cl xl bl n k)) n) n (by simp)) (by simp; omega) ?_ | fail)) | refine b_lenA (by (conv => {lhs; whnf}); done) (by exact xV_len hXn) ?_ | refine b_iaN (by (conv => {lhs; whnf}); done) (by (conv => {lhs; whnf}); done) (by exact xV_len hXn) (by omega) ?_ | refine b_iaN (by (conv => {lhs; whnf}); done) (by (conv => {lhs; whnf}); done) (by exact rfl) (by omega) ?_ | refine b_grow (i := k) (N₀ := bkL (refY (mel l off ld) (mel la ao al) p rl cl xl bl n) k) (by (conv => {lhs; whnf}); done) (by (conv => {lhs; whnf}); done) (by exact rfl) (bkL_len hyl hn1 _) (by simp) (by omega) (by exact rfl) (by exact rfl) (l' := fl (rml (fun i => fadd ((refY (mel l off ld) (mel la ao al) p rl cl xl bl n k).getD i 0) ((corF (mel l off ld) (mel la ao al) p rl cl bl n (refY (mel l off ld) (mel la ao al) p rl cl xl bl n k)) i)) (t + 1))) (by exact ry_fl (by omega)) ?_ | (refine m00 ?_; (first | refine v_to ((k + 1 : Nat) : Int) (by omega) (by omega) ?_ | refine v_to ((t + 1 : Nat) : Int) (by omega) (by omega) ?_ | refine m47 ?_ | refine m48 ?_ | refine m49 ?_ | refine m50 ?_ | refine v_nT ?_ | refine v_nF ?_ | refine v_nP ?_ | refine v_k ?_ | refine m51 ?_ | fail)) | refine m42 ?_ | refine b_assignI ?_ | refine b_assignN ?_ | refine m08 ?_ | (refine m20 ?_; (first | refine v_to ((k + 1 : Nat) : Int) (by omega) (by omega) ?_ | refine v_to ((t + 1 : Nat) : Int) (by omega) (by omega) ?_ | refine m47 ?_ | refine m48 ?_ | refine m49 ?_ | refine m50 ?_ | refine v_nT ?_ | refine v_nF ?_ | refine v_nP ?_ | refine v_k ?_ | refine m51 ?_ | fail)) | refine b_callB ?_ | refine b_lenA (by (conv => {lhs; whnf}); done) (by first | rfl | assumption) ?_ | refine m23 ?_ | refine m01 ?_ | refine b_bslZ (by exact rfl) (by exact rfl) (by decide) ?_ | fail))
    | (refine gateD ?_; (first | refine m36 ?_ | refine d_nil ?_ | fail))
    | (refine gateC ?_; (first | refine k_lt ?_ | refine k_fz ?_ | refine k_lb (by (conv => {lhs; whnf}); done) ?_ | refine k_ms ?_ | refine k_bx (by exact rfl) (by exact rfl) ?_ | refine m34 ?_ | refine m35 ?_ | refine m33 ?_ | refine k_mn ?_ | refine m56 ?_ | refine k_mnF ?_ | refine k_mnL (by exact rfl) ?_ | fail))
    | (refine gateT ?_; (first | refine b_thn ?_ | refine b_thr ?_ | refine b_the ?_ | fail))
    | (refine gateX ?_; (first | refine b_seq ?_ | refine b_region ?_ | (refine m06 ?_; (first | refine c_T ?_ | refine c_F ?_ | refine c_P ?_ ?_ | refine c_B ?_ ?_ | fail)) | refine b_ret ?_ | refine b_skip ?_ | refine b_block ?_ | refine b_exit ?_ | refine b_draw (id := 13) [] [11] [(0, .lt), (1, .lt), (2, .lt), (3, .lt), (4, .ld true), (5, .lt), (6, .lt), (7, .lt), (8, .ld true), (9, .mn true), (10, .fz), (11, .mn false), (12, .lt)] (by kernel_rfl) ?_ | (refine b_loop [1, 2, 3, 4, 11, 12, 15, 16, 17] n (fun t => ⟨[(1, .val (xV X H.length n k)), (2, .val B), (3, .val (.int .i64 most)), (4, .loc 4 0), (11, .val (.flt (berrF (mel l off ld) (refY (mel l off ld) (mel la ao al) p rl cl xl bl n k) bl n))), (12, .val (.int .i64 ((k : Nat) : Int))), (15, .val (.sl none n (fl (rml (corF (mel l off ld) (mel la ao al) p rl cl bl n (refY (mel l off ld) (mel la ao al) p rl cl xl bl n k)) n)))), (16, .val (gV H.length k t)), (17, .val (.int .i64 ((t : Nat) : Int)))], [(4, [.int .i64 (n : Int), .int .i64 (n : Int), .sl none (n * n) (fl (rmA (mel l off ld) n n)), .int .i64 (n : Int), .int .i64 (n : Int), .sl none (n * n) (fl (rmA (mel la ao al) n n)), aI q' p, Rv, Cv])], H ++ (bkL (refY (mel l off ld) (mel la ao al) p rl cl xl bl n) k ++ gN (fl (rml (fun i => fadd ((refY (mel l off ld) (mel la ao al) p rl cl xl bl n k).getD i 0) ((corF (mel l off ld) (mel la ao al) p rl cl bl n (refY (mel l off ld) (mel la ao al) p rl cl xl bl n k)) i)) t)))⟩) (by rw [show gN (fl (rml (fun i => fadd ((refY (mel l off ld) (mel la ao al) p rl cl xl bl n k).getD i 0) ((corF (mel l off ld) (mel la ao al) p rl cl bl n (refY (mel l off ld) (mel la ao al) p rl cl xl bl n k)) i)) 0)) = [] from rfl, List.append_nil]; exact rfl) ?_ ?_ <;> (first | intro t ht K hK | intro K) <;> (try dsimp only at *)) | (refine b_loop [1, 2, 3, 4, 11, 12] N (fun k => ⟨[(1, .val (xV X H.length n k)), (2, .val B), (3, .val (.int .i64 most)), (4, .loc 4 0), (11, .val (.flt (berrF (mel l off ld) (refY (mel l off ld) (mel la ao al) p rl cl xl bl n k) bl n))), (12, .val (.int .i64 ((k : Nat) : Int)))], [(4, [.int .i64 (n : Int), .int .i64 (n : Int), .sl none (n * n) (fl (rmA (mel l off ld) n n)), .int .i64 (n : Int), .int .i64 (n : Int), .sl none (n * n) (fl (rmA (mel la ao al) n n)), aI q' p, Rv, Cv])], H ++ bkL (refY (mel l off ld) (mel la ao al) p rl cl xl bl n) k⟩) (by rw [show ∀ y, bkL y 0 = [] from fun _ => rfl]; exact rfl) ?_ ?_ <;> (first | intro k hk K hK | intro K) <;> (try dsimp only at *)) | fail))
    | refine m43 ?_
    | refine a_consI ?_
    | refine m21 ?_
    | refine a_nil ?_
    | (refine gateK ?_; (first | refine c_call (rberr_c _ (.sl none (n * n) (fl (rmA (mel l off ld) n n))) (mel l off ld) n (FLz _ _ _ (by simp)) hn1 hn X (refY (mel l off ld) (mel la ao al) p rl cl xl bl n 0) (hX0 _) (hyl _) B bl (FL.app hB _) hbl) (OldOk.app (by simp)) ?_ | refine c_call (rrest_c _ (.sl none (n * n) (fl (rmA (mel l off ld) n n))) (mel l off ld) n (FLz _ _ _ (by simp)) hn1 hn _ (refY (mel l off ld) (mel la ao al) p rl cl xl bl n k) (xV_FL0 hyl hn1 hX0 _) (hyl _) B bl (FL.app hB _) hbl) (OldOk.app (by simp)) ?_ | refine c_call (rsv_c _ x l off ld n hI hG q la ao al hJ hGa q' p hpl hpv Rv rl hRl Cv cl hCl hrl hcl hn1 hn hz _ (restL (mel l off ld) (refY (mel l off ld) (mel la ao al) p rl cl xl bl n k) bl n) (fun H9 => FLn H9 (restL (mel l off ld) (refY (mel l off ld) (mel la ao al) p rl cl xl bl n k) bl n) n (by simp)) (by simp)) (OldOk.app (by simp)) ?_ | refine c_call (rberr_c _ (.sl none (n * n) (fl (rmA (mel l off ld) n n))) (mel l off ld) n (FLz _ _ _ (by simp)) hn1 hn _ (refY (mel l off ld) (mel la ao al) p rl cl xl bl n (k + 1)) (by have h9 := xV_FL0 hyl hn1 hX0 (k + 1); exact h9) (hyl _) B bl (FL.app hB _) hbl) (OldOk.app (by simp)) ?_ | refine c_call (plus_c _ _ _) (OldOk.app (by simp)) ?_ | refine c_call (times_c _ _ _) (OldOk.app (by simp)) ?_ | fail))
    | refine m44 ?_
    | refine m40 ?_
    | (refine gk_nilN (by (conv => {lhs; simp only [List.nil_append, List.cons_append]}); done) ?_; first | refine ⟨by exact rfl, ?_⟩ | skip)
    | refine gk_nil ?_
    | (intro N' hN'; simp only [List.nil_append, List.cons_append] at hN'; subst hN')
    | (refine gateB ?_; (first | refine b_bln ?_ | refine b_blr ?_ | refine b_ble ?_ | refine m57 ?_ | fail))
    | (refine gateL ?_; (first | refine lp_n ?_ | refine lp_r ?_ | refine lp_e ?_ | fail))
    | (refine pr_k (by exact rfl) ?_; first | exact hK | fail | (exfalso; first | omega | (simp_all; done) | (simp_all; omega)))
    | (refine gateQ ?_; refine m05 ?_)
    | (refine gateR ?_; (first | refine m04 ?_ | refine m02 ?_ | refine m03 ?_ | refine rk_nil ?_ | fail))
    | intro _)
  all_goals first
    | (exfalso; omega)
    | (refine rv_fr rfl ?_; exact Fr.tup (Frs.cons (by first | exact xV_fr0 hyl hn1 hX0 _ | exact xV_fr hyl hn1 hX0 _ _) (Frs.cons (Fr.old (by simp [mx])) (Frs.cons (Fr.old (by simp [mx])) Frs.nil))))
    | (exfalso; (try rw [half_cn] at *); have h9 := hg k (by omega); unfold refG at h9; simp_all; done)
    | (exfalso; (try rw [half_cn] at *); unfold refG at hb; simp_all; done)

set_option maxHeartbeats 4000000 in
theorem rref_b (H : List (List AV)) (x : Nat × Nat) (l : List Nat) (off ld : Int) (n : Nat) (hI : MI l.length off n n ld) (hG : GoodP l.length off n n ld) (q : Nat × Nat) (la : List Nat) (ao al : Int) (hJ : MI la.length ao n n al) (hGa : GoodP la.length ao n n al) (q' : Nat × Nat) (p : List Int) (hpl : p.length = n) (hpv : pivP p) (Rv : AV) (rl : List Int) (hRl : ∀ H, IL H Rv rl) (Cv : AV) (cl : List Int) (hCl : ∀ H, IL H Cv cl) (hrl : rl.length = n) (hcl : cl.length = n) (hn1 : 1 ≤ n) (hn : n ≤ 64) (hz : ∀ k, k < n → feq ((mel la ao al) k k) 0 = false) (X : AV) (xl : List Nat) (hX : ∀ H', FL (H ++ H') X xl) (hxl : xl.length = n) (hN : NN X) (B : AV) (bl : List Nat) (hB : FL H B bl) (hbl : bl.length = n) (most : Int) (M : Nat) (hM : max (min most 5) 0 = (M : Int)) (N : Nat) (hNM : N < M) (hg : ∀ k, k < N → refG (mel l off ld) (mel la ao al) p rl cl xl bl n k = true) (hb : ¬ refG (mel l off ld) (mel la ao al) p rl cl xl bl n N = true) :
    CSpec Try.prog 18 [(.agg [.int .i64 (n : Int), .int .i64 (n : Int), .sl none (n * n) (fl (rmA (mel l off ld) n n)), .int .i64 (n : Int), .int .i64 (n : Int), .sl none (n * n) (fl (rmA (mel la ao al) n n)), aI q' p, Rv, Cv]), X, B, .int .i64 most] H (.tup [xR X (refY (mel l off ld) (mel la ao al) p rl cl xl bl n N) n N, .flt (berrF (mel l off ld) (refY (mel l off ld) (mel la ao al) p rl cl xl bl n N) bl n), .int .i64 ((N : Nat) : Int)]) H := by
  have hXn : slen X = some n := (by rw [(hX []).len, hxl])
  have hBn : slen B = some n := (by rw [hB.len, hbl])
  have hyl : ∀ k, (refY (mel l off ld) (mel la ao al) p rl cl xl bl n k).length = n := fun k => refY_len hxl k
  have hX0 : ∀ H', FL (H ++ H') X ((refY (mel l off ld) (mel la ao al) p rl cl xl bl n 0)) := hX
  refine .mk (fun args w => Try.call18 args w) (Spec.intro' (fn := Try.f18) Try.func18 rfl (by kernel_rfl) (by simp) false [61] (draw := drawX Try.prog ⟨false, _, [61]⟩) dOk ?_)
  simp only [argE, Nat.reduceAdd]
  repeat' (first
    | (refine gateE ?_; (first | refine b_c0 ?_ | refine b_nil ?_ | fail))
    | (refine gateO ?_; (first | refine m14 ?_ | (refine m17 ?_; first | refine m19 ?_ | refine m18 ?_) | (refine m07 ?_; (first | refine m15 ?_ | refine m16 ?_ | refine l_FL (xV_FL hyl hn1 hX0 k _) (by rw [hyl]; omega) ?_ | refine l_FL (FLn _ (rml (corF (mel l off ld) (mel la ao al) p rl cl bl n (refY (mel l off ld) (mel la ao al) p rl cl xl bl n k)) n) n (by simp)) (by simp; omega) ?_ | refine l_FL (xV_FL hyl hn1 hX0 N _) (by rw [hyl]; omega) ?_ | refine l_FL (FLn _ (rml (corF (mel l off ld) (mel la ao al) p rl cl bl n (refY (mel l off ld) (mel la ao al) p rl cl xl bl n N)) n) n (by simp)) (by simp; omega) ?_ | fail)) | refine b_lenA (by (conv => {lhs; whnf}); done) (by exact xV_len hXn) ?_ | refine b_iaN (by (conv => {lhs; whnf}); done) (by (conv => {lhs; whnf}); done) (by exact xV_len hXn) (by omega) ?_ | refine b_iaN (by (conv => {lhs; whnf}); done) (by (conv => {lhs; whnf}); done) (by exact rfl) (by omega) ?_ | refine b_grow (i := k) (N₀ := bkL (refY (mel l off ld) (mel la ao al) p rl cl xl bl n) k) (by (conv => {lhs; whnf}); done) (by (conv => {lhs; whnf}); done) (by exact rfl) (bkL_len hyl hn1 _) (by simp) (by omega) (by exact rfl) (by exact rfl) (l' := fl (rml (fun i => fadd ((refY (mel l off ld) (mel la ao al) p rl cl xl bl n k).getD i 0) ((corF (mel l off ld) (mel la ao al) p rl cl bl n (refY (mel l off ld) (mel la ao al) p rl cl xl bl n k)) i)) (t + 1))) (by exact ry_fl (by omega)) ?_ | refine b_grow (i := N) (N₀ := bkL (refY (mel l off ld) (mel la ao al) p rl cl xl bl n) N) (by (conv => {lhs; whnf}); done) (by (conv => {lhs; whnf}); done) (by exact rfl) (bkL_len hyl hn1 _) (by simp) (by omega) (by exact rfl) (by exact rfl) (l' := fl (rml (fun i => fadd ((refY (mel l off ld) (mel la ao al) p rl cl xl bl n N).getD i 0) ((corF (mel l off ld) (mel la ao al) p rl cl bl n (refY (mel l off ld) (mel la ao al) p rl cl xl bl n N)) i)) (t + 1))) (by exact ry_fl (by omega)) ?_ | (refine m00 ?_; (first | refine v_to ((k + 1 : Nat) : Int) (by omega) (by omega) ?_ | refine v_to ((t + 1 : Nat) : Int) (by omega) (by omega) ?_ | refine m47 ?_ | refine m48 ?_ | refine m49 ?_ | refine m50 ?_ | refine v_nT ?_ | refine v_nF ?_ | refine v_nP ?_ | refine v_k ?_ | refine m51 ?_ | fail)) | refine m42 ?_ | refine b_assignI ?_ | refine b_assignN ?_ | refine m08 ?_ | (refine m20 ?_; (first | refine v_to ((k + 1 : Nat) : Int) (by omega) (by omega) ?_ | refine v_to ((t + 1 : Nat) : Int) (by omega) (by omega) ?_ | refine m47 ?_ | refine m48 ?_ | refine m49 ?_ | refine m50 ?_ | refine v_nT ?_ | refine v_nF ?_ | refine v_nP ?_ | refine v_k ?_ | refine m51 ?_ | fail)) | refine b_callB ?_ | refine b_lenA (by (conv => {lhs; whnf}); done) (by first | rfl | assumption) ?_ | refine m23 ?_ | refine m01 ?_ | refine b_bslZ (by exact rfl) (by exact rfl) (by decide) ?_ | fail))
    | (refine gateD ?_; (first | refine m36 ?_ | refine d_nil ?_ | fail))
    | (refine gateC ?_; (first | refine k_lt ?_ | refine k_fz ?_ | refine k_lb (by (conv => {lhs; whnf}); done) ?_ | refine k_ms ?_ | refine k_bx (by exact rfl) (by exact rfl) ?_ | refine m34 ?_ | refine m35 ?_ | refine m33 ?_ | refine k_mn ?_ | refine m56 ?_ | refine k_mnF ?_ | refine k_mnL (by exact rfl) ?_ | fail))
    | (refine gateT ?_; (first | refine b_thn ?_ | refine b_thr ?_ | refine b_the ?_ | fail))
    | (refine gateX ?_; (first | refine b_seq ?_ | refine b_region ?_ | (refine m06 ?_; (first | refine c_T ?_ | refine c_F ?_ | refine c_P ?_ ?_ | refine c_B ?_ ?_ | fail)) | refine b_ret ?_ | refine b_skip ?_ | refine b_block ?_ | refine b_exit ?_ | refine b_draw (id := 13) [] [11] [(0, .lt), (1, .lt), (2, .lt), (3, .lt), (4, .ld true), (5, .lt), (6, .lt), (7, .lt), (8, .ld true), (9, .mn true), (10, .fz), (11, .mn false), (12, .lt)] (by kernel_rfl) ?_ | (refine b_loop [1, 2, 3, 4, 11, 12, 15, 16, 17] n (fun t => ⟨[(1, .val (xV X H.length n k)), (2, .val B), (3, .val (.int .i64 most)), (4, .loc 4 0), (11, .val (.flt (berrF (mel l off ld) (refY (mel l off ld) (mel la ao al) p rl cl xl bl n k) bl n))), (12, .val (.int .i64 ((k : Nat) : Int))), (15, .val (.sl none n (fl (rml (corF (mel l off ld) (mel la ao al) p rl cl bl n (refY (mel l off ld) (mel la ao al) p rl cl xl bl n k)) n)))), (16, .val (gV H.length k t)), (17, .val (.int .i64 ((t : Nat) : Int)))], [(4, [.int .i64 (n : Int), .int .i64 (n : Int), .sl none (n * n) (fl (rmA (mel l off ld) n n)), .int .i64 (n : Int), .int .i64 (n : Int), .sl none (n * n) (fl (rmA (mel la ao al) n n)), aI q' p, Rv, Cv])], H ++ (bkL (refY (mel l off ld) (mel la ao al) p rl cl xl bl n) k ++ gN (fl (rml (fun i => fadd ((refY (mel l off ld) (mel la ao al) p rl cl xl bl n k).getD i 0) ((corF (mel l off ld) (mel la ao al) p rl cl bl n (refY (mel l off ld) (mel la ao al) p rl cl xl bl n k)) i)) t)))⟩) (by rw [show gN (fl (rml (fun i => fadd ((refY (mel l off ld) (mel la ao al) p rl cl xl bl n k).getD i 0) ((corF (mel l off ld) (mel la ao al) p rl cl bl n (refY (mel l off ld) (mel la ao al) p rl cl xl bl n k)) i)) 0)) = [] from rfl, List.append_nil]; exact rfl) ?_ ?_ <;> (first | intro t ht K hK | intro K) <;> (try dsimp only at *)) | (refine b_loop [1, 2, 3, 4, 11, 12, 15, 16, 17] n (fun t => ⟨[(1, .val (xV X H.length n N)), (2, .val B), (3, .val (.int .i64 most)), (4, .loc 4 0), (11, .val (.flt (berrF (mel l off ld) (refY (mel l off ld) (mel la ao al) p rl cl xl bl n N) bl n))), (12, .val (.int .i64 ((N : Nat) : Int))), (15, .val (.sl none n (fl (rml (corF (mel l off ld) (mel la ao al) p rl cl bl n (refY (mel l off ld) (mel la ao al) p rl cl xl bl n N)) n)))), (16, .val (gV H.length N t)), (17, .val (.int .i64 ((t : Nat) : Int)))], [(4, [.int .i64 (n : Int), .int .i64 (n : Int), .sl none (n * n) (fl (rmA (mel l off ld) n n)), .int .i64 (n : Int), .int .i64 (n : Int), .sl none (n * n) (fl (rmA (mel la ao al) n n)), aI q' p, Rv, Cv])], H ++ (bkL (refY (mel l off ld) (mel la ao al) p rl cl xl bl n) N ++ gN (fl (rml (fun i => fadd ((refY (mel l off ld) (mel la ao al) p rl cl xl bl n N).getD i 0) ((corF (mel l off ld) (mel la ao al) p rl cl bl n (refY (mel l off ld) (mel la ao al) p rl cl xl bl n N)) i)) t)))⟩) (by rw [show gN (fl (rml (fun i => fadd ((refY (mel l off ld) (mel la ao al) p rl cl xl bl n N).getD i 0) ((corF (mel l off ld) (mel la ao al) p rl cl bl n (refY (mel l off ld) (mel la ao al) p rl cl xl bl n N)) i)) 0)) = [] from rfl, List.append_nil]; exact rfl) ?_ ?_ <;> (first | intro t ht K hK | intro K) <;> (try dsimp only at *)) | (refine b_loop [1, 2, 3, 4, 11, 12] N (fun k => ⟨[(1, .val (xV X H.length n k)), (2, .val B), (3, .val (.int .i64 most)), (4, .loc 4 0), (11, .val (.flt (berrF (mel l off ld) (refY (mel l off ld) (mel la ao al) p rl cl xl bl n k) bl n))), (12, .val (.int .i64 ((k : Nat) : Int)))], [(4, [.int .i64 (n : Int), .int .i64 (n : Int), .sl none (n * n) (fl (rmA (mel l off ld) n n)), .int .i64 (n : Int), .int .i64 (n : Int), .sl none (n * n) (fl (rmA (mel la ao al) n n)), aI q' p, Rv, Cv])], H ++ bkL (refY (mel l off ld) (mel la ao al) p rl cl xl bl n) k⟩) (by rw [show ∀ y, bkL y 0 = [] from fun _ => rfl]; exact rfl) ?_ ?_ <;> (first | intro k hk K hK | intro K) <;> (try dsimp only at *)) | fail))
    | refine m43 ?_
    | refine a_consI ?_
    | refine m21 ?_
    | refine a_nil ?_
    | (refine gateK ?_; (first | refine c_call (rberr_c _ (.sl none (n * n) (fl (rmA (mel l off ld) n n))) (mel l off ld) n (FLz _ _ _ (by simp)) hn1 hn X (refY (mel l off ld) (mel la ao al) p rl cl xl bl n 0) (hX0 _) (hyl _) B bl (FL.app hB _) hbl) (OldOk.app (by simp)) ?_ | refine c_call (rrest_c _ (.sl none (n * n) (fl (rmA (mel l off ld) n n))) (mel l off ld) n (FLz _ _ _ (by simp)) hn1 hn _ (refY (mel l off ld) (mel la ao al) p rl cl xl bl n k) (xV_FL0 hyl hn1 hX0 _) (hyl _) B bl (FL.app hB _) hbl) (OldOk.app (by simp)) ?_ | refine c_call (rsv_c _ x l off ld n hI hG q la ao al hJ hGa q' p hpl hpv Rv rl hRl Cv cl hCl hrl hcl hn1 hn hz _ (restL (mel l off ld) (refY (mel l off ld) (mel la ao al) p rl cl xl bl n k) bl n) (fun H9 => FLn H9 (restL (mel l off ld) (refY (mel l off ld) (mel la ao al) p rl cl xl bl n k) bl n) n (by simp)) (by simp)) (OldOk.app (by simp)) ?_ | refine c_call (rberr_c _ (.sl none (n * n) (fl (rmA (mel l off ld) n n))) (mel l off ld) n (FLz _ _ _ (by simp)) hn1 hn _ (refY (mel l off ld) (mel la ao al) p rl cl xl bl n (k + 1)) (by have h9 := xV_FL0 hyl hn1 hX0 (k + 1); exact h9) (hyl _) B bl (FL.app hB _) hbl) (OldOk.app (by simp)) ?_ | refine c_call (rrest_c _ (.sl none (n * n) (fl (rmA (mel l off ld) n n))) (mel l off ld) n (FLz _ _ _ (by simp)) hn1 hn _ (refY (mel l off ld) (mel la ao al) p rl cl xl bl n N) (xV_FL0 hyl hn1 hX0 _) (hyl _) B bl (FL.app hB _) hbl) (OldOk.app (by simp)) ?_ | refine c_call (rsv_c _ x l off ld n hI hG q la ao al hJ hGa q' p hpl hpv Rv rl hRl Cv cl hCl hrl hcl hn1 hn hz _ (restL (mel l off ld) (refY (mel l off ld) (mel la ao al) p rl cl xl bl n N) bl n) (fun H9 => FLn H9 (restL (mel l off ld) (refY (mel l off ld) (mel la ao al) p rl cl xl bl n N) bl n) n (by simp)) (by simp)) (OldOk.app (by simp)) ?_ | refine c_call (rberr_c _ (.sl none (n * n) (fl (rmA (mel l off ld) n n))) (mel l off ld) n (FLz _ _ _ (by simp)) hn1 hn _ (refY (mel l off ld) (mel la ao al) p rl cl xl bl n (N + 1)) (by have h9 := xV_FL0 hyl hn1 hX0 (N + 1); exact h9) (hyl _) B bl (FL.app hB _) hbl) (OldOk.app (by simp)) ?_ | refine c_call (plus_c _ _ _) (OldOk.app (by simp)) ?_ | refine c_call (times_c _ _ _) (OldOk.app (by simp)) ?_ | fail))
    | refine m44 ?_
    | refine m40 ?_
    | (refine gk_nilN (by (conv => {lhs; simp only [List.nil_append, List.cons_append]}); done) ?_; first | refine ⟨by exact rfl, ?_⟩ | skip)
    | refine gk_nil ?_
    | (intro N' hN'; simp only [List.nil_append, List.cons_append] at hN'; subst hN')
    | (refine gateB ?_; (first | refine b_bln ?_ | refine b_blr ?_ | refine b_ble ?_ | refine m57 ?_ | fail))
    | (refine gateL ?_; (first | refine lp_n ?_ | refine lp_r ?_ | refine lp_e ?_ | fail))
    | (refine pr_k (by exact rfl) ?_; first | exact hK | fail | (exfalso; first | omega | (simp_all; done) | (simp_all; omega)))
    | (refine gateQ ?_; refine m05 ?_)
    | (refine gateR ?_; (first | refine m04 ?_ | refine m02 ?_ | refine m03 ?_ | refine rk_nil ?_ | fail))
    | intro _)
  all_goals first
    | (exfalso; omega)
    | (refine rv_fr rfl ?_; exact Fr.tup (Frs.cons (by first | exact xV_fr0 hyl hn1 hX0 _ | exact xV_fr hyl hn1 hX0 _ _) (Frs.cons (Fr.old (by simp [mx])) (Frs.cons (Fr.old (by simp [mx])) Frs.nil))))
    | (exfalso; (try rw [half_cn] at *); have h9 := hg k (by omega); unfold refG at h9; simp_all; done)
    | (exfalso; (try rw [half_cn] at *); unfold refG at hb; simp_all; done)


end Go.Sx

set_option linter.unusedVariables false
set_option linter.unusedSimpArgs false
set_option maxRecDepth 20000
namespace Go.Sx
open Go.Proofs

theorem first_not (P : Nat → Bool) (n : Nat) : (∀ k, k < n → P k = true) ∨ ∃ z, z < n ∧ (∀ k, k < z → P k = true) ∧ ¬ P z = true := by
  induction n with
  | zero => exact Or.inl fun k hk => absurd hk (by omega)
  | succ n ih =>
    rcases ih with h | ⟨z, h1, h2, h3⟩
    · by_cases h9 : P n = true
      · refine Or.inl fun k hk => ?_
        rcases Nat.lt_or_ge k n with h8 | h8
        · exact h k h8
        · have : k = n := by omega
          subst this; exact h9
      · exact Or.inr ⟨n, by omega, h, h9⟩
    · exact Or.inr ⟨z, by omega, h2, h3⟩
attribute [local irreducible] Ex exOps exD opX opE thenX blkX RetQ Spec CSpec Fr condK guardK guardD ckK valK pickK loadK faK callK argK gK fK rK RetV lpX prK
set_option maxHeartbeats 4000000 in
theorem ref_e (H : List (List AV)) (c0 c1 c2 c3 c4 c5 c6 c7 c8 c9 c10 Rv Cv : AV) (hRc : AV.cells Rv = some [Rv]) (hCc : AV.cells Cv = some [Cv]) (X : AV) (xn : Nat) (hXl : slen X = some xn) (Bv : AV) (bn : Nat) (hBl : slen Bv = some bn) (most : Int) (e : Int) (he : e ≠ 0) (hck : ∀ N, CSpec Try.prog 13 [.agg [c0, c1, c2, c3, c4, c5, c6, c7, c8, c9, c10, Rv, Cv]] (H ++ N) (.int .i64 e) (H ++ N)) :
    CSpec Try.prog 17 [.agg [c0, c1, c2, c3, c4, c5, c6, c7, c8, c9, c10, Rv, Cv], X, Bv, .int .i64 most] H (.tup [.slnil, .flt 0, .int .i64 0, .int .i64 e]) H := by
  refine .mk (fun args w => Try.call17 args w) (Spec.intro' (fn := Try.f17) Try.func17 rfl (by kernel_rfl) (by simp) false [] (draw := drawX Try.prog ⟨false, _, []⟩) dOk ?_)
  simp only [argE, Nat.reduceAdd]
  repeat' (first
    | (refine gateE ?_; (first | refine b_c0 ?_ | refine b_nil ?_ | refine m13 ?_ | refine m12 ?_ | refine m11 ?_ | (refine m10 ?_; (first | refine g_TT ?_ | refine g_FF ?_ | refine g_TF ?_ | refine g_FT ?_ | refine g_PT ?_ ?_ | refine g_PF ?_ ?_ | refine g_BT ?_ ?_ | refine g_BF ?_ ?_ | fail)) | (refine m09 ?_; (first | refine g_TT ?_ | refine g_FF ?_ | refine g_TF ?_ | refine g_FT ?_ | refine g_PT ?_ ?_ | refine g_PF ?_ ?_ | refine g_BT ?_ ?_ | refine g_BF ?_ ?_ | fail)) | refine m38 ?_ | fail))
    | (refine gateO ?_; (first | refine m41 ?_ | refine b_moveI ?_ | refine m14 ?_ | (refine m17 ?_; first | refine m19 ?_ | refine m18 ?_) | (refine m07 ?_; (first | refine m15 ?_ | refine m16 ?_ | fail)) | refine b_lenA (by (conv => {lhs; whnf}); done) (by exact hXl) ?_ | refine b_lenA (by (conv => {lhs; whnf}); done) (by exact hBl) ?_ | (refine m45 ?_; (first | refine v_bbT (by exact rfl) ?_ | refine v_k ?_ | fail)) | (refine m00 ?_; (first | refine m52 ?_ | refine m53 ?_ | refine v_eP ?_ | refine m54 ?_ | refine m55 ?_ | refine v_neP ?_ | refine m47 ?_ | refine m48 ?_ | refine m49 ?_ | refine m50 ?_ | refine v_nT ?_ | refine v_nF ?_ | refine v_nP ?_ | refine v_k ?_ | refine m51 ?_ | fail)) | (refine m22 ?_; (first | refine m26 ?_ | refine m27 ?_ | fail)) | refine m42 ?_ | refine b_assignI ?_ | refine b_assignN ?_ | refine m08 ?_ | (refine m20 ?_; (first | refine m52 ?_ | refine m53 ?_ | refine v_eP ?_ | refine m54 ?_ | refine m55 ?_ | refine v_neP ?_ | refine m47 ?_ | refine m48 ?_ | refine m49 ?_ | refine m50 ?_ | refine v_nT ?_ | refine v_nF ?_ | refine v_nP ?_ | refine v_k ?_ | refine m51 ?_ | fail)) | refine b_callB ?_ | refine m39 ?_ | refine b_lenA (by (conv => {lhs; whnf}); done) (by first | rfl | assumption) ?_ | refine m23 ?_ | refine m25 ?_ | refine m01 ?_ | refine b_max2 (by first | (conv => {lhs; whnf}; done) | exact (by exact rfl) | fail) (by first | (conv => {lhs; whnf}; done) | exact (by exact rfl) | fail) (by first | assumption | exact rfl) ?_ | refine b_min2 (by first | (conv => {lhs; whnf}; done) | exact (by exact rfl) | fail) (by first | (conv => {lhs; whnf}; done) | exact (by exact rfl) | fail) (by first | assumption | exact rfl) ?_ | fail))
    | (refine gateD ?_; (first | refine m36 ?_ | refine d_nil ?_ | refine m32 ?_ | refine m31 ?_ | refine m30 ?_ | (refine m28 ?_; (first | refine dg_TT ?_ | refine dg_FF ?_ | refine dg_TF ?_ | refine dg_FT ?_ | refine dg_PT ?_ ?_ | refine dg_PF ?_ ?_ | refine dg_BT ?_ ?_ | refine dg_BF ?_ ?_ | fail)) | (refine m29 ?_; (first | refine dg_TT ?_ | refine dg_FF ?_ | refine dg_TF ?_ | refine dg_FT ?_ | refine dg_PT ?_ ?_ | refine dg_PF ?_ ?_ | refine dg_BT ?_ ?_ | refine dg_BF ?_ ?_ | fail)) | refine m37 ?_ | fail))
    | (refine gateC ?_; (first | refine k_lt ?_ | refine k_fz ?_ | refine k_lb (by (conv => {lhs; whnf}); done) ?_ | refine k_ms ?_ | refine k_bx (by exact rfl) (by exact rfl) ?_ | refine m34 ?_ | refine m35 ?_ | refine m33 ?_ | refine k_mn ?_ | refine m56 ?_ | refine k_mnF ?_ | refine k_mnL (by exact rfl) ?_ | fail))
    | (refine gateT ?_; (first | refine b_thn ?_ | refine b_thr ?_ | refine b_the ?_ | fail))
    | (refine gateX ?_; (first | refine b_seq ?_ | refine b_region ?_ | (refine m06 ?_; (first | refine c_T ?_ | refine c_F ?_ | refine c_P ?_ ?_ | refine c_B ?_ ?_ | fail)) | refine b_ret ?_ | refine b_skip ?_ | refine b_block ?_ | refine b_exit ?_ | refine b_draw (id := 16) [] [12] [(0, .lt), (1, .lt), (2, .lt), (3, .lt), (4, .lt), (5, .ld true), (6, .lt), (7, .lt), (8, .lt), (9, .ld true), (10, .lt), (11, .lt), (12, .mn false)] (by kernel_rfl) ?_ | fail))
    | refine m21 ?_
    | refine a_nil ?_
    | (refine gateK ?_; (first | refine c_call (hck _) (OldOk.app (by simp)) ?_ | fail))
    | refine m44 ?_
    | refine m40 ?_
    | (refine gk_nilN (by (conv => {lhs; simp only [List.nil_append, List.cons_append]}); done) ?_; first | refine ⟨by exact rfl, ?_⟩ | skip)
    | refine gk_nil ?_
    | (intro N' hN'; simp only [List.nil_append, List.cons_append] at hN'; subst hN')
    | (refine gateB ?_; (first | refine b_bln ?_ | refine b_blr ?_ | refine b_ble ?_ | refine m57 ?_ | fail))
    | (refine gateL ?_; (first | refine lp_n ?_ | refine lp_r ?_ | refine lp_e ?_ | fail))
    | (refine pr_k (by exact rfl) ?_; first | exact hK | (exfalso; first | omega | (simp_all; done) | (simp_all; omega)))
    | (refine gateQ ?_; refine m05 ?_)
    | (refine gateR ?_; (first | refine m04 ?_ | refine m02 ?_ | refine m03 ?_ | refine rk_nil ?_ | fail))
    | intro _)
  all_goals first
    | (exfalso; contradiction)
    | (exfalso; omega)
    | (exfalso; simp_all; done)
    | (refine rv_old rfl (by simp [mx, mxL, resOne, aOf, aOf1]) ?_; exact rfl)

set_option maxHeartbeats 4000000 in
theorem ref_x (H : List (List AV)) (x : Nat × Nat) (l : List Nat) (off ld : Int) (n : Nat) (hI : MI l.length off n n ld) (hG : GoodP l.length off n n ld) (q : Nat × Nat) (la : List Nat) (ao al : Int) (hJ : MI la.length ao n n al) (hGa : GoodP la.length ao n n al) (q' : Nat × Nat) (p : List Int) (hpl : p.length = n) (hpv : pivP p) (Rv : AV) (rl : List Int) (hRl : ∀ H, IL H Rv rl) (Cv : AV) (cl : List Int) (hCl : ∀ H, IL H Cv cl) (hrl : rl.length = n) (hcl : cl.length = n) (hn1 : 1 ≤ n) (hn : n ≤ 64) (hz : ∀ k, k < n → feq ((mel la ao al) k k) 0 = false) (X : AV) (xn : Nat) (hXl : slen X = some xn) (Bv : AV) (bn : Nat) (hBl : slen Bv = some bn) (most : Int) (hxn : xn ≠ n) :
    CSpec Try.prog 17 [(.agg [aD x l, .int .i64 off, .int .i64 (n : Int), .int .i64 (n : Int), .int .i64 ld, aD q la, .int .i64 ao, .int .i64 (n : Int), .int .i64 (n : Int), .int .i64 al, aI q' p, Rv, Cv]), X, Bv, .int .i64 most] H (.tup [.slnil, .flt 0, .int .i64 0, .int .i64 3]) H := by
  refine .mk (fun args w => Try.call17 args w) (Spec.intro' (fn := Try.f17) Try.func17 rfl (by kernel_rfl) (by simp) false [] (draw := drawX Try.prog ⟨false, _, []⟩) dOk ?_)
  simp only [argE, Nat.reduceAdd]
  repeat' (first
    | (refine gateE ?_; (first | refine b_c0 ?_ | refine b_nil ?_ | refine m13 ?_ | refine m12 ?_ | refine m11 ?_ | (refine m10 ?_; (first | refine g_TT ?_ | refine g_FF ?_ | refine g_TF ?_ | refine g_FT ?_ | refine g_PT ?_ ?_ | refine g_PF ?_ ?_ | refine g_BT ?_ ?_ | refine g_BF ?_ ?_ | fail)) | (refine m09 ?_; (first | refine g_TT ?_ | refine g_FF ?_ | refine g_TF ?_ | refine g_FT ?_ | refine g_PT ?_ ?_ | refine g_PF ?_ ?_ | refine g_BT ?_ ?_ | refine g_BF ?_ ?_ | fail)) | refine m38 ?_ | fail))
    | (refine gateO ?_; (first | refine m41 ?_ | refine b_moveI ?_ | refine m14 ?_ | (refine m17 ?_; first | refine m19 ?_ | refine m18 ?_) | (refine m07 ?_; (first | refine m15 ?_ | refine m16 ?_ | fail)) | refine b_lenA (by (conv => {lhs; whnf}); done) (by exact hXl) ?_ | refine b_lenA (by (conv => {lhs; whnf}); done) (by exact hBl) ?_ | (refine m45 ?_; (first | refine v_bbT (by exact rfl) ?_ | refine v_k ?_ | fail)) | (refine m00 ?_; (first | refine m52 ?_ | refine m53 ?_ | refine v_eP ?_ | refine m54 ?_ | refine m55 ?_ | refine v_neP ?_ | refine m47 ?_ | refine m48 ?_ | refine m49 ?_ | refine m50 ?_ | refine v_nT ?_ | refine v_nF ?_ | refine v_nP ?_ | refine v_k ?_ | refine m51 ?_ | fail)) | (refine m22 ?_; (first | refine m26 ?_ | refine m27 ?_ | fail)) | refine m42 ?_ | refine b_assignI ?_ | refine b_assignN ?_ | refine m08 ?_ | (refine m20 ?_; (first | refine m52 ?_ | refine m53 ?_ | refine v_eP ?_ | refine m54 ?_ | refine m55 ?_ | refine v_neP ?_ | refine m47 ?_ | refine m48 ?_ | refine m49 ?_ | refine m50 ?_ | refine v_nT ?_ | refine v_nF ?_ | refine v_nP ?_ | refine v_k ?_ | refine m51 ?_ | fail)) | refine b_callB ?_ | refine m39 ?_ | refine b_lenA (by (conv => {lhs; whnf}); done) (by first | rfl | assumption) ?_ | refine m23 ?_ | refine m25 ?_ | refine m01 ?_ | refine b_max2 (by first | (conv => {lhs; whnf}; done) | exact (by exact rfl) | fail) (by first | (conv => {lhs; whnf}; done) | exact (by exact rfl) | fail) (by first | assumption | exact rfl) ?_ | refine b_min2 (by first | (conv => {lhs; whnf}; done) | exact (by exact rfl) | fail) (by first | (conv => {lhs; whnf}; done) | exact (by exact rfl) | fail) (by first | assumption | exact rfl) ?_ | fail))
    | (refine gateD ?_; (first | refine m36 ?_ | refine d_nil ?_ | refine m32 ?_ | refine m31 ?_ | refine m30 ?_ | (refine m28 ?_; (first | refine dg_TT ?_ | refine dg_FF ?_ | refine dg_TF ?_ | refine dg_FT ?_ | refine dg_PT ?_ ?_ | refine dg_PF ?_ ?_ | refine dg_BT ?_ ?_ | refine dg_BF ?_ ?_ | fail)) | (refine m29 ?_; (first | refine dg_TT ?_ | refine dg_FF ?_ | refine dg_TF ?_ | refine dg_FT ?_ | refine dg_PT ?_ ?_ | refine dg_PF ?_ ?_ | refine dg_BT ?_ ?_ | refine dg_BF ?_ ?_ | fail)) | refine m37 ?_ | fail))
    | (refine gateC ?_; (first | refine k_lt ?_ | refine k_fz ?_ | refine k_lb (by (conv => {lhs; whnf}); done) ?_ | refine k_ms ?_ | refine k_bx (by exact rfl) (by exact rfl) ?_ | refine m34 ?_ | refine m35 ?_ | refine m33 ?_ | refine k_mn ?_ | refine m56 ?_ | refine k_mnF ?_ | refine k_mnL (by exact rfl) ?_ | fail))
    | (refine gateT ?_; (first | refine b_thn ?_ | refine b_thr ?_ | refine b_the ?_ | fail))
    | (refine gateX ?_; (first | refine b_seq ?_ | refine b_region ?_ | (refine m06 ?_; (first | refine c_T ?_ | refine c_F ?_ | refine c_P ?_ ?_ | refine c_B ?_ ?_ | fail)) | refine b_ret ?_ | refine b_skip ?_ | refine b_block ?_ | refine b_exit ?_ | refine b_draw (id := 16) [] [12] [(0, .lt), (1, .lt), (2, .lt), (3, .lt), (4, .lt), (5, .ld true), (6, .lt), (7, .lt), (8, .lt), (9, .ld true), (10, .lt), (11, .lt), (12, .mn false)] (by kernel_rfl) ?_ | fail))
    | refine m21 ?_
    | refine a_nil ?_
    | (refine gateK ?_; (first | refine c_call (check_0 _ x l off ld n hI hG q la ao al hJ hGa q' p hpl hpv Rv rl hRl Cv cl hCl hrl hcl hn1 hn hz) (OldOk.app (by simp)) ?_ | fail))
    | refine m44 ?_
    | refine m40 ?_
    | (refine gk_nilN (by (conv => {lhs; simp only [List.nil_append, List.cons_append]}); done) ?_; first | refine ⟨by exact rfl, ?_⟩ | skip)
    | refine gk_nil ?_
    | (intro N' hN'; simp only [List.nil_append, List.cons_append] at hN'; subst hN')
    | (refine gateB ?_; (first | refine b_bln ?_ | refine b_blr ?_ | refine b_ble ?_ | refine m57 ?_ | fail))
    | (refine gateL ?_; (first | refine lp_n ?_ | refine lp_r ?_ | refine lp_e ?_ | fail))
    | (refine pr_k (by exact rfl) ?_; first | exact hK | (exfalso; first | omega | (simp_all; done) | (simp_all; omega)))
    | (refine gateQ ?_; refine m05 ?_)
    | (refine gateR ?_; (first | refine m04 ?_ | refine m02 ?_ | refine m03 ?_ | refine rk_nil ?_ | fail))
    | intro _)
  all_goals first
    | (exfalso; contradiction)
    | (exfalso; omega)
    | (exfalso; simp_all; done)
    | (refine rv_old rfl (by simp [mx, mxL, resOne, aOf, aOf1]) ?_; exact rfl)

set_option maxHeartbeats 4000000 in
theorem ref_y (H : List (List AV)) (x : Nat × Nat) (l : List Nat) (off ld : Int) (n : Nat) (hI : MI l.length off n n ld) (hG : GoodP l.length off n n ld) (q : Nat × Nat) (la : List Nat) (ao al : Int) (hJ : MI la.length ao n n al) (hGa : GoodP la.length ao n n al) (q' : Nat × Nat) (p : List Int) (hpl : p.length = n) (hpv : pivP p) (Rv : AV) (rl : List Int) (hRl : ∀ H, IL H Rv rl) (Cv : AV) (cl : List Int) (hCl : ∀ H, IL H Cv cl) (hrl : rl.length = n) (hcl : cl.length = n) (hn1 : 1 ≤ n) (hn : n ≤ 64) (hz : ∀ k, k < n → feq ((mel la ao al) k k) 0 = false) (X : AV) (xn : Nat) (hXl : slen X = some xn) (Bv : AV) (bn : Nat) (hBl : slen Bv = some bn) (most : Int) (hbn : bn ≠ n) :
    CSpec Try.prog 17 [(.agg [aD x l, .int .i64 off, .int .i64 (n : Int), .int .i64 (n : Int), .int .i64 ld, aD q la, .int .i64 ao, .int .i64 (n : Int), .int .i64 (n : Int), .int .i64 al, aI q' p, Rv, Cv]), X, Bv, .int .i64 most] H (.tup [.slnil, .flt 0, .int .i64 0, .int .i64 3]) H := by
  refine .mk (fun args w => Try.call17 args w) (Spec.intro' (fn := Try.f17) Try.func17 rfl (by kernel_rfl) (by simp) false [] (draw := drawX Try.prog ⟨false, _, []⟩) dOk ?_)
  simp only [argE, Nat.reduceAdd]
  repeat' (first
    | (refine gateE ?_; (first | refine b_c0 ?_ | refine b_nil ?_ | refine m13 ?_ | refine m12 ?_ | refine m11 ?_ | (refine m10 ?_; (first | refine g_TT ?_ | refine g_FF ?_ | refine g_TF ?_ | refine g_FT ?_ | refine g_PT ?_ ?_ | refine g_PF ?_ ?_ | refine g_BT ?_ ?_ | refine g_BF ?_ ?_ | fail)) | (refine m09 ?_; (first | refine g_TT ?_ | refine g_FF ?_ | refine g_TF ?_ | refine g_FT ?_ | refine g_PT ?_ ?_ | refine g_PF ?_ ?_ | refine g_BT ?_ ?_ | refine g_BF ?_ ?_ | fail)) | refine m38 ?_ | fail))
    | (refine gateO ?_; (first | refine m41 ?_ | refine b_moveI ?_ | refine m14 ?_ | (refine m17 ?_; first | refine m19 ?_ | refine m18 ?_) | (refine m07 ?_; (first | refine m15 ?_ | refine m16 ?_ | fail)) | refine b_lenA (by (conv => {lhs; whnf}); done) (by exact hXl) ?_ | refine b_lenA (by (conv => {lhs; whnf}); done) (by exact hBl) ?_ | (refine m45 ?_; (first | refine v_bbT (by exact rfl) ?_ | refine v_k ?_ | fail)) | (refine m00 ?_; (first | refine m52 ?_ | refine m53 ?_ | refine v_eP ?_ | refine m54 ?_ | refine m55 ?_ | refine v_neP ?_ | refine m47 ?_ | refine m48 ?_ | refine m49 ?_ | refine m50 ?_ | refine v_nT ?_ | refine v_nF ?_ | refine v_nP ?_ | refine v_k ?_ | refine m51 ?_ | fail)) | (refine m22 ?_; (first | refine m26 ?_ | refine m27 ?_ | fail)) | refine m42 ?_ | refine b_assignI ?_ | refine b_assignN ?_ | refine m08 ?_ | (refine m20 ?_; (first | refine m52 ?_ | refine m53 ?_ | refine v_eP ?_ | refine m54 ?_ | refine m55 ?_ | refine v_neP ?_ | refine m47 ?_ | refine m48 ?_ | refine m49 ?_ | refine m50 ?_ | refine v_nT ?_ | refine v_nF ?_ | refine v_nP ?_ | refine v_k ?_ | refine m51 ?_ | fail)) | refine b_callB ?_ | refine m39 ?_ | refine b_lenA (by (conv => {lhs; whnf}); done) (by first | rfl | assumption) ?_ | refine m23 ?_ | refine m25 ?_ | refine m01 ?_ | refine b_max2 (by first | (conv => {lhs; whnf}; done) | exact (by exact rfl) | fail) (by first | (conv => {lhs; whnf}; done) | exact (by exact rfl) | fail) (by first | assumption | exact rfl) ?_ | refine b_min2 (by first | (conv => {lhs; whnf}; done) | exact (by exact rfl) | fail) (by first | (conv => {lhs; whnf}; done) | exact (by exact rfl) | fail) (by first | assumption | exact rfl) ?_ | fail))
    | (refine gateD ?_; (first | refine m36 ?_ | refine d_nil ?_ | refine m32 ?_ | refine m31 ?_ | refine m30 ?_ | (refine m28 ?_; (first | refine dg_TT ?_ | refine dg_FF ?_ | refine dg_TF ?_ | refine dg_FT ?_ | refine dg_PT ?_ ?_ | refine dg_PF ?_ ?_ | refine dg_BT ?_ ?_ | refine dg_BF ?_ ?_ | fail)) | (refine m29 ?_; (first | refine dg_TT ?_ | refine dg_FF ?_ | refine dg_TF ?_ | refine dg_FT ?_ | refine dg_PT ?_ ?_ | refine dg_PF ?_ ?_ | refine dg_BT ?_ ?_ | refine dg_BF ?_ ?_ | fail)) | refine m37 ?_ | fail))
    | (refine gateC ?_; (first | refine k_lt ?_ | refine k_fz ?_ | refine k_lb (by (conv => {lhs; whnf}); done) ?_ | refine k_ms ?_ | refine k_bx (by exact rfl) (by exact rfl) ?_ | refine m34 ?_ | refine m35 ?_ | refine m33 ?_ | refine k_mn ?_ | refine m56 ?_ | refine k_mnF ?_ | refine k_mnL (by exact rfl) ?_ | fail))
    | (refine gateT ?_; (first | refine b_thn ?_ | refine b_thr ?_ | refine b_the ?_ | fail))
    | (refine gateX ?_; (first | refine b_seq ?_ | refine b_region ?_ | (refine m06 ?_; (first | refine c_T ?_ | refine c_F ?_ | refine c_P ?_ ?_ | refine c_B ?_ ?_ | fail)) | refine b_ret ?_ | refine b_skip ?_ | refine b_block ?_ | refine b_exit ?_ | refine b_draw (id := 16) [] [12] [(0, .lt), (1, .lt), (2, .lt), (3, .lt), (4, .lt), (5, .ld true), (6, .lt), (7, .lt), (8, .lt), (9, .ld true), (10, .lt), (11, .lt), (12, .mn false)] (by kernel_rfl) ?_ | fail))
    | refine m21 ?_
    | refine a_nil ?_
    | (refine gateK ?_; (first | refine c_call (check_0 _ x l off ld n hI hG q la ao al hJ hGa q' p hpl hpv Rv rl hRl Cv cl hCl hrl hcl hn1 hn hz) (OldOk.app (by simp)) ?_ | fail))
    | refine m44 ?_
    | refine m40 ?_
    | (refine gk_nilN (by (conv => {lhs; simp only [List.nil_append, List.cons_append]}); done) ?_; first | refine ⟨by exact rfl, ?_⟩ | skip)
    | refine gk_nil ?_
    | (intro N' hN'; simp only [List.nil_append, List.cons_append] at hN'; subst hN')
    | (refine gateB ?_; (first | refine b_bln ?_ | refine b_blr ?_ | refine b_ble ?_ | refine m57 ?_ | fail))
    | (refine gateL ?_; (first | refine lp_n ?_ | refine lp_r ?_ | refine lp_e ?_ | fail))
    | (refine pr_k (by exact rfl) ?_; first | exact hK | (exfalso; first | omega | (simp_all; done) | (simp_all; omega)))
    | (refine gateQ ?_; refine m05 ?_)
    | (refine gateR ?_; (first | refine m04 ?_ | refine m02 ?_ | refine m03 ?_ | refine rk_nil ?_ | fail))
    | intro _)
  all_goals first
    | (exfalso; contradiction)
    | (exfalso; omega)
    | (exfalso; simp_all; done)
    | (refine rv_old rfl (by simp [mx, mxL, resOne, aOf, aOf1]) ?_; exact rfl)


end Go.Sx

set_option linter.unusedVariables false
set_option maxRecDepth 20000
namespace Go.Sx
open Go.Proofs
def fzL : List (Nat × List Nat) := [(7, [6, 8, 17, 18, 32]), (37, [21]), (43, [53, 63]), (76, [46]), (86, [35])]
def escL : List Nat := [44, 68]
def ordL : List (Nat × Nat × List Nat × (Bool × List Nat) × List (Nat × List Nat) × List Nat × DTr) := [(14, 6, [], (false, []), [], [], .lin [(0, .lt), (1, .lt), (2, .lt), (3, .ld true), (4, .lt), (5, .lt), (6, .lt), (7, .ld true), (8, .mn true), (9, .lt)]),
  (17, 16, [], (false, []), [], [12], .lin [(0, .lt), (1, .lt), (2, .lt), (3, .lt), (4, .lt), (5, .ld true), (6, .lt), (7, .lt), (8, .lt), (9, .ld true), (10, .lt), (11, .lt), (12, .mn false)]),
  (26, 7, [], (false, []), [], [14], .lin [(0, .lt), (1, .ld true), (2, .lt), (3, .lt), (4, .lt), (5, .lt), (6, .lt), (7, .lt), (8, .lt), (9, .ld true), (10, .lt), (11, .lt), (12, .lt), (13, .lt), (14, .mn false)]),
  (43, 10, [], (false, []), [], [11], .lin [(0, .lt), (1, .lt), (2, .lt), (3, .lt), (4, .ld true), (5, .lt), (6, .lt), (7, .lt), (8, .ld true), (9, .mn true), (10, .fz), (11, .mn false), (12, .lt)]),
  (44, 6, [], (false, [3, 10, 11]), [], [2, 5], .lin [(0, .ld true), (1, .ld true), (3, .ld false), (4, .ld false), (2, .mn false), (5, .mn false), (6, .lt), (7, .lt), (8, .lt)]),
  (69, 1, [], (false, []), [], [], .lin [(0, .ld true), (1, .ld true), (3, .lt), (4, .ld true), (5, .lt), (6, .ld true), (7, .lt), (8, .ld true), (9, .lt), (10, .ld true), (11, .lt), (12, .ld true), (13, .lt), (2, .mn true), (14, .mn true), (15, .lt)]),
  (70, 7, [], (false, []), [], [], .lin [(0, .lt), (1, .ld true), (2, .lt), (3, .ld true), (4, .lt), (5, .lt), (6, .ld true), (7, .lt), (8, .lt), (9, .lt), (10, .lt), (11, .ld true), (12, .lt), (13, .ld true), (14, .lt), (15, .lt), (16, .lt), (17, .ld true), (18, .lt), (19, .ld true), (20, .lt), (21, .lt), (22, .lt), (23, .lt), (24, .lt)]),
  (70, 8, [], (false, []), [], [9, 11], .lin [(0, .lt), (1, .lt), (2, .lt), (3, .lt), (4, .ld true), (5, .lt), (6, .lt), (7, .ld true), (8, .lt), (9, .mn false), (10, .lt), (11, .mn false)]),
  (71, 6, [], (false, []), [], [], .lin [(0, .ld true), (2, .ld true), (1, .mn true), (3, .mn true), (4, .lt)]),
  (71, 10, [8], (false, []), [], [], .lin [(0, .ld true), (1, .ld true), (2, .lt), (3, .lt), (4, .ld true), (5, .bx), (6, .mn true), (7, .lt)]),
  (71, 19, [], (false, []), [], [7], .lin [(0, .ld true), (1, .lt), (2, .lt), (3, .ld true), (4, .lt), (5, .lt), (6, .mn true), (7, .mn false)]),
  (71, 25, [], (false, []), [], [11], .lin [(0, .ld true), (1, .lt), (5, .ld true), (6, .lt), (7, .lt), (2, .mn true), (3, .lt), (4, .ld true), (8, .mn true), (9, .lt), (10, .lt), (11, .mn false)]),
  (71, 29, [], (false, []), [], [7], .lin [(0, .ld true), (1, .lt), (2, .lt), (3, .ld true), (4, .lt), (5, .lt), (6, .mn true), (7, .mn false)]),
  (71, 38, [], (false, []), [], [7], .lin [(0, .ld true), (1, .lt), (2, .lt), (3, .ld true), (4, .lt), (5, .lt), (6, .mn true), (7, .mn false)]),
  (71, 46, [], (false, []), [], [7], .lin [(0, .ld true), (1, .lt), (2, .lt), (3, .ld true), (4, .lt), (5, .lt), (6, .mn true), (7, .mn false)]),
  (71, 48, [], (false, []), [], [11], .lin [(0, .ld true), (1, .lt), (5, .ld true), (6, .lt), (7, .lt), (2, .mn true), (3, .lt), (4, .ld true), (8, .mn true), (9, .lt), (10, .lt), (11, .mn false)]),
  (76, 9, [], (false, []), [], [], .lin [(0, .lt), (2, .lt), (3, .lt), (4, .lt), (5, .lt), (6, .ld true), (7, .lt), (1, .mn true), (8, .lt), (9, .lt)]),
  (85, 1, [], (false, []), [], [], .lin [(0, .lt), (1, .lt), (3, .ld true), (4, .lt), (5, .lt), (6, .ld true), (2, .mn true), (7, .mn true), (8, .lt), (9, .lt), (10, .lt)]),
  (86, 9, [], (false, []), [], [], .lin [(0, .lt), (1, .ld true), (2, .lt), (3, .ld true), (4, .lt), (5, .lt), (7, .lt), (6, .mn true), (8, .mn true), (9, .lt)]),
  (104, 3, [], (false, []), [], [], .lin [(0, .lt), (1, .lt), (2, .lt), (3, .lt), (4, .lt), (5, .lt), (6, .ld true), (7, .lt), (8, .lt), (9, .ld true), (10, .lt), (11, .ld true), (12, .lt), (13, .lt), (14, .lt), (15, .lt), (16, .lt), (17, .lt), (18, .lt), (19, .lt), (20, .lt), (21, .lt), (22, .lt), (23, .lt)]),
  (111, 0, [], (false, []), [], [10], .lin [(0, .lt), (1, .lt), (2, .lt), (3, .ld true), (4, .ld true), (5, .lt), (6, .lt), (7, .ld true), (8, .mn true), (9, .lt), (10, .mn false)]),
  (117, 1, [], (false, []), [], [14], .lin [(0, .ld true), (1, .lt), (5, .lt), (6, .ld true), (7, .lt), (2, .mn true), (3, .lt), (4, .ld true), (8, .mn true), (9, .lt), (10, .ld true), (11, .lt), (12, .lt), (13, .lt), (14, .mn false)]),
  (127, 3, [], (false, []), [], [], .lin [(0, .lt), (1, .ld true), (2, .lt), (3, .ld true), (4, .lt), (5, .ld true), (6, .lt), (7, .lt), (8, .ld true), (9, .lt), (10, .lt), (11, .lt), (12, .ld true), (13, .lt), (14, .lt), (15, .lt), (16, .lt), (17, .lt)])]
def frzL : List Nat := [138]
def intrT (f : Nat) (args : List AV) : Option AV :=
  if Nat.beq f 49 then (match args with
    | [.fraw b] => some (.int .u64 b)
    | [.flt b] => if isNaN b then none else some (.int .u64 b)
    | _ => none)
  else if Nat.beq f 121 then (match args with
    | [.int .u64 n] => if 0 ≤ n ∧ n ≤ 18446744073709551615 then some (.fraw n.toNat) else none
    | _ => none)
  else none
def runT : RunT := ⟨fun f => escL.contains f, ordF ordL, intrT, fun f => (lk fzL f).getD [], fun f => !frzL.contains f⟩
theorem intr_ok (f : Nat) (args : List AV) (r : AV) (H : List (List AV)) (h : intrT f args = some r) : CSpec Try.prog f args H r H := by
  unfold intrT at h
  split at h
  · rename_i hb
    have := Nat.eq_of_beq_eq_true hb; subst this
    split at h
    · cases h; exact xbits_raw Try.func49 (by kernel_rfl) (by kernel_rfl) (by kernel_rfl) (by kernel_rfl) H _
    · split at h
      · cases h
      · rename_i hn; cases h; exact xbits_flt Try.func49 (by kernel_rfl) (by kernel_rfl) (by kernel_rfl) (by kernel_rfl) H _ hn
    · cases h
  · split at h
    · rename_i hb
      have := Nat.eq_of_beq_eq_true hb; subst this
      split at h
      · split at h
        · rename_i hn; cases h; exact xfrom Try.func121 (by kernel_rfl) (by kernel_rfl) (by kernel_rfl) (by kernel_rfl) H _ hn
        · cases h
      · cases h
    · cases h
theorem run_7 : runF Try.prog runT 100000 60 7 [] [] = some (.bool true, []) := by kernel_rfl
theorem run_7_c (H : List (List AV)) : CSpec Try.prog 7 [] H (.bool true) H := runF_c fol intr_ok 100000 60 7 _ _ (by kernel_rfl) (by kernel_rfl) run_7 H
end Go.Sx
