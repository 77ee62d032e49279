/- A part of the proofs of this seat: YD. No condition is set. -/
import Derived.Test.YthjjpbcmimpjbaaXS
import Derived.Test.YthjjpbcmimpjbaaYA
import Derived.Test.YthjjpbcmimpjbaaYC
set_option linter.unusedVariables false
set_option linter.unusedSimpArgs false
set_option maxRecDepth 20000
namespace Go.Sx
open Go.Proofs
theorem FLz (H : List (List AV)) (l : List Nat) (n : Nat) (h : l.length = n) : FL H (.sl none n (fl l)) l := by subst h; exact FL.fz H none l
attribute [local irreducible] Ex exOps exD opX opE thenX blkX RetQ Spec CSpec Fr condK guardK guardD ckK valK pickK loadK faK callK argK gK fK rK RetV lpX prK
set_option maxHeartbeats 4000000 in
theorem sv_ok (H : List (List AV)) (x : Nat × Nat) (l : List Nat) (off ld : Int) (n : Nat) (hI : MI l.length off n n ld) (hG : GoodP l.length off n n ld) (q : Nat × Nat) (la : List Nat) (ao al : Int) (hJ : MI la.length ao n n al) (hGa : GoodP la.length ao n n al) (q' : Nat × Nat) (p : List Int) (hpl : p.length = n) (hpv : pivP p) (Rv : AV) (rl : List Int) (hRl : ∀ H, IL H Rv rl) (Cv : AV) (cl : List Int) (hCl : ∀ H, IL H Cv cl) (hrl : rl.length = n) (hcl : cl.length = n) (hn1 : 1 ≤ n) (hn : n ≤ 64) (hz : ∀ k, k < n → feq ((mel la ao al) k k) 0 = false) (X : AV) (f : Nat → Nat) (hX : ∀ H', FL (H ++ H') X (rml f n)) (hN : NN X) (hRm : mx Rv ≤ H.length) (hCm : mx Cv ≤ H.length) (H' : List (List AV)) (hH : H ++ [fl (rml (shF (up2 (mel la ao al) (lo1 (mel la ao al) (tkF p (shF f rl n) n) n) n n) cl n) n)] = H') (m : Nat) (hm9 : H.length = m) :
    CSpec Try.prog 10 [(.agg [aD x l, .int .i64 off, .int .i64 (n : Int), .int .i64 (n : Int), .int .i64 ld, aD q la, .int .i64 ao, .int .i64 (n : Int), .int .i64 (n : Int), .int .i64 al, aI q' p, Rv, Cv]), X] H (.tup [.slm m n 0 n 1, .int .i64 0]) H' := by
  subst hH hm9
  refine .mk (fun args w => Try.call10 args w) (Spec.intro' (fn := Try.f10) Try.func10 rfl (by kernel_rfl) (by simp) false [] (draw := drawX Try.prog ⟨false, _, []⟩) dOk ?_)
  simp only [argE, Nat.reduceAdd]
  repeat' (first
    | (refine gateE ?_; (first | refine b_c0 ?_ | refine b_nil ?_ | fail))
    | (refine gateO ?_; (first | refine m14 ?_ | (refine m17 ?_; first | refine m19 ?_ | refine m18 ?_) | (refine m07 ?_; (first | refine m15 ?_ | refine m16 ?_ | fail)) | refine m42 ?_ | refine b_assignI ?_ | refine b_assignN ?_ | refine m08 ?_ | refine b_callB ?_ | refine m23 ?_ | refine m01 ?_ | fail))
    | (refine gateT ?_; (first | refine b_thn ?_ | refine b_thr ?_ | refine b_the ?_ | fail))
    | (refine gateX ?_; (first | refine b_seq ?_ | refine b_region ?_ | (refine m06 ?_; (first | refine c_T ?_ | refine c_F ?_ | refine c_P ?_ ?_ | refine c_B ?_ ?_ | fail)) | refine b_ret ?_ | refine b_skip ?_ | refine b_block ?_ | refine b_exit ?_ | fail))
    | refine m21 ?_
    | refine a_nil ?_
    | (refine gateK ?_; (first | refine c_call (scaled_f _ x l off ld n hI hG q la ao al hJ hGa q' p hpl hpv Rv rl hRl Cv cl hCl hrl hcl hn1 hn hz X f (fun N => by rw [List.append_assoc]; exact hX _) hN Rv rl hRl (by simp; omega) hrl Cv cl hCl (by simp; omega) hcl _ (by (conv => {lhs; simp only [List.append_assoc, List.cons_append, List.nil_append]}); done) _ (by (conv => {lhs; simp only [List.length_append, List.length_cons, List.length_nil, List.length_set, Nat.reduceAdd, Nat.zero_add]}); done)) (OldOk.app (by simp)) ?_ | fail))
    | (refine gateQ ?_; refine m05 ?_)
    | (refine gateR ?_; (first | refine m04 ?_ | refine m02 ?_ | refine m03 ?_ | refine rk_nil ?_ | fail))
    | intro _)
  all_goals first
    | exact rv_kp (j := 0) (cs := fl (rml (shF (up2 (mel la ao al) (lo1 (mel la ao al) (tkF p (shF f rl n) n) n) n n) cl n) n)) rfl rfl (by rw [mxL_fl]; exact Nat.zero_le _) (Fr.tup (Frs.cons (Fr.kp (j := 0) (cs := fl (rml (shF (up2 (mel la ao al) (lo1 (mel la ao al) (tkF p (shF f rl n) n) n) n n) cl n) n)) rfl (hg_new rfl rfl) (by simp)) (Frs.cons (Fr.old (by simp [mx])) Frs.nil)))

set_option maxHeartbeats 4000000 in
theorem sv_e (H : List (List AV)) (c0 c1 c2 c3 c4 c5 c6 c7 c8 c9 c10 Rv Cv : AV) (hRc : AV.cells Rv = some [Rv]) (hCc : AV.cells Cv = some [Cv]) (X : AV) (xn : Nat) (hXl : slen X = some xn) (e : Int) (he : e ≠ 0) (hck : ∀ N, CSpec Try.prog 13 [.agg [c0, c1, c2, c3, c4, c5, c6, c7, c8, c9, c10, Rv, Cv]] (H ++ N) (.int .i64 e) (H ++ N)) :
    CSpec Try.prog 10 [.agg [c0, c1, c2, c3, c4, c5, c6, c7, c8, c9, c10, Rv, Cv], X] H (.tup [.slnil, .int .i64 e]) H := by
  refine .mk (fun args w => Try.call10 args w) (Spec.intro' (fn := Try.f10) Try.func10 rfl (by kernel_rfl) (by simp) false [] (draw := drawX Try.prog ⟨false, _, []⟩) dOk ?_)
  simp only [argE, Nat.reduceAdd]
  repeat' (first
    | (refine gateE ?_; (first | refine b_c0 ?_ | refine b_nil ?_ | fail))
    | (refine gateO ?_; (first | refine m14 ?_ | (refine m17 ?_; first | refine m19 ?_ | refine m18 ?_) | (refine m07 ?_; (first | refine m15 ?_ | refine m16 ?_ | fail)) | refine m42 ?_ | refine b_assignI ?_ | refine b_assignN ?_ | refine m08 ?_ | refine b_callB ?_ | refine m23 ?_ | refine m01 ?_ | fail))
    | (refine gateT ?_; (first | refine b_thn ?_ | refine b_thr ?_ | refine b_the ?_ | fail))
    | (refine gateX ?_; (first | refine b_seq ?_ | refine b_region ?_ | (refine m06 ?_; (first | refine c_T ?_ | refine c_F ?_ | refine c_P ?_ ?_ | refine c_B ?_ ?_ | fail)) | refine b_ret ?_ | refine b_skip ?_ | refine b_block ?_ | refine b_exit ?_ | fail))
    | refine m21 ?_
    | refine a_nil ?_
    | (refine gateK ?_; (first | refine c_call (scaled_e _ [c0, c1, c2, c3, c4, c5, c6, c7, c8, c9, c10, Rv, Cv] (by exact rfl) 33 X xn hXl _ _ e he (fun N => by rw [List.append_assoc]; exact hck _)) (OldOk.app (by simp)) ?_ | fail))
    | (refine gateQ ?_; refine m05 ?_)
    | (refine gateR ?_; (first | refine m04 ?_ | refine m02 ?_ | refine m03 ?_ | refine rk_nil ?_ | fail))
    | intro _)
  all_goals first
    | (exfalso; contradiction)
    | (exfalso; omega)
    | (exfalso; simp_all; done)
    | (refine rv_old rfl (by simp [mx, mxL, resOne, aOf, aOf1]) ?_; exact rfl)

set_option maxHeartbeats 4000000 in
theorem sv_l (H : List (List AV)) (x : Nat × Nat) (l : List Nat) (off ld : Int) (n : Nat) (hI : MI l.length off n n ld) (hG : GoodP l.length off n n ld) (q : Nat × Nat) (la : List Nat) (ao al : Int) (hJ : MI la.length ao n n al) (hGa : GoodP la.length ao n n al) (q' : Nat × Nat) (p : List Int) (hpl : p.length = n) (hpv : pivP p) (Rv : AV) (rl : List Int) (hRl : ∀ H, IL H Rv rl) (Cv : AV) (cl : List Int) (hCl : ∀ H, IL H Cv cl) (hrl : rl.length = n) (hcl : cl.length = n) (hn1 : 1 ≤ n) (hn : n ≤ 64) (hz : ∀ k, k < n → feq ((mel la ao al) k k) 0 = false) (X : AV) (xn : Nat) (hXl : slen X = some xn) (hxn : xn ≠ n) :
    CSpec Try.prog 10 [(.agg [aD x l, .int .i64 off, .int .i64 (n : Int), .int .i64 (n : Int), .int .i64 ld, aD q la, .int .i64 ao, .int .i64 (n : Int), .int .i64 (n : Int), .int .i64 al, aI q' p, Rv, Cv]), X] H (.tup [.slnil, .int .i64 3]) H := by
  refine .mk (fun args w => Try.call10 args w) (Spec.intro' (fn := Try.f10) Try.func10 rfl (by kernel_rfl) (by simp) false [] (draw := drawX Try.prog ⟨false, _, []⟩) dOk ?_)
  simp only [argE, Nat.reduceAdd]
  repeat' (first
    | (refine gateE ?_; (first | refine b_c0 ?_ | refine b_nil ?_ | fail))
    | (refine gateO ?_; (first | refine m14 ?_ | (refine m17 ?_; first | refine m19 ?_ | refine m18 ?_) | (refine m07 ?_; (first | refine m15 ?_ | refine m16 ?_ | fail)) | refine m42 ?_ | refine b_assignI ?_ | refine b_assignN ?_ | refine m08 ?_ | refine b_callB ?_ | refine m23 ?_ | refine m01 ?_ | fail))
    | (refine gateT ?_; (first | refine b_thn ?_ | refine b_thr ?_ | refine b_the ?_ | fail))
    | (refine gateX ?_; (first | refine b_seq ?_ | refine b_region ?_ | (refine m06 ?_; (first | refine c_T ?_ | refine c_F ?_ | refine c_P ?_ ?_ | refine c_B ?_ ?_ | fail)) | refine b_ret ?_ | refine b_skip ?_ | refine b_block ?_ | refine b_exit ?_ | fail))
    | refine m21 ?_
    | refine a_nil ?_
    | (refine gateK ?_; (first | refine c_call (scaled_l _ x l off ld n hI hG q la ao al hJ hGa q' p hpl hpv Rv rl hRl Cv cl hCl hrl hcl hn1 hn hz 33 X xn hXl _ _ hxn) (OldOk.app (by simp)) ?_ | fail))
    | (refine gateQ ?_; refine m05 ?_)
    | (refine gateR ?_; (first | refine m04 ?_ | refine m02 ?_ | refine m03 ?_ | refine rk_nil ?_ | fail))
    | intro _)
  all_goals first
    | (exfalso; contradiction)
    | (exfalso; omega)
    | (exfalso; simp_all; done)
    | (refine rv_old rfl (by simp [mx, mxL, resOne, aOf, aOf1]) ?_; exact rfl)

set_option maxHeartbeats 4000000 in
theorem st_ok (H : List (List AV)) (x : Nat × Nat) (l : List Nat) (off ld : Int) (n : Nat) (hI : MI l.length off n n ld) (hG : GoodP l.length off n n ld) (q : Nat × Nat) (la : List Nat) (ao al : Int) (hJ : MI la.length ao n n al) (hGa : GoodP la.length ao n n al) (q' : Nat × Nat) (p : List Int) (hpl : p.length = n) (hpv : pivP p) (Rv : AV) (rl : List Int) (hRl : ∀ H, IL H Rv rl) (Cv : AV) (cl : List Int) (hCl : ∀ H, IL H Cv cl) (hrl : rl.length = n) (hcl : cl.length = n) (hn1 : 1 ≤ n) (hn : n ≤ 64) (hz : ∀ k, k < n → feq ((mel la ao al) k k) 0 = false) (X : AV) (f : Nat → Nat) (hX : ∀ H', FL (H ++ H') X (rml f n)) (hN : NN X) (hRm : mx Rv ≤ H.length) (hCm : mx Cv ≤ H.length) (H' : List (List AV)) (hH : H ++ [fl (rml (shF (tkB p (lt3 (mel la ao al) (ut4 (mel la ao al) (shF f cl n) n) n n) n) rl n) n)] = H') (m : Nat) (hm9 : H.length = m) :
    CSpec Try.prog 12 [(.agg [aD x l, .int .i64 off, .int .i64 (n : Int), .int .i64 (n : Int), .int .i64 ld, aD q la, .int .i64 ao, .int .i64 (n : Int), .int .i64 (n : Int), .int .i64 al, aI q' p, Rv, Cv]), X] H (.tup [.slm m n 0 n 1, .int .i64 0]) H' := by
  subst hH hm9
  refine .mk (fun args w => Try.call12 args w) (Spec.intro' (fn := Try.f12) Try.func12 rfl (by kernel_rfl) (by simp) false [] (draw := drawX Try.prog ⟨false, _, []⟩) dOk ?_)
  simp only [argE, Nat.reduceAdd]
  repeat' (first
    | (refine gateE ?_; (first | refine b_c0 ?_ | refine b_nil ?_ | fail))
    | (refine gateO ?_; (first | refine m14 ?_ | (refine m17 ?_; first | refine m19 ?_ | refine m18 ?_) | (refine m07 ?_; (first | refine m15 ?_ | refine m16 ?_ | fail)) | refine m42 ?_ | refine b_assignI ?_ | refine b_assignN ?_ | refine m08 ?_ | refine b_callB ?_ | refine m23 ?_ | refine m01 ?_ | fail))
    | (refine gateT ?_; (first | refine b_thn ?_ | refine b_thr ?_ | refine b_the ?_ | fail))
    | (refine gateX ?_; (first | refine b_seq ?_ | refine b_region ?_ | (refine m06 ?_; (first | refine c_T ?_ | refine c_F ?_ | refine c_P ?_ ?_ | refine c_B ?_ ?_ | fail)) | refine b_ret ?_ | refine b_skip ?_ | refine b_block ?_ | refine b_exit ?_ | fail))
    | refine m21 ?_
    | refine a_nil ?_
    | (refine gateK ?_; (first | refine c_call (scaled_t _ x l off ld n hI hG q la ao al hJ hGa q' p hpl hpv Rv rl hRl Cv cl hCl hrl hcl hn1 hn hz X f (fun N => by rw [List.append_assoc]; exact hX _) hN Cv cl hCl (by simp; omega) hcl Rv rl hRl (by simp; omega) hrl _ (by (conv => {lhs; simp only [List.append_assoc, List.cons_append, List.nil_append]}); done) _ (by (conv => {lhs; simp only [List.length_append, List.length_cons, List.length_nil, List.length_set, Nat.reduceAdd, Nat.zero_add]}); done)) (OldOk.app (by simp)) ?_ | fail))
    | (refine gateQ ?_; refine m05 ?_)
    | (refine gateR ?_; (first | refine m04 ?_ | refine m02 ?_ | refine m03 ?_ | refine rk_nil ?_ | fail))
    | intro _)
  all_goals first
    | exact rv_kp (j := 0) (cs := fl (rml (shF (tkB p (lt3 (mel la ao al) (ut4 (mel la ao al) (shF f cl n) n) n n) n) rl n) n)) rfl rfl (by rw [mxL_fl]; exact Nat.zero_le _) (Fr.tup (Frs.cons (Fr.kp (j := 0) (cs := fl (rml (shF (tkB p (lt3 (mel la ao al) (ut4 (mel la ao al) (shF f cl n) n) n n) n) rl n) n)) rfl (hg_new rfl rfl) (by simp)) (Frs.cons (Fr.old (by simp [mx])) Frs.nil)))

set_option maxHeartbeats 4000000 in
theorem st_e (H : List (List AV)) (c0 c1 c2 c3 c4 c5 c6 c7 c8 c9 c10 Rv Cv : AV) (hRc : AV.cells Rv = some [Rv]) (hCc : AV.cells Cv = some [Cv]) (X : AV) (xn : Nat) (hXl : slen X = some xn) (e : Int) (he : e ≠ 0) (hck : ∀ N, CSpec Try.prog 13 [.agg [c0, c1, c2, c3, c4, c5, c6, c7, c8, c9, c10, Rv, Cv]] (H ++ N) (.int .i64 e) (H ++ N)) :
    CSpec Try.prog 12 [.agg [c0, c1, c2, c3, c4, c5, c6, c7, c8, c9, c10, Rv, Cv], X] H (.tup [.slnil, .int .i64 e]) H := by
  refine .mk (fun args w => Try.call12 args w) (Spec.intro' (fn := Try.f12) Try.func12 rfl (by kernel_rfl) (by simp) false [] (draw := drawX Try.prog ⟨false, _, []⟩) dOk ?_)
  simp only [argE, Nat.reduceAdd]
  repeat' (first
    | (refine gateE ?_; (first | refine b_c0 ?_ | refine b_nil ?_ | fail))
    | (refine gateO ?_; (first | refine m14 ?_ | (refine m17 ?_; first | refine m19 ?_ | refine m18 ?_) | (refine m07 ?_; (first | refine m15 ?_ | refine m16 ?_ | fail)) | refine m42 ?_ | refine b_assignI ?_ | refine b_assignN ?_ | refine m08 ?_ | refine b_callB ?_ | refine m23 ?_ | refine m01 ?_ | fail))
    | (refine gateT ?_; (first | refine b_thn ?_ | refine b_thr ?_ | refine b_the ?_ | fail))
    | (refine gateX ?_; (first | refine b_seq ?_ | refine b_region ?_ | (refine m06 ?_; (first | refine c_T ?_ | refine c_F ?_ | refine c_P ?_ ?_ | refine c_B ?_ ?_ | fail)) | refine b_ret ?_ | refine b_skip ?_ | refine b_block ?_ | refine b_exit ?_ | fail))
    | refine m21 ?_
    | refine a_nil ?_
    | (refine gateK ?_; (first | refine c_call (scaled_e _ [c0, c1, c2, c3, c4, c5, c6, c7, c8, c9, c10, Rv, Cv] (by exact rfl) 34 X xn hXl _ _ e he (fun N => by rw [List.append_assoc]; exact hck _)) (OldOk.app (by simp)) ?_ | fail))
    | (refine gateQ ?_; refine m05 ?_)
    | (refine gateR ?_; (first | refine m04 ?_ | refine m02 ?_ | refine m03 ?_ | refine rk_nil ?_ | fail))
    | intro _)
  all_goals first
    | (exfalso; contradiction)
    | (exfalso; omega)
    | (exfalso; simp_all; done)
    | (refine rv_old rfl (by simp [mx, mxL, resOne, aOf, aOf1]) ?_; exact rfl)

set_option maxHeartbeats 4000000 in
theorem st_l (H : List (List AV)) (x : Nat × Nat) (l : List Nat) (off ld : Int) (n : Nat) (hI : MI l.length off n n ld) (hG : GoodP l.length off n n ld) (q : Nat × Nat) (la : List Nat) (ao al : Int) (hJ : MI la.length ao n n al) (hGa : GoodP la.length ao n n al) (q' : Nat × Nat) (p : List Int) (hpl : p.length = n) (hpv : pivP p) (Rv : AV) (rl : List Int) (hRl : ∀ H, IL H Rv rl) (Cv : AV) (cl : List Int) (hCl : ∀ H, IL H Cv cl) (hrl : rl.length = n) (hcl : cl.length = n) (hn1 : 1 ≤ n) (hn : n ≤ 64) (hz : ∀ k, k < n → feq ((mel la ao al) k k) 0 = false) (X : AV) (xn : Nat) (hXl : slen X = some xn) (hxn : xn ≠ n) :
    CSpec Try.prog 12 [(.agg [aD x l, .int .i64 off, .int .i64 (n : Int), .int .i64 (n : Int), .int .i64 ld, aD q la, .int .i64 ao, .int .i64 (n : Int), .int .i64 (n : Int), .int .i64 al, aI q' p, Rv, Cv]), X] H (.tup [.slnil, .int .i64 3]) H := by
  refine .mk (fun args w => Try.call12 args w) (Spec.intro' (fn := Try.f12) Try.func12 rfl (by kernel_rfl) (by simp) false [] (draw := drawX Try.prog ⟨false, _, []⟩) dOk ?_)
  simp only [argE, Nat.reduceAdd]
  repeat' (first
    | (refine gateE ?_; (first | refine b_c0 ?_ | refine b_nil ?_ | fail))
    | (refine gateO ?_; (first | refine m14 ?_ | (refine m17 ?_; first | refine m19 ?_ | refine m18 ?_) | (refine m07 ?_; (first | refine m15 ?_ | refine m16 ?_ | fail)) | refine m42 ?_ | refine b_assignI ?_ | refine b_assignN ?_ | refine m08 ?_ | refine b_callB ?_ | refine m23 ?_ | refine m01 ?_ | fail))
    | (refine gateT ?_; (first | refine b_thn ?_ | refine b_thr ?_ | refine b_the ?_ | fail))
    | (refine gateX ?_; (first | refine b_seq ?_ | refine b_region ?_ | (refine m06 ?_; (first | refine c_T ?_ | refine c_F ?_ | refine c_P ?_ ?_ | refine c_B ?_ ?_ | fail)) | refine b_ret ?_ | refine b_skip ?_ | refine b_block ?_ | refine b_exit ?_ | fail))
    | refine m21 ?_
    | refine a_nil ?_
    | (refine gateK ?_; (first | refine c_call (scaled_l _ x l off ld n hI hG q la ao al hJ hGa q' p hpl hpv Rv rl hRl Cv cl hCl hrl hcl hn1 hn hz 34 X xn hXl _ _ hxn) (OldOk.app (by simp)) ?_ | fail))
    | (refine gateQ ?_; refine m05 ?_)
    | (refine gateR ?_; (first | refine m04 ?_ | refine m02 ?_ | refine m03 ?_ | refine rk_nil ?_ | fail))
    | intro _)
  all_goals first
    | (exfalso; contradiction)
    | (exfalso; omega)
    | (exfalso; simp_all; done)
    | (refine rv_old rfl (by simp [mx, mxL, resOne, aOf, aOf1]) ?_; exact rfl)

set_option maxHeartbeats 4000000 in
theorem rchk_1 (H : List (List AV)) (x : Nat × Nat) (l : List Nat) (off rows cols ld : Int) (hI : MI l.length off rows cols ld) (q : Nat × Nat) (la : List Nat) (ao ar ac al : Int) (hJ : MI la.length ao ar ac al) (q' : Nat × Nat) (p : List Int) (hpm : p.length ≤ 2 ^ 30) (Rv : AV) (rl : List Int) (hRl : ∀ H, IL H Rv rl) (Cv : AV) (cl : List Int) (hCl : ∀ H, IL H Cv cl) (hbad : ¬ (GoodP l.length off rows cols ld ∧ (GoodP la.length ao ar ac al ∧ ar = ac ∧ ar = (p.length : Int) ∧ pivP p))) :
    CSpec Try.prog 9 [mt (aD x l) off rows cols ld, .agg [aD q la, .int .i64 ao, .int .i64 ar, .int .i64 ac, .int .i64 al, aI q' p], Rv, Cv] H (.tup [(.agg [.int .i64 0, .int .i64 0, .slnil, .int .i64 0, .int .i64 0, .slnil, .slnil, .slnil, .slnil]), .int .i64 1]) H := by
  obtain ⟨hm, ho1, ho2, hr1, hr2, hc1, hc2, hl1, hl2⟩ := id hI
  obtain ⟨hm', ho1', ho2', hr1', hr2', hc1', hc2', hl1', hl2'⟩ := id hJ
  refine .mk (fun args w => Try.call9 args w) (Spec.intro' (fn := Try.f9) Try.func9 rfl (by kernel_rfl) (by simp) false [] (draw := drawX Try.prog ⟨false, _, []⟩) dOk ?_)
  simp only [argE, Nat.reduceAdd]
  repeat' (first
    | (refine gateE ?_; (first | refine b_c0 ?_ | refine b_nil ?_ | refine m13 ?_ | refine m12 ?_ | refine m11 ?_ | (refine m10 ?_; (first | refine g_TT ?_ | refine g_FF ?_ | refine g_TF ?_ | refine g_FT ?_ | refine g_PT ?_ ?_ | refine g_PF ?_ ?_ | refine g_BT ?_ ?_ | refine g_BF ?_ ?_ | fail)) | (refine m09 ?_; (first | refine g_TT ?_ | refine g_FF ?_ | refine g_TF ?_ | refine g_FT ?_ | refine g_PT ?_ ?_ | refine g_PF ?_ ?_ | refine g_BT ?_ ?_ | refine g_BF ?_ ?_ | fail)) | refine m38 ?_ | fail))
    | (refine gateO ?_; (first | refine m14 ?_ | (refine m17 ?_; first | refine m19 ?_ | refine m18 ?_) | (refine m07 ?_; (first | refine m15 ?_ | refine m16 ?_ | fail)) | refine b_lenA (by (conv => {lhs; whnf}); done) (by exact (hRl []).len) ?_ | refine b_lenA (by (conv => {lhs; whnf}); done) (by exact (hCl []).len) ?_ | refine b_lenA (by (conv => {lhs; whnf}); done) (by exact (aI_IL [] q' p).len) ?_ | (refine m00 ?_; (first | refine m54 ?_ | refine m55 ?_ | refine v_neP ?_ | refine m47 ?_ | refine m48 ?_ | refine m49 ?_ | refine m50 ?_ | refine v_nT ?_ | refine v_nF ?_ | refine v_nP ?_ | refine v_k ?_ | refine m51 ?_ | fail)) | (refine m22 ?_; (first | refine m26 ?_ | refine m27 ?_ | fail)) | refine m42 ?_ | refine b_assignI ?_ | refine b_assignN ?_ | refine m08 ?_ | (refine m20 ?_; (first | refine m54 ?_ | refine m55 ?_ | refine v_neP ?_ | refine m47 ?_ | refine m48 ?_ | refine m49 ?_ | refine m50 ?_ | refine v_nT ?_ | refine v_nF ?_ | refine v_nP ?_ | refine v_k ?_ | refine m51 ?_ | fail)) | refine b_callB ?_ | refine b_lenA (by (conv => {lhs; whnf}); done) (by first | rfl | assumption) ?_ | refine m25 ?_ | refine m01 ?_ | refine m24 ?_ | refine b_build ?_ | fail))
    | (refine gateD ?_; (first | refine m36 ?_ | refine d_nil ?_ | refine m32 ?_ | refine m31 ?_ | refine m30 ?_ | (refine m28 ?_; (first | refine dg_TT ?_ | refine dg_FF ?_ | refine dg_TF ?_ | refine dg_FT ?_ | refine dg_PT ?_ ?_ | refine dg_PF ?_ ?_ | refine dg_BT ?_ ?_ | refine dg_BF ?_ ?_ | fail)) | (refine m29 ?_; (first | refine dg_TT ?_ | refine dg_FF ?_ | refine dg_TF ?_ | refine dg_FT ?_ | refine dg_PT ?_ ?_ | refine dg_PF ?_ ?_ | refine dg_BT ?_ ?_ | refine dg_BF ?_ ?_ | fail)) | refine m37 ?_ | fail))
    | (refine gateC ?_; (first | refine k_lt ?_ | refine k_fz ?_ | refine k_lb (by (conv => {lhs; whnf}); done) ?_ | refine k_ms ?_ | refine k_bx (by exact rfl) (by exact rfl) ?_ | refine m34 ?_ | refine m35 ?_ | refine m33 ?_ | refine k_mn ?_ | refine m56 ?_ | refine k_mnF ?_ | refine k_mnL (by exact rfl) ?_ | fail))
    | (refine gateT ?_; (first | refine b_thn ?_ | refine b_thr ?_ | refine b_the ?_ | fail))
    | (refine gateX ?_; (first | refine b_seq ?_ | refine b_region ?_ | (refine m06 ?_; (first | refine c_T ?_ | refine c_F ?_ | refine c_P ?_ ?_ | refine c_B ?_ ?_ | fail)) | refine b_ret ?_ | refine b_skip ?_ | refine b_block ?_ | refine b_exit ?_ | refine b_draw (id := 6) [11] [] [(0, .ld true), (2, .lt), (3, .ld true), (5, .lt), (6, .ld true), (7, .lt), (8, .lt), (10, .bx), (1, .mn true), (4, .mn true), (9, .lt), (11, .mn true)] (by kernel_rfl) ?_ | fail))
    | refine m21 ?_
    | refine a_nil ?_
    | (refine gateK ?_; (first | refine c_call (goodref_c _ (aD x l) l.length off rows cols ld (aD_len x l) hI) (OldOk.app (by simp)) ?_ | refine c_call (goodref_c _ (aD q la) la.length ao ar ac al (aD_len q la) hJ) (OldOk.app (by simp)) ?_ | refine c_call (piv_c _ (aI q' p) p (aI_IL _ q' p) hpm) (OldOk.app (by simp)) ?_ | fail))
    | refine m58 ?_
    | refine fk_nil ?_
    | (refine gateQ ?_; refine m05 ?_)
    | (refine gateR ?_; (first | refine m04 ?_ | refine m02 ?_ | refine m03 ?_ | refine rk_nil ?_ | fail))
    | intro _)
  all_goals first
    | (exfalso; contradiction)
    | (exfalso; omega)
    | (exfalso; simp_all; done)
    | (refine rv_old rfl (by simp [mx, mxL, resOne, aOf, aOf1]) ?_; exact rfl)

set_option maxHeartbeats 4000000 in
theorem rchk_3 (H : List (List AV)) (x : Nat × Nat) (l : List Nat) (off rows cols ld : Int) (hI : MI l.length off rows cols ld) (q : Nat × Nat) (la : List Nat) (ao ar ac al : Int) (hJ : MI la.length ao ar ac al) (q' : Nat × Nat) (p : List Int) (hpm : p.length ≤ 2 ^ 30) (Rv : AV) (rl : List Int) (hRl : ∀ H, IL H Rv rl) (Cv : AV) (cl : List Int) (hCl : ∀ H, IL H Cv cl) (hg : GoodP l.length off rows cols ld) (hr : (GoodP la.length ao ar ac al ∧ ar = ac ∧ ar = (p.length : Int) ∧ pivP p)) (hs : ¬ (cols = rows ∧ 1 ≤ rows ∧ rows ≤ 64 ∧ ar = rows ∧ (rl.length : Int) = rows ∧ (cl.length : Int) = rows)) :
    CSpec Try.prog 9 [mt (aD x l) off rows cols ld, .agg [aD q la, .int .i64 ao, .int .i64 ar, .int .i64 ac, .int .i64 al, aI q' p], Rv, Cv] H (.tup [(.agg [.int .i64 0, .int .i64 0, .slnil, .int .i64 0, .int .i64 0, .slnil, .slnil, .slnil, .slnil]), .int .i64 3]) H := by
  obtain ⟨hm, ho1, ho2, hr1, hr2, hc1, hc2, hl1, hl2⟩ := id hI
  obtain ⟨hm', ho1', ho2', hr1', hr2', hc1', hc2', hl1', hl2'⟩ := id hJ
  refine .mk (fun args w => Try.call9 args w) (Spec.intro' (fn := Try.f9) Try.func9 rfl (by kernel_rfl) (by simp) false [] (draw := drawX Try.prog ⟨false, _, []⟩) dOk ?_)
  simp only [argE, Nat.reduceAdd]
  repeat' (first
    | (refine gateE ?_; (first | refine b_c0 ?_ | refine b_nil ?_ | refine m13 ?_ | refine m12 ?_ | refine m11 ?_ | (refine m10 ?_; (first | refine g_TT ?_ | refine g_FF ?_ | refine g_TF ?_ | refine g_FT ?_ | refine g_PT ?_ ?_ | refine g_PF ?_ ?_ | refine g_BT ?_ ?_ | refine g_BF ?_ ?_ | fail)) | (refine m09 ?_; (first | refine g_TT ?_ | refine g_FF ?_ | refine g_TF ?_ | refine g_FT ?_ | refine g_PT ?_ ?_ | refine g_PF ?_ ?_ | refine g_BT ?_ ?_ | refine g_BF ?_ ?_ | fail)) | refine m38 ?_ | fail))
    | (refine gateO ?_; (first | refine m14 ?_ | (refine m17 ?_; first | refine m19 ?_ | refine m18 ?_) | (refine m07 ?_; (first | refine m15 ?_ | refine m16 ?_ | fail)) | refine b_lenA (by (conv => {lhs; whnf}); done) (by exact (hRl []).len) ?_ | refine b_lenA (by (conv => {lhs; whnf}); done) (by exact (hCl []).len) ?_ | refine b_lenA (by (conv => {lhs; whnf}); done) (by exact (aI_IL [] q' p).len) ?_ | (refine m00 ?_; (first | refine m54 ?_ | refine m55 ?_ | refine v_neP ?_ | refine m47 ?_ | refine m48 ?_ | refine m49 ?_ | refine m50 ?_ | refine v_nT ?_ | refine v_nF ?_ | refine v_nP ?_ | refine v_k ?_ | refine m51 ?_ | fail)) | (refine m22 ?_; (first | refine m26 ?_ | refine m27 ?_ | fail)) | refine m42 ?_ | refine b_assignI ?_ | refine b_assignN ?_ | refine m08 ?_ | (refine m20 ?_; (first | refine m54 ?_ | refine m55 ?_ | refine v_neP ?_ | refine m47 ?_ | refine m48 ?_ | refine m49 ?_ | refine m50 ?_ | refine v_nT ?_ | refine v_nF ?_ | refine v_nP ?_ | refine v_k ?_ | refine m51 ?_ | fail)) | refine b_callB ?_ | refine b_lenA (by (conv => {lhs; whnf}); done) (by first | rfl | assumption) ?_ | refine m25 ?_ | refine m01 ?_ | refine m24 ?_ | refine b_build ?_ | fail))
    | (refine gateD ?_; (first | refine m36 ?_ | refine d_nil ?_ | refine m32 ?_ | refine m31 ?_ | refine m30 ?_ | (refine m28 ?_; (first | refine dg_TT ?_ | refine dg_FF ?_ | refine dg_TF ?_ | refine dg_FT ?_ | refine dg_PT ?_ ?_ | refine dg_PF ?_ ?_ | refine dg_BT ?_ ?_ | refine dg_BF ?_ ?_ | fail)) | (refine m29 ?_; (first | refine dg_TT ?_ | refine dg_FF ?_ | refine dg_TF ?_ | refine dg_FT ?_ | refine dg_PT ?_ ?_ | refine dg_PF ?_ ?_ | refine dg_BT ?_ ?_ | refine dg_BF ?_ ?_ | fail)) | refine m37 ?_ | fail))
    | (refine gateC ?_; (first | refine k_lt ?_ | refine k_fz ?_ | refine k_lb (by (conv => {lhs; whnf}); done) ?_ | refine k_ms ?_ | refine k_bx (by exact rfl) (by exact rfl) ?_ | refine m34 ?_ | refine m35 ?_ | refine m33 ?_ | refine k_mn ?_ | refine m56 ?_ | refine k_mnF ?_ | refine k_mnL (by exact rfl) ?_ | fail))
    | (refine gateT ?_; (first | refine b_thn ?_ | refine b_thr ?_ | refine b_the ?_ | fail))
    | (refine gateX ?_; (first | refine b_seq ?_ | refine b_region ?_ | (refine m06 ?_; (first | refine c_T ?_ | refine c_F ?_ | refine c_P ?_ ?_ | refine c_B ?_ ?_ | fail)) | refine b_ret ?_ | refine b_skip ?_ | refine b_block ?_ | refine b_exit ?_ | refine b_draw (id := 6) [11] [] [(0, .ld true), (2, .lt), (3, .ld true), (5, .lt), (6, .ld true), (7, .lt), (8, .lt), (10, .bx), (1, .mn true), (4, .mn true), (9, .lt), (11, .mn true)] (by kernel_rfl) ?_ | fail))
    | refine m21 ?_
    | refine a_nil ?_
    | (refine gateK ?_; (first | refine c_call (goodref_c _ (aD x l) l.length off rows cols ld (aD_len x l) hI) (OldOk.app (by simp)) ?_ | refine c_call (goodref_c _ (aD q la) la.length ao ar ac al (aD_len q la) hJ) (OldOk.app (by simp)) ?_ | refine c_call (piv_c _ (aI q' p) p (aI_IL _ q' p) hpm) (OldOk.app (by simp)) ?_ | fail))
    | refine m58 ?_
    | refine fk_nil ?_
    | (refine gateQ ?_; refine m05 ?_)
    | (refine gateR ?_; (first | refine m04 ?_ | refine m02 ?_ | refine m03 ?_ | refine rk_nil ?_ | fail))
    | intro _)
  all_goals first
    | (exfalso; contradiction)
    | (exfalso; omega)
    | (exfalso; simp_all; done)
    | (refine rv_old rfl (by simp [mx, mxL, resOne, aOf, aOf1]) ?_; exact rfl)

set_option maxHeartbeats 4000000 in
theorem rchk_0 (H : List (List AV)) (x : Nat × Nat) (l : List Nat) (off ld : Int) (n : Nat) (hI : MI l.length off n n ld) (hG : GoodP l.length off n n ld) (q : Nat × Nat) (la : List Nat) (ao al : Int) (hJ : MI la.length ao n n al) (hGa : GoodP la.length ao n n al) (q' : Nat × Nat) (p : List Int) (hpl : p.length = n) (hpv : pivP p) (kr kc : Nat × Nat) (rl cl : List Int) (hrl : rl.length = n) (hcl : cl.length = n) (hn1 : 1 ≤ n) (hn : n ≤ 64) (hz : ∀ k, k < n → feq ((mel la ao al) k k) 0 = false) :
    CSpec Try.prog 9 [mt (aD x l) off (n : Int) (n : Int) ld, .agg [aD q la, .int .i64 ao, .int .i64 (n : Int), .int .i64 (n : Int), .int .i64 al, aI q' p], (aI kr rl), (aI kc cl)] H (.tup [(.agg [.int .i64 (n : Int), .int .i64 (n : Int), .sl none (n * n) (fl (rmA (mel l off ld) n n)), .int .i64 (n : Int), .int .i64 (n : Int), .sl none (n * n) (fl (rmA (mel la ao al) n n)), aI q' p, (aI kr rl), (aI kc cl)]), .int .i64 0]) H := by
  obtain ⟨hm, ho1, ho2, hr1, hr2, hc1, hc2, hl1, hl2⟩ := id hI
  obtain ⟨hm', ho1', ho2', hr1', hr2', hc1', hc2', hl1', hl2'⟩ := id hJ
  refine .mk (fun args w => Try.call9 args w) (Spec.intro' (fn := Try.f9) Try.func9 rfl (by kernel_rfl) (by simp) false [] (draw := drawX Try.prog ⟨false, _, []⟩) dOk ?_)
  simp only [argE, Nat.reduceAdd]
  repeat' (first
    | (refine gateE ?_; (first | refine b_c0 ?_ | refine b_nil ?_ | refine m13 ?_ | refine m12 ?_ | refine m11 ?_ | (refine m10 ?_; (first | refine g_TT ?_ | refine g_FF ?_ | refine g_TF ?_ | refine g_FT ?_ | refine g_PT ?_ ?_ | refine g_PF ?_ ?_ | refine g_BT ?_ ?_ | refine g_BF ?_ ?_ | fail)) | (refine m09 ?_; (first | refine g_TT ?_ | refine g_FF ?_ | refine g_TF ?_ | refine g_FT ?_ | refine g_PT ?_ ?_ | refine g_PF ?_ ?_ | refine g_BT ?_ ?_ | refine g_BF ?_ ?_ | fail)) | refine m38 ?_ | fail))
    | (refine gateO ?_; (first | refine m14 ?_ | (refine m17 ?_; first | refine m19 ?_ | refine m18 ?_) | (refine m07 ?_; (first | refine m15 ?_ | refine m16 ?_ | fail)) | refine b_lenA (by (conv => {lhs; whnf}); done) (by exact (aI_IL [] kr rl).len) ?_ | refine b_lenA (by (conv => {lhs; whnf}); done) (by exact (aI_IL [] kc cl).len) ?_ | refine b_lenA (by (conv => {lhs; whnf}); done) (by exact (aI_IL [] q' p).len) ?_ | (refine m00 ?_; (first | refine m54 ?_ | refine m55 ?_ | refine v_neP ?_ | refine m47 ?_ | refine m48 ?_ | refine m49 ?_ | refine m50 ?_ | refine v_nT ?_ | refine v_nF ?_ | refine v_nP ?_ | refine v_k ?_ | refine m51 ?_ | fail)) | (refine m22 ?_; (first | refine m26 ?_ | refine m27 ?_ | fail)) | refine m42 ?_ | refine b_assignI ?_ | refine b_assignN ?_ | refine m08 ?_ | (refine m20 ?_; (first | refine m54 ?_ | refine m55 ?_ | refine v_neP ?_ | refine m47 ?_ | refine m48 ?_ | refine m49 ?_ | refine m50 ?_ | refine v_nT ?_ | refine v_nF ?_ | refine v_nP ?_ | refine v_k ?_ | refine m51 ?_ | fail)) | refine b_callB ?_ | refine b_lenA (by (conv => {lhs; whnf}); done) (by first | rfl | assumption) ?_ | refine m25 ?_ | refine m01 ?_ | refine m24 ?_ | refine b_build ?_ | fail))
    | (refine gateD ?_; (first | refine m36 ?_ | refine d_nil ?_ | refine m32 ?_ | refine m31 ?_ | refine m30 ?_ | (refine m28 ?_; (first | refine dg_TT ?_ | refine dg_FF ?_ | refine dg_TF ?_ | refine dg_FT ?_ | refine dg_PT ?_ ?_ | refine dg_PF ?_ ?_ | refine dg_BT ?_ ?_ | refine dg_BF ?_ ?_ | fail)) | (refine m29 ?_; (first | refine dg_TT ?_ | refine dg_FF ?_ | refine dg_TF ?_ | refine dg_FT ?_ | refine dg_PT ?_ ?_ | refine dg_PF ?_ ?_ | refine dg_BT ?_ ?_ | refine dg_BF ?_ ?_ | fail)) | refine m37 ?_ | fail))
    | (refine gateC ?_; (first | refine k_lt ?_ | refine k_fz ?_ | refine k_lb (by (conv => {lhs; whnf}); done) ?_ | refine k_ms ?_ | refine k_bx (by exact rfl) (by exact rfl) ?_ | refine m34 ?_ | refine m35 ?_ | refine m33 ?_ | refine k_mn ?_ | refine m56 ?_ | refine k_mnF ?_ | refine k_mnL (by exact rfl) ?_ | fail))
    | (refine gateT ?_; (first | refine b_thn ?_ | refine b_thr ?_ | refine b_the ?_ | fail))
    | (refine gateX ?_; (first | refine b_seq ?_ | refine b_region ?_ | (refine m06 ?_; (first | refine c_T ?_ | refine c_F ?_ | refine c_P ?_ ?_ | refine c_B ?_ ?_ | fail)) | refine b_ret ?_ | refine b_skip ?_ | refine b_block ?_ | refine b_exit ?_ | refine b_draw (id := 6) [11] [] [(0, .ld true), (2, .lt), (3, .ld true), (5, .lt), (6, .ld true), (7, .lt), (8, .lt), (10, .bx), (1, .mn true), (4, .mn true), (9, .lt), (11, .mn true)] (by kernel_rfl) ?_ | fail))
    | refine m21 ?_
    | refine a_nil ?_
    | (refine gateK ?_; (first | refine c_call (goodref_c _ (aD x l) l.length off n n ld (aD_len x l) hI) (OldOk.app (by simp)) ?_ | refine c_call (goodref_c _ (aD q la) la.length ao n n al (aD_len q la) hJ) (OldOk.app (by simp)) ?_ | refine c_call (piv_t _ (aI q' p) p (aI_IL _ q' p) (by omega) hpv) (OldOk.app (by simp)) ?_ | refine c_call (of_n _ (aD x l) l (aD_FL _ x l) off ld n hI hG hn) (OldOk.app (by simp)) ?_ | refine c_call (of_n _ (aD q la) la (aD_FL _ q la) ao al n hJ hGa hn) (OldOk.app (by simp)) ?_ | refine c_call (zero_f _ _ (mel la ao al) n (FLz _ _ _ (by simp)) hn hz) (OldOk.app (by simp)) ?_ | fail))
    | refine m58 ?_
    | refine fk_nil ?_
    | (refine gateQ ?_; refine m05 ?_)
    | (refine gateR ?_; (first | refine m04 ?_ | refine m02 ?_ | refine m03 ?_ | refine rk_nil ?_ | fail))
    | intro _)
  all_goals first
    | (exfalso; contradiction)
    | (exfalso; omega)
    | (exfalso; simp_all; done)
    | (refine rv_old rfl (by simp [mx, mxL, resOne, aOf, aOf1, mxL_fl, mxL_il, aI]) ?_; exact rfl)

set_option maxHeartbeats 4000000 in
theorem rchk_4 (H : List (List AV)) (x : Nat × Nat) (l : List Nat) (off ld : Int) (n : Nat) (hI : MI l.length off n n ld) (hG : GoodP l.length off n n ld) (q : Nat × Nat) (la : List Nat) (ao al : Int) (hJ : MI la.length ao n n al) (hGa : GoodP la.length ao n n al) (q' : Nat × Nat) (p : List Int) (hpl : p.length = n) (hpv : pivP p) (kr kc : Nat × Nat) (rl cl : List Int) (hrl : rl.length = n) (hcl : cl.length = n) (hn1 : 1 ≤ n) (hn : n ≤ 64) (z : Nat) (hzn : z < n) (hz : ∀ k, k < z → feq ((mel la ao al) k k) 0 = false) (hz1 : feq ((mel la ao al) z z) 0 = true) :
    CSpec Try.prog 9 [mt (aD x l) off (n : Int) (n : Int) ld, .agg [aD q la, .int .i64 ao, .int .i64 (n : Int), .int .i64 (n : Int), .int .i64 al, aI q' p], (aI kr rl), (aI kc cl)] H (.tup [(.agg [.int .i64 0, .int .i64 0, .slnil, .int .i64 0, .int .i64 0, .slnil, .slnil, .slnil, .slnil]), .int .i64 4]) H := by
  obtain ⟨hm, ho1, ho2, hr1, hr2, hc1, hc2, hl1, hl2⟩ := id hI
  obtain ⟨hm', ho1', ho2', hr1', hr2', hc1', hc2', hl1', hl2'⟩ := id hJ
  refine .mk (fun args w => Try.call9 args w) (Spec.intro' (fn := Try.f9) Try.func9 rfl (by kernel_rfl) (by simp) false [] (draw := drawX Try.prog ⟨false, _, []⟩) dOk ?_)
  simp only [argE, Nat.reduceAdd]
  repeat' (first
    | (refine gateE ?_; (first | refine b_c0 ?_ | refine b_nil ?_ | refine m13 ?_ | refine m12 ?_ | refine m11 ?_ | (refine m10 ?_; (first | refine g_TT ?_ | refine g_FF ?_ | refine g_TF ?_ | refine g_FT ?_ | refine g_PT ?_ ?_ | refine g_PF ?_ ?_ | refine g_BT ?_ ?_ | refine g_BF ?_ ?_ | fail)) | (refine m09 ?_; (first | refine g_TT ?_ | refine g_FF ?_ | refine g_TF ?_ | refine g_FT ?_ | refine g_PT ?_ ?_ | refine g_PF ?_ ?_ | refine g_BT ?_ ?_ | refine g_BF ?_ ?_ | fail)) | refine m38 ?_ | fail))
    | (refine gateO ?_; (first | refine m14 ?_ | (refine m17 ?_; first | refine m19 ?_ | refine m18 ?_) | (refine m07 ?_; (first | refine m15 ?_ | refine m16 ?_ | fail)) | refine b_lenA (by (conv => {lhs; whnf}); done) (by exact (aI_IL [] kr rl).len) ?_ | refine b_lenA (by (conv => {lhs; whnf}); done) (by exact (aI_IL [] kc cl).len) ?_ | refine b_lenA (by (conv => {lhs; whnf}); done) (by exact (aI_IL [] q' p).len) ?_ | (refine m00 ?_; (first | refine m54 ?_ | refine m55 ?_ | refine v_neP ?_ | refine m47 ?_ | refine m48 ?_ | refine m49 ?_ | refine m50 ?_ | refine v_nT ?_ | refine v_nF ?_ | refine v_nP ?_ | refine v_k ?_ | refine m51 ?_ | fail)) | (refine m22 ?_; (first | refine m26 ?_ | refine m27 ?_ | fail)) | refine m42 ?_ | refine b_assignI ?_ | refine b_assignN ?_ | refine m08 ?_ | (refine m20 ?_; (first | refine m54 ?_ | refine m55 ?_ | refine v_neP ?_ | refine m47 ?_ | refine m48 ?_ | refine m49 ?_ | refine m50 ?_ | refine v_nT ?_ | refine v_nF ?_ | refine v_nP ?_ | refine v_k ?_ | refine m51 ?_ | fail)) | refine b_callB ?_ | refine b_lenA (by (conv => {lhs; whnf}); done) (by first | rfl | assumption) ?_ | refine m25 ?_ | refine m01 ?_ | refine m24 ?_ | refine b_build ?_ | fail))
    | (refine gateD ?_; (first | refine m36 ?_ | refine d_nil ?_ | refine m32 ?_ | refine m31 ?_ | refine m30 ?_ | (refine m28 ?_; (first | refine dg_TT ?_ | refine dg_FF ?_ | refine dg_TF ?_ | refine dg_FT ?_ | refine dg_PT ?_ ?_ | refine dg_PF ?_ ?_ | refine dg_BT ?_ ?_ | refine dg_BF ?_ ?_ | fail)) | (refine m29 ?_; (first | refine dg_TT ?_ | refine dg_FF ?_ | refine dg_TF ?_ | refine dg_FT ?_ | refine dg_PT ?_ ?_ | refine dg_PF ?_ ?_ | refine dg_BT ?_ ?_ | refine dg_BF ?_ ?_ | fail)) | refine m37 ?_ | fail))
    | (refine gateC ?_; (first | refine k_lt ?_ | refine k_fz ?_ | refine k_lb (by (conv => {lhs; whnf}); done) ?_ | refine k_ms ?_ | refine k_bx (by exact rfl) (by exact rfl) ?_ | refine m34 ?_ | refine m35 ?_ | refine m33 ?_ | refine k_mn ?_ | refine m56 ?_ | refine k_mnF ?_ | refine k_mnL (by exact rfl) ?_ | fail))
    | (refine gateT ?_; (first | refine b_thn ?_ | refine b_thr ?_ | refine b_the ?_ | fail))
    | (refine gateX ?_; (first | refine b_seq ?_ | refine b_region ?_ | (refine m06 ?_; (first | refine c_T ?_ | refine c_F ?_ | refine c_P ?_ ?_ | refine c_B ?_ ?_ | fail)) | refine b_ret ?_ | refine b_skip ?_ | refine b_block ?_ | refine b_exit ?_ | refine b_draw (id := 6) [11] [] [(0, .ld true), (2, .lt), (3, .ld true), (5, .lt), (6, .ld true), (7, .lt), (8, .lt), (10, .bx), (1, .mn true), (4, .mn true), (9, .lt), (11, .mn true)] (by kernel_rfl) ?_ | fail))
    | refine m21 ?_
    | refine a_nil ?_
    | (refine gateK ?_; (first | refine c_call (goodref_c _ (aD x l) l.length off n n ld (aD_len x l) hI) (OldOk.app (by simp)) ?_ | refine c_call (goodref_c _ (aD q la) la.length ao n n al (aD_len q la) hJ) (OldOk.app (by simp)) ?_ | refine c_call (piv_t _ (aI q' p) p (aI_IL _ q' p) (by omega) hpv) (OldOk.app (by simp)) ?_ | refine c_call (of_n _ (aD x l) l (aD_FL _ x l) off ld n hI hG hn) (OldOk.app (by simp)) ?_ | refine c_call (of_n _ (aD q la) la (aD_FL _ q la) ao al n hJ hGa hn) (OldOk.app (by simp)) ?_ | refine c_call (zero_t _ _ (mel la ao al) n (FLz _ _ _ (by simp)) hn z hzn hz hz1) (OldOk.app (by simp)) ?_ | fail))
    | refine m58 ?_
    | refine fk_nil ?_
    | (refine gateQ ?_; refine m05 ?_)
    | (refine gateR ?_; (first | refine m04 ?_ | refine m02 ?_ | refine m03 ?_ | refine rk_nil ?_ | fail))
    | intro _)
  all_goals first
    | (exfalso; contradiction)
    | (exfalso; omega)
    | (exfalso; simp_all; done)
    | (refine rv_old rfl (by simp [mx, mxL, resOne, aOf, aOf1, mxL_fl, mxL_il, aI]) ?_; exact rfl)

set_option maxHeartbeats 4000000 in
theorem rsv_c (H : List (List AV)) (x : Nat × Nat) (l : List Nat) (off ld : Int) (n : Nat) (hI : MI l.length off n n ld) (hG : GoodP l.length off n n ld) (q : Nat × Nat) (la : List Nat) (ao al : Int) (hJ : MI la.length ao n n al) (hGa : GoodP la.length ao n n al) (q' : Nat × Nat) (p : List Int) (hpl : p.length = n) (hpv : pivP p) (Rv : AV) (rl : List Int) (hRl : ∀ H, IL H Rv rl) (Cv : AV) (cl : List Int) (hCl : ∀ H, IL H Cv cl) (hrl : rl.length = n) (hcl : cl.length = n) (hn1 : 1 ≤ n) (hn : n ≤ 64) (hz : ∀ k, k < n → feq ((mel la ao al) k k) 0 = false) (X : AV) (xl : List Nat) (hX : ∀ H', FL H' X xl) (hxl : xl.length = n) :
    CSpec Try.prog 15 [(.agg [.int .i64 (n : Int), .int .i64 (n : Int), .sl none (n * n) (fl (rmA (mel l off ld) n n)), .int .i64 (n : Int), .int .i64 (n : Int), .sl none (n * n) (fl (rmA (mel la ao al) n n)), aI q' p, Rv, Cv]), X] H (.sl none n (fl (rml (shF (up2 (mel la ao al) (lo1 (mel la ao al) (tkF p (shF (fun i => xl.getD i 0) rl n) n) n) n n) cl n) n))) H := by
  refine .mk (fun args w => Try.call15 args w) (Spec.intro' (fn := Try.f15) Try.func15 rfl (by kernel_rfl) (by simp) false [] (draw := drawX Try.prog ⟨false, _, []⟩) dOk ?_)
  simp only [argE, Nat.reduceAdd]
  repeat' (first
    | (refine gateE ?_; (first | refine b_c0 ?_ | refine b_nil ?_ | fail))
    | (refine gateO ?_; (first | refine m14 ?_ | (refine m17 ?_; first | refine m19 ?_ | refine m18 ?_) | (refine m07 ?_; (first | refine m15 ?_ | refine m16 ?_ | fail)) | refine m42 ?_ | refine b_assignI ?_ | refine b_assignN ?_ | refine m08 ?_ | refine b_callB ?_ | refine m23 ?_ | refine m01 ?_ | fail))
    | (refine gateD ?_; (first | refine m36 ?_ | refine d_nil ?_ | fail))
    | (refine gateC ?_; (first | refine k_lt ?_ | refine k_fz ?_ | refine k_lb (by (conv => {lhs; whnf}); done) ?_ | refine k_ms ?_ | refine k_bx (by exact rfl) (by exact rfl) ?_ | refine m34 ?_ | refine m35 ?_ | refine m33 ?_ | refine k_mn ?_ | refine m56 ?_ | refine k_mnF ?_ | refine k_mnL (by exact rfl) ?_ | fail))
    | (refine gateT ?_; (first | refine b_thn ?_ | refine b_thr ?_ | refine b_the ?_ | fail))
    | (refine gateX ?_; (first | refine b_seq ?_ | refine b_region ?_ | (refine m06 ?_; (first | refine c_T ?_ | refine c_F ?_ | refine c_P ?_ ?_ | refine c_B ?_ ?_ | fail)) | refine b_ret ?_ | refine b_skip ?_ | refine b_block ?_ | refine b_exit ?_ | refine b_draw (id := 1) [] [] [(0, .lt), (1, .ld true), (2, .lt), (3, .ld true), (4, .lt), (5, .lt), (6, .ld true), (7, .mn true), (8, .mn true), (9, .lt), (10, .lt), (11, .lt), (12, .lt), (13, .lt)] (by kernel_rfl) ?_ | fail))
    | refine m21 ?_
    | refine a_nil ?_
    | (refine gateK ?_; (first | refine c_call (rshift_x _ X xl (hX _) n hxl Rv rl (hRl _) hrl hn) (OldOk.app (by simp)) ?_ | refine c_call (rslv_0 _ _ (shF (fun i => xl.getD i 0) rl n) n (FLz _ _ _ (by simp)) (by omega) _ (mel la ao al) (FLz _ _ _ (by simp)) (aI q' p) p (aI_IL _ q' p) hpl hpv hz) (OldOk.app (by simp)) ?_ | refine c_call (rshift_c _ _ (up2 (mel la ao al) (lo1 (mel la ao al) (tkF p (shF (fun i => xl.getD i 0) rl n) n) n) n n) n (FLz _ _ _ (by simp)) Cv cl (hCl _) hcl hn) (OldOk.app (by simp)) ?_ | fail))
    | (refine gateQ ?_; refine m05 ?_)
    | (refine gateR ?_; (first | refine m04 ?_ | refine m02 ?_ | refine m03 ?_ | refine rk_nil ?_ | fail))
    | intro _)
  all_goals first
    | (refine rv_old rfl (by simp [mx, mxL, resOne, aOf, aOf1, mxL_fl]) ?_; exact rfl)

set_option maxHeartbeats 4000000 in
theorem rst_c (H : List (List AV)) (x : Nat × Nat) (l : List Nat) (off ld : Int) (n : Nat) (hI : MI l.length off n n ld) (hG : GoodP l.length off n n ld) (q : Nat × Nat) (la : List Nat) (ao al : Int) (hJ : MI la.length ao n n al) (hGa : GoodP la.length ao n n al) (q' : Nat × Nat) (p : List Int) (hpl : p.length = n) (hpv : pivP p) (Rv : AV) (rl : List Int) (hRl : ∀ H, IL H Rv rl) (Cv : AV) (cl : List Int) (hCl : ∀ H, IL H Cv cl) (hrl : rl.length = n) (hcl : cl.length = n) (hn1 : 1 ≤ n) (hn : n ≤ 64) (hz : ∀ k, k < n → feq ((mel la ao al) k k) 0 = false) (X : AV) (xl : List Nat) (hX : ∀ H', FL H' X xl) (hxl : xl.length = n) :
    CSpec Try.prog 16 [(.agg [.int .i64 (n : Int), .int .i64 (n : Int), .sl none (n * n) (fl (rmA (mel l off ld) n n)), .int .i64 (n : Int), .int .i64 (n : Int), .sl none (n * n) (fl (rmA (mel la ao al) n n)), aI q' p, Rv, Cv]), X] H (.sl none n (fl (rml (shF (tkB p (lt3 (mel la ao al) (ut4 (mel la ao al) (shF (fun i => xl.getD i 0) cl n) n) n n) n) rl n) n))) H := by
  refine .mk (fun args w => Try.call16 args w) (Spec.intro' (fn := Try.f16) Try.func16 rfl (by kernel_rfl) (by simp) false [] (draw := drawX Try.prog ⟨false, _, []⟩) dOk ?_)
  simp only [argE, Nat.reduceAdd]
  repeat' (first
    | (refine gateE ?_; (first | refine b_c0 ?_ | refine b_nil ?_ | fail))
    | (refine gateO ?_; (first | refine m14 ?_ | (refine m17 ?_; first | refine m19 ?_ | refine m18 ?_) | (refine m07 ?_; (first | refine m15 ?_ | refine m16 ?_ | fail)) | refine m42 ?_ | refine b_assignI ?_ | refine b_assignN ?_ | refine m08 ?_ | refine b_callB ?_ | refine m23 ?_ | refine m01 ?_ | fail))
    | (refine gateD ?_; (first | refine m36 ?_ | refine d_nil ?_ | fail))
    | (refine gateC ?_; (first | refine k_lt ?_ | refine k_fz ?_ | refine k_lb (by (conv => {lhs; whnf}); done) ?_ | refine k_ms ?_ | refine k_bx (by exact rfl) (by exact rfl) ?_ | refine m34 ?_ | refine m35 ?_ | refine m33 ?_ | refine k_mn ?_ | refine m56 ?_ | refine k_mnF ?_ | refine k_mnL (by exact rfl) ?_ | fail))
    | (refine gateT ?_; (first | refine b_thn ?_ | refine b_thr ?_ | refine b_the ?_ | fail))
    | (refine gateX ?_; (first | refine b_seq ?_ | refine b_region ?_ | (refine m06 ?_; (first | refine c_T ?_ | refine c_F ?_ | refine c_P ?_ ?_ | refine c_B ?_ ?_ | fail)) | refine b_ret ?_ | refine b_skip ?_ | refine b_block ?_ | refine b_exit ?_ | refine b_draw (id := 1) [] [] [(0, .lt), (1, .ld true), (2, .lt), (3, .ld true), (4, .lt), (5, .lt), (6, .ld true), (7, .mn true), (8, .mn true), (9, .lt), (10, .lt), (11, .lt), (12, .lt), (13, .lt)] (by kernel_rfl) ?_ | fail))
    | refine m21 ?_
    | refine a_nil ?_
    | (refine gateK ?_; (first | refine c_call (rshift_x _ X xl (hX _) n hxl Cv cl (hCl _) hcl hn) (OldOk.app (by simp)) ?_ | refine c_call (rslt_0 _ _ (shF (fun i => xl.getD i 0) cl n) n (FLz _ _ _ (by simp)) (by omega) _ (mel la ao al) (FLz _ _ _ (by simp)) (aI q' p) p (aI_IL _ q' p) hpl hpv hz) (OldOk.app (by simp)) ?_ | refine c_call (rshift_c _ _ (tkB p (lt3 (mel la ao al) (ut4 (mel la ao al) (shF (fun i => xl.getD i 0) cl n) n) n n) n) n (FLz _ _ _ (by simp)) Rv rl (hRl _) hrl hn) (OldOk.app (by simp)) ?_ | fail))
    | (refine gateQ ?_; refine m05 ?_)
    | (refine gateR ?_; (first | refine m04 ?_ | refine m02 ?_ | refine m03 ?_ | refine rk_nil ?_ | fail))
    | intro _)
  all_goals first
    | (refine rv_old rfl (by simp [mx, mxL, resOne, aOf, aOf1, mxL_fl]) ?_; exact rfl)

set_option maxHeartbeats 4000000 in
theorem great_t (H : List (List AV)) (x : Nat × Nat) (l : List Nat) (off rows cols ld : Int) (hI : MI l.length off rows cols ld) (q : Nat × Nat) (la : List Nat) (ao ar ac al : Int) (hJ : MI la.length ao ar ac al) (q' : Nat × Nat) (p : List Int) (hpm : p.length ≤ 9223372036854775807) (Rv : AV) (rl : List Int) (hRl : ∀ H, IL H Rv rl) (Cv : AV) (cl : List Int) (hCl : ∀ H, IL H Cv cl) (hrm : rl.length ≤ 9223372036854775807) (hcm : cl.length ≤ 9223372036854775807) (hs : ¬ (l.length ≤ 1000 ∧ rows ≤ 20 ∧ cols ≤ 20 ∧ la.length ≤ 1000 ∧ ar ≤ 20 ∧ ac ≤ 20 ∧ p.length ≤ 60 ∧ rl.length ≤ 60 ∧ cl.length ≤ 60)) :
    CSpec Try.prog 8 [mt (aD x l) off rows cols ld, .agg [aD q la, .int .i64 ao, .int .i64 ar, .int .i64 ac, .int .i64 al, aI q' p], Rv, Cv] H (.bool true) H := by
  obtain ⟨hm, ho1, ho2, hr1, hr2, hc1, hc2, hl1, hl2⟩ := id hI
  obtain ⟨hm', ho1', ho2', hr1', hr2', hc1', hc2', hl1', hl2'⟩ := id hJ
  refine .mk (fun args w => Try.call8 args w) (Spec.intro' (fn := Try.f8) Try.func8 rfl (by kernel_rfl) (by simp) false [] (draw := drawX Try.prog ⟨false, _, []⟩) dOk ?_)
  simp only [argE, Nat.reduceAdd]
  repeat' (first
    | (refine gateE ?_; (first | refine b_c0 ?_ | refine b_nil ?_ | refine m13 ?_ | refine m12 ?_ | refine m11 ?_ | (refine m10 ?_; (first | refine g_TT ?_ | refine g_FF ?_ | refine g_TF ?_ | refine g_FT ?_ | refine g_PT ?_ ?_ | refine g_PF ?_ ?_ | refine g_BT ?_ ?_ | refine g_BF ?_ ?_ | fail)) | (refine m09 ?_; (first | refine g_TT ?_ | refine g_FF ?_ | refine g_TF ?_ | refine g_FT ?_ | refine g_PT ?_ ?_ | refine g_PF ?_ ?_ | refine g_BT ?_ ?_ | refine g_BF ?_ ?_ | fail)) | refine m38 ?_ | fail))
    | (refine gateO ?_; (first | refine m14 ?_ | (refine m17 ?_; first | refine m19 ?_ | refine m18 ?_) | (refine m07 ?_; (first | refine m15 ?_ | refine m16 ?_ | fail)) | refine b_lenA (by (conv => {lhs; whnf}); done) (by exact (hRl []).len) ?_ | refine b_lenA (by (conv => {lhs; whnf}); done) (by exact (hCl []).len) ?_ | refine b_lenA (by (conv => {lhs; whnf}); done) (by exact (aI_IL [] q' p).len) ?_ | (refine m00 ?_; (first | refine m47 ?_ | refine m48 ?_ | refine m49 ?_ | refine m50 ?_ | refine v_k ?_ | refine m51 ?_ | fail)) | (refine m22 ?_; (first | refine m26 ?_ | refine m27 ?_ | fail)) | refine m42 ?_ | refine b_assignI ?_ | refine b_assignN ?_ | refine m08 ?_ | refine b_callB ?_ | refine b_lenA (by (conv => {lhs; whnf}); done) (by first | rfl | assumption) ?_ | refine m01 ?_ | fail))
    | (refine gateT ?_; (first | refine b_thn ?_ | refine b_thr ?_ | refine b_the ?_ | fail))
    | (refine gateX ?_; (first | refine b_seq ?_ | refine b_region ?_ | (refine m06 ?_; (first | refine c_T ?_ | refine c_F ?_ | refine c_P ?_ ?_ | refine c_B ?_ ?_ | fail)) | refine b_ret ?_ | refine b_skip ?_ | refine b_block ?_ | refine b_exit ?_ | fail))
    | refine m21 ?_
    | refine a_nil ?_
    | (refine gateK ?_; (first | refine c_call (greatm_c _ (aD x l) l (aD_FL _ x l) off rows cols ld hI) (OldOk.app (by simp)) ?_ | refine c_call (greatm_c _ (aD q la) la (aD_FL _ q la) ao ar ac al hJ) (OldOk.app (by simp)) ?_ | fail))
    | (refine gateQ ?_; refine m05 ?_)
    | (refine gateR ?_; (first | refine m04 ?_ | refine m02 ?_ | refine m03 ?_ | refine rk_nil ?_ | fail))
    | intro _)
  all_goals first
    | (exfalso; contradiction)
    | (exfalso; omega)
    | (exfalso; simp_all; done)
    | (refine rv_old rfl (by simp [mx, mxL, resOne, aOf, aOf1]) ?_; exact rfl)
    | (refine rv_old rfl (by simp [mx, mxL, resOne, aOf, aOf1]) ?_; simp only [resOne, List.nil_append]; congr 1; simp; omega)

set_option maxHeartbeats 4000000 in
theorem great_f (H : List (List AV)) (x : Nat × Nat) (l : List Nat) (off rows cols ld : Int) (hI : MI l.length off rows cols ld) (q : Nat × Nat) (la : List Nat) (ao ar ac al : Int) (hJ : MI la.length ao ar ac al) (q' : Nat × Nat) (p : List Int) (hpm : p.length ≤ 9223372036854775807) (Rv : AV) (rl : List Int) (hRl : ∀ H, IL H Rv rl) (Cv : AV) (cl : List Int) (hCl : ∀ H, IL H Cv cl) (hrm : rl.length ≤ 9223372036854775807) (hcm : cl.length ≤ 9223372036854775807) (hs : (l.length ≤ 1000 ∧ rows ≤ 20 ∧ cols ≤ 20 ∧ la.length ≤ 1000 ∧ ar ≤ 20 ∧ ac ≤ 20 ∧ p.length ≤ 60 ∧ rl.length ≤ 60 ∧ cl.length ≤ 60)) :
    CSpec Try.prog 8 [mt (aD x l) off rows cols ld, .agg [aD q la, .int .i64 ao, .int .i64 ar, .int .i64 ac, .int .i64 al, aI q' p], Rv, Cv] H (.bool false) H := by
  obtain ⟨hm, ho1, ho2, hr1, hr2, hc1, hc2, hl1, hl2⟩ := id hI
  obtain ⟨hm', ho1', ho2', hr1', hr2', hc1', hc2', hl1', hl2'⟩ := id hJ
  refine .mk (fun args w => Try.call8 args w) (Spec.intro' (fn := Try.f8) Try.func8 rfl (by kernel_rfl) (by simp) false [] (draw := drawX Try.prog ⟨false, _, []⟩) dOk ?_)
  simp only [argE, Nat.reduceAdd]
  repeat' (first
    | (refine gateE ?_; (first | refine b_c0 ?_ | refine b_nil ?_ | refine m13 ?_ | refine m12 ?_ | refine m11 ?_ | (refine m10 ?_; (first | refine g_TT ?_ | refine g_FF ?_ | refine g_TF ?_ | refine g_FT ?_ | refine g_PT ?_ ?_ | refine g_PF ?_ ?_ | refine g_BT ?_ ?_ | refine g_BF ?_ ?_ | fail)) | (refine m09 ?_; (first | refine g_TT ?_ | refine g_FF ?_ | refine g_TF ?_ | refine g_FT ?_ | refine g_PT ?_ ?_ | refine g_PF ?_ ?_ | refine g_BT ?_ ?_ | refine g_BF ?_ ?_ | fail)) | refine m38 ?_ | fail))
    | (refine gateO ?_; (first | refine m14 ?_ | (refine m17 ?_; first | refine m19 ?_ | refine m18 ?_) | (refine m07 ?_; (first | refine m15 ?_ | refine m16 ?_ | fail)) | refine b_lenA (by (conv => {lhs; whnf}); done) (by exact (hRl []).len) ?_ | refine b_lenA (by (conv => {lhs; whnf}); done) (by exact (hCl []).len) ?_ | refine b_lenA (by (conv => {lhs; whnf}); done) (by exact (aI_IL [] q' p).len) ?_ | (refine m00 ?_; (first | refine m47 ?_ | refine m48 ?_ | refine m49 ?_ | refine m50 ?_ | refine v_k ?_ | refine m51 ?_ | fail)) | (refine m22 ?_; (first | refine m26 ?_ | refine m27 ?_ | fail)) | refine m42 ?_ | refine b_assignI ?_ | refine b_assignN ?_ | refine m08 ?_ | refine b_callB ?_ | refine b_lenA (by (conv => {lhs; whnf}); done) (by first | rfl | assumption) ?_ | refine m01 ?_ | fail))
    | (refine gateT ?_; (first | refine b_thn ?_ | refine b_thr ?_ | refine b_the ?_ | fail))
    | (refine gateX ?_; (first | refine b_seq ?_ | refine b_region ?_ | (refine m06 ?_; (first | refine c_T ?_ | refine c_F ?_ | refine c_P ?_ ?_ | refine c_B ?_ ?_ | fail)) | refine b_ret ?_ | refine b_skip ?_ | refine b_block ?_ | refine b_exit ?_ | fail))
    | refine m21 ?_
    | refine a_nil ?_
    | (refine gateK ?_; (first | refine c_call (greatm_c _ (aD x l) l (aD_FL _ x l) off rows cols ld hI) (OldOk.app (by simp)) ?_ | refine c_call (greatm_c _ (aD q la) la (aD_FL _ q la) ao ar ac al hJ) (OldOk.app (by simp)) ?_ | fail))
    | (refine gateQ ?_; refine m05 ?_)
    | (refine gateR ?_; (first | refine m04 ?_ | refine m02 ?_ | refine m03 ?_ | refine rk_nil ?_ | fail))
    | intro _)
  all_goals first
    | (exfalso; contradiction)
    | (exfalso; omega)
    | (exfalso; simp_all; done)
    | (refine rv_old rfl (by simp [mx, mxL, resOne, aOf, aOf1]) ?_; exact rfl)
    | (refine rv_old rfl (by simp [mx, mxL, resOne, aOf, aOf1]) ?_; simp only [resOne, List.nil_append]; congr 1; simp; omega)


end Go.Sx

set_option linter.unusedVariables false
set_option maxRecDepth 20000
namespace Go.Sx
open Go.Proofs
def fzL : List (Nat × List Nat) := [(7, [6, 8, 17, 18, 32]), (37, [21]), (43, [53, 63]), (76, [46]), (86, [35])]
def escL : List Nat := [44, 68]
def ordL : List (Nat × Nat × List Nat × (Bool × List Nat) × List (Nat × List Nat) × List Nat × DTr) := [(14, 6, [], (false, []), [], [], .lin [(0, .lt), (1, .lt), (2, .lt), (3, .ld true), (4, .lt), (5, .lt), (6, .lt), (7, .ld true), (8, .mn true), (9, .lt)]),
  (17, 16, [], (false, []), [], [12], .lin [(0, .lt), (1, .lt), (2, .lt), (3, .lt), (4, .lt), (5, .ld true), (6, .lt), (7, .lt), (8, .lt), (9, .ld true), (10, .lt), (11, .lt), (12, .mn false)]),
  (26, 7, [], (false, []), [], [14], .lin [(0, .lt), (1, .ld true), (2, .lt), (3, .lt), (4, .lt), (5, .lt), (6, .lt), (7, .lt), (8, .lt), (9, .ld true), (10, .lt), (11, .lt), (12, .lt), (13, .lt), (14, .mn false)]),
  (43, 10, [], (false, []), [], [11], .lin [(0, .lt), (1, .lt), (2, .lt), (3, .lt), (4, .ld true), (5, .lt), (6, .lt), (7, .lt), (8, .ld true), (9, .mn true), (10, .fz), (11, .mn false), (12, .lt)]),
  (44, 6, [], (false, [3, 10, 11]), [], [2, 5], .lin [(0, .ld true), (1, .ld true), (3, .ld false), (4, .ld false), (2, .mn false), (5, .mn false), (6, .lt), (7, .lt), (8, .lt)]),
  (69, 1, [], (false, []), [], [], .lin [(0, .ld true), (1, .ld true), (3, .lt), (4, .ld true), (5, .lt), (6, .ld true), (7, .lt), (8, .ld true), (9, .lt), (10, .ld true), (11, .lt), (12, .ld true), (13, .lt), (2, .mn true), (14, .mn true), (15, .lt)]),
  (70, 7, [], (false, []), [], [], .lin [(0, .lt), (1, .ld true), (2, .lt), (3, .ld true), (4, .lt), (5, .lt), (6, .ld true), (7, .lt), (8, .lt), (9, .lt), (10, .lt), (11, .ld true), (12, .lt), (13, .ld true), (14, .lt), (15, .lt), (16, .lt), (17, .ld true), (18, .lt), (19, .ld true), (20, .lt), (21, .lt), (22, .lt), (23, .lt), (24, .lt)]),
  (70, 8, [], (false, []), [], [9, 11], .lin [(0, .lt), (1, .lt), (2, .lt), (3, .lt), (4, .ld true), (5, .lt), (6, .lt), (7, .ld true), (8, .lt), (9, .mn false), (10, .lt), (11, .mn false)]),
  (71, 6, [], (false, []), [], [], .lin [(0, .ld true), (2, .ld true), (1, .mn true), (3, .mn true), (4, .lt)]),
  (71, 10, [8], (false, []), [], [], .lin [(0, .ld true), (1, .ld true), (2, .lt), (3, .lt), (4, .ld true), (5, .bx), (6, .mn true), (7, .lt)]),
  (71, 19, [], (false, []), [], [7], .lin [(0, .ld true), (1, .lt), (2, .lt), (3, .ld true), (4, .lt), (5, .lt), (6, .mn true), (7, .mn false)]),
  (71, 25, [], (false, []), [], [11], .lin [(0, .ld true), (1, .lt), (5, .ld true), (6, .lt), (7, .lt), (2, .mn true), (3, .lt), (4, .ld true), (8, .mn true), (9, .lt), (10, .lt), (11, .mn false)]),
  (71, 29, [], (false, []), [], [7], .lin [(0, .ld true), (1, .lt), (2, .lt), (3, .ld true), (4, .lt), (5, .lt), (6, .mn true), (7, .mn false)]),
  (71, 38, [], (false, []), [], [7], .lin [(0, .ld true), (1, .lt), (2, .lt), (3, .ld true), (4, .lt), (5, .lt), (6, .mn true), (7, .mn false)]),
  (71, 46, [], (false, []), [], [7], .lin [(0, .ld true), (1, .lt), (2, .lt), (3, .ld true), (4, .lt), (5, .lt), (6, .mn true), (7, .mn false)]),
  (71, 48, [], (false, []), [], [11], .lin [(0, .ld true), (1, .lt), (5, .ld true), (6, .lt), (7, .lt), (2, .mn true), (3, .lt), (4, .ld true), (8, .mn true), (9, .lt), (10, .lt), (11, .mn false)]),
  (76, 9, [], (false, []), [], [], .lin [(0, .lt), (2, .lt), (3, .lt), (4, .lt), (5, .lt), (6, .ld true), (7, .lt), (1, .mn true), (8, .lt), (9, .lt)]),
  (85, 1, [], (false, []), [], [], .lin [(0, .lt), (1, .lt), (3, .ld true), (4, .lt), (5, .lt), (6, .ld true), (2, .mn true), (7, .mn true), (8, .lt), (9, .lt), (10, .lt)]),
  (86, 9, [], (false, []), [], [], .lin [(0, .lt), (1, .ld true), (2, .lt), (3, .ld true), (4, .lt), (5, .lt), (7, .lt), (6, .mn true), (8, .mn true), (9, .lt)]),
  (104, 3, [], (false, []), [], [], .lin [(0, .lt), (1, .lt), (2, .lt), (3, .lt), (4, .lt), (5, .lt), (6, .ld true), (7, .lt), (8, .lt), (9, .ld true), (10, .lt), (11, .ld true), (12, .lt), (13, .lt), (14, .lt), (15, .lt), (16, .lt), (17, .lt), (18, .lt), (19, .lt), (20, .lt), (21, .lt), (22, .lt), (23, .lt)]),
  (111, 0, [], (false, []), [], [10], .lin [(0, .lt), (1, .lt), (2, .lt), (3, .ld true), (4, .ld true), (5, .lt), (6, .lt), (7, .ld true), (8, .mn true), (9, .lt), (10, .mn false)]),
  (117, 1, [], (false, []), [], [14], .lin [(0, .ld true), (1, .lt), (5, .lt), (6, .ld true), (7, .lt), (2, .mn true), (3, .lt), (4, .ld true), (8, .mn true), (9, .lt), (10, .ld true), (11, .lt), (12, .lt), (13, .lt), (14, .mn false)]),
  (127, 3, [], (false, []), [], [], .lin [(0, .lt), (1, .ld true), (2, .lt), (3, .ld true), (4, .lt), (5, .ld true), (6, .lt), (7, .lt), (8, .ld true), (9, .lt), (10, .lt), (11, .lt), (12, .ld true), (13, .lt), (14, .lt), (15, .lt), (16, .lt), (17, .lt)])]
def frzL : List Nat := [138]
def intrT (f : Nat) (args : List AV) : Option AV :=
  if Nat.beq f 49 then (match args with
    | [.fraw b] => some (.int .u64 b)
    | [.flt b] => if isNaN b then none else some (.int .u64 b)
    | _ => none)
  else if Nat.beq f 121 then (match args with
    | [.int .u64 n] => if 0 ≤ n ∧ n ≤ 18446744073709551615 then some (.fraw n.toNat) else none
    | _ => none)
  else none
def runT : RunT := ⟨fun f => escL.contains f, ordF ordL, intrT, fun f => (lk fzL f).getD [], fun f => !frzL.contains f⟩
theorem intr_ok (f : Nat) (args : List AV) (r : AV) (H : List (List AV)) (h : intrT f args = some r) : CSpec Try.prog f args H r H := by
  unfold intrT at h
  split at h
  · rename_i hb
    have := Nat.eq_of_beq_eq_true hb; subst this
    split at h
    · cases h; exact xbits_raw Try.func49 (by kernel_rfl) (by kernel_rfl) (by kernel_rfl) (by kernel_rfl) H _
    · split at h
      · cases h
      · rename_i hn; cases h; exact xbits_flt Try.func49 (by kernel_rfl) (by kernel_rfl) (by kernel_rfl) (by kernel_rfl) H _ hn
    · cases h
  · split at h
    · rename_i hb
      have := Nat.eq_of_beq_eq_true hb; subst this
      split at h
      · split at h
        · rename_i hn; cases h; exact xfrom Try.func121 (by kernel_rfl) (by kernel_rfl) (by kernel_rfl) (by kernel_rfl) H _ hn
        · cases h
      · cases h
    · cases h
theorem run_7 : runF Try.prog runT 100000 60 7 [] [] = some (.bool true, []) := by kernel_rfl
theorem run_7_c (H : List (List AV)) : CSpec Try.prog 7 [] H (.bool true) H := runF_c fol intr_ok 100000 60 7 _ _ (by kernel_rfl) (by kernel_rfl) run_7 H
end Go.Sx

set_option linter.unusedVariables false
set_option linter.unusedSimpArgs false
set_option maxRecDepth 20000
namespace Go.Sx
open Go.Proofs

theorem rml_self (l : List Nat) : rml (fun i => l.getD i 0) l.length = l := by
  apply List.ext_getElem
  · simp
  · intro i h1 h2
    have e := rml_get (g := fun i => l.getD i 0) h2
    have a1 : (rml (fun i => l.getD i 0) l.length)[i] = (rml (fun i => l.getD i 0) l.length).getD i 0 := by rw [List.getD_eq_getElem?_getD, List.getElem?_eq_getElem h1]; rfl
    have a2 : l[i] = l.getD i 0 := by rw [List.getD_eq_getElem?_getD, List.getElem?_eq_getElem h2]; rfl
    rw [a1, a2]; exact e
attribute [local irreducible] Ex exOps exD opX opE thenX blkX RetQ Spec CSpec Fr condK guardK guardD ckK valK pickK loadK faK callK argK gK fK rK RetV lpX prK
set_option maxHeartbeats 4000000 in
theorem law_g (H : List (List AV)) (x : Nat × Nat) (l : List Nat) (off rows cols ld : Int) (hI : MI l.length off rows cols ld) (q : Nat × Nat) (la : List Nat) (ao ar ac al : Int) (hJ : MI la.length ao ar ac al) (q' : Nat × Nat) (p : List Int) (hpm : p.length ≤ 9223372036854775807) (kr : Nat × Nat) (rl : List Int) (hrm : rl.length ≤ 9223372036854775807) (kc : Nat × Nat) (cl : List Int) (hcm : cl.length ≤ 9223372036854775807) (xb : Nat × Nat) (bl : List Nat) (hbm : bl.length ≤ 9223372036854775807) (hs : ¬ (l.length ≤ 1000 ∧ rows ≤ 20 ∧ cols ≤ 20 ∧ la.length ≤ 1000 ∧ ar ≤ 20 ∧ ac ≤ 20 ∧ p.length ≤ 60 ∧ rl.length ≤ 60 ∧ cl.length ≤ 60)) :
    Spec Try.prog 3 [mt (aD x l) off rows cols ld, .agg [aD q la, .int .i64 ao, .int .i64 ar, .int .i64 ac, .int .i64 al, aI q' p], aI kr rl, aI kc cl, aD xb bl] H (.bool true) H := by
  obtain ⟨hm, ho1, ho2, hr1, hr2, hc1, hc2, hl1, hl2⟩ := id hI
  obtain ⟨hm', ho1', ho2', hr1', hr2', hc1', hc2', hl1', hl2'⟩ := id hJ
  refine (Spec.intro' (fn := Try.f3) Try.func3 rfl (by kernel_rfl) (by simp) false [] (draw := drawX Try.prog ⟨false, _, []⟩) dOk ?_)
  simp only [argE, Nat.reduceAdd]
  repeat' (first
    | (refine gateE ?_; (first | refine b_c0 ?_ | refine b_nil ?_ | refine m13 ?_ | refine m12 ?_ | refine m11 ?_ | (refine m10 ?_; (first | refine g_TT ?_ | refine g_FF ?_ | refine g_TF ?_ | refine g_FT ?_ | refine g_PT ?_ ?_ | refine g_PF ?_ ?_ | refine g_BT ?_ ?_ | refine g_BF ?_ ?_ | fail)) | (refine m09 ?_; (first | refine g_TT ?_ | refine g_FF ?_ | refine g_TF ?_ | refine g_FT ?_ | refine g_PT ?_ ?_ | refine g_PF ?_ ?_ | refine g_BT ?_ ?_ | refine g_BF ?_ ?_ | fail)) | refine m38 ?_ | fail))
    | (refine gateO ?_; (first | refine m14 ?_ | (refine m17 ?_; first | refine m19 ?_ | refine m18 ?_) | (refine m07 ?_; (first | refine m15 ?_ | refine m16 ?_ | fail)) | (refine b_binBn (by first | (conv => {lhs; whnf}; done) | exact (by exact rfl) | fail) (by first | (conv => {lhs; whnf}; done) | exact (by exact rfl) | fail) ?_; (first | refine v_bnF (by exact rfl) ?_ | refine v_bnT (by decide) ?_ | fail)) | refine b_lenA (by (conv => {lhs; whnf}); done) (by exact (aI_IL [] kr rl).len) ?_ | refine b_lenA (by (conv => {lhs; whnf}); done) (by exact (aI_IL [] kc cl).len) ?_ | refine b_lenA (by (conv => {lhs; whnf}); done) (by exact (aI_IL [] q' p).len) ?_ | refine b_lenA (by (conv => {lhs; whnf}); done) (by exact aD_len xb bl) ?_ | (refine m45 ?_; (first | refine v_bbT (by exact rfl) ?_ | refine v_k ?_ | fail)) | (refine m00 ?_; (first | refine m52 ?_ | refine m53 ?_ | refine v_eP ?_ | refine m54 ?_ | refine m55 ?_ | refine v_neP ?_ | refine m47 ?_ | refine m48 ?_ | refine m49 ?_ | refine m50 ?_ | refine v_nT ?_ | refine v_nF ?_ | refine v_nP ?_ | refine v_k ?_ | refine m51 ?_ | fail)) | (refine m22 ?_; (first | refine m26 ?_ | refine m27 ?_ | fail)) | refine m42 ?_ | refine b_assignI ?_ | refine b_assignN ?_ | refine m08 ?_ | (refine m20 ?_; (first | refine m52 ?_ | refine m53 ?_ | refine v_eP ?_ | refine m54 ?_ | refine m55 ?_ | refine v_neP ?_ | refine m47 ?_ | refine m48 ?_ | refine m49 ?_ | refine m50 ?_ | refine v_nT ?_ | refine v_nF ?_ | refine v_nP ?_ | refine v_k ?_ | refine m51 ?_ | fail)) | refine b_callB ?_ | refine b_lenA (by (conv => {lhs; whnf}); done) (by first | rfl | assumption) ?_ | refine m23 ?_ | refine m25 ?_ | refine m01 ?_ | refine m24 ?_ | refine b_build ?_ | fail))
    | (refine gateD ?_; (first | refine m36 ?_ | refine d_nil ?_ | refine m32 ?_ | refine m31 ?_ | refine m30 ?_ | (refine m28 ?_; (first | refine dg_TT ?_ | refine dg_FF ?_ | refine dg_TF ?_ | refine dg_FT ?_ | refine dg_PT ?_ ?_ | refine dg_PF ?_ ?_ | refine dg_BT ?_ ?_ | refine dg_BF ?_ ?_ | fail)) | (refine m29 ?_; (first | refine dg_TT ?_ | refine dg_FF ?_ | refine dg_TF ?_ | refine dg_FT ?_ | refine dg_PT ?_ ?_ | refine dg_PF ?_ ?_ | refine dg_BT ?_ ?_ | refine dg_BF ?_ ?_ | fail)) | refine m37 ?_ | fail))
    | (refine gateC ?_; (first | refine k_lt ?_ | refine k_fz ?_ | refine k_lb (by (conv => {lhs; whnf}); done) ?_ | refine k_ms ?_ | refine k_bx (by exact rfl) (by exact rfl) ?_ | refine m34 ?_ | refine m35 ?_ | refine m33 ?_ | refine k_mn ?_ | refine m56 ?_ | refine k_mnF ?_ | refine k_mnL (by exact rfl) ?_ | fail))
    | (refine gateT ?_; (first | refine b_thn ?_ | refine b_thr ?_ | refine b_the ?_ | fail))
    | (refine gateX ?_; (first | refine b_seq ?_ | refine b_region ?_ | (refine m06 ?_; (first | refine c_T ?_ | refine c_F ?_ | refine c_P ?_ ?_ | refine c_B ?_ ?_ | fail)) | refine b_ret ?_ | refine b_skip ?_ | refine b_block ?_ | refine b_exit ?_ | refine b_draw (id := 7) [] [] [(0, .ld true), (1, .lt), (2, .mn true), (3, .mn true), (4, .lt), (5, .lt), (6, .lt), (7, .lt), (8, .lt)] (by kernel_rfl) ?_ | fail))
    | refine m21 ?_
    | refine a_nil ?_
    | (refine gateK ?_; (first | refine c_call (run_7_c _) (OldOk.app (by simp)) ?_ | refine c_call (great_t _ x l off rows cols ld hI q la ao ar ac al hJ q' p hpm (aI kr rl) rl (fun H => aI_IL H kr rl) (aI kc cl) cl (fun H => aI_IL H kc cl) hrm hcm hs) (OldOk.app (by simp)) ?_ | fail))
    | refine m58 ?_
    | refine fk_nil ?_
    | (refine gateQ ?_; refine m05 ?_)
    | (refine gateR ?_; (first | refine m04 ?_ | refine m02 ?_ | refine m03 ?_ | refine rk_nil ?_ | fail))
    | intro _)
  all_goals first
    | (exfalso; contradiction)
    | (exfalso; omega)
    | (exfalso; simp_all; done)
    | (refine rv_old rfl (by simp [mx, mxL, resOne, aOf, aOf1]) ?_; exact rfl)

set_option maxHeartbeats 4000000 in
theorem law_h (H : List (List AV)) (x : Nat × Nat) (l : List Nat) (off rows cols ld : Int) (hI : MI l.length off rows cols ld) (q : Nat × Nat) (la : List Nat) (ao ar ac al : Int) (hJ : MI la.length ao ar ac al) (q' : Nat × Nat) (p : List Int) (hpm : p.length ≤ 9223372036854775807) (kr : Nat × Nat) (rl : List Int) (hrm : rl.length ≤ 9223372036854775807) (kc : Nat × Nat) (cl : List Int) (hcm : cl.length ≤ 9223372036854775807) (xb : Nat × Nat) (bl : List Nat) (hbm : bl.length ≤ 9223372036854775807) (hs : (l.length ≤ 1000 ∧ rows ≤ 20 ∧ cols ≤ 20 ∧ la.length ≤ 1000 ∧ ar ≤ 20 ∧ ac ≤ 20 ∧ p.length ≤ 60 ∧ rl.length ≤ 60 ∧ cl.length ≤ 60)) (hb : ¬ bl.length ≤ 60) :
    Spec Try.prog 3 [mt (aD x l) off rows cols ld, .agg [aD q la, .int .i64 ao, .int .i64 ar, .int .i64 ac, .int .i64 al, aI q' p], aI kr rl, aI kc cl, aD xb bl] H (.bool true) H := by
  obtain ⟨hm, ho1, ho2, hr1, hr2, hc1, hc2, hl1, hl2⟩ := id hI
  obtain ⟨hm', ho1', ho2', hr1', hr2', hc1', hc2', hl1', hl2'⟩ := id hJ
  refine (Spec.intro' (fn := Try.f3) Try.func3 rfl (by kernel_rfl) (by simp) false [] (draw := drawX Try.prog ⟨false, _, []⟩) dOk ?_)
  simp only [argE, Nat.reduceAdd]
  repeat' (first
    | (refine gateE ?_; (first | refine b_c0 ?_ | refine b_nil ?_ | refine m13 ?_ | refine m12 ?_ | refine m11 ?_ | (refine m10 ?_; (first | refine g_TT ?_ | refine g_FF ?_ | refine g_TF ?_ | refine g_FT ?_ | refine g_PT ?_ ?_ | refine g_PF ?_ ?_ | refine g_BT ?_ ?_ | refine g_BF ?_ ?_ | fail)) | (refine m09 ?_; (first | refine g_TT ?_ | refine g_FF ?_ | refine g_TF ?_ | refine g_FT ?_ | refine g_PT ?_ ?_ | refine g_PF ?_ ?_ | refine g_BT ?_ ?_ | refine g_BF ?_ ?_ | fail)) | refine m38 ?_ | fail))
    | (refine gateO ?_; (first | refine m14 ?_ | (refine m17 ?_; first | refine m19 ?_ | refine m18 ?_) | (refine m07 ?_; (first | refine m15 ?_ | refine m16 ?_ | fail)) | (refine b_binBn (by first | (conv => {lhs; whnf}; done) | exact (by exact rfl) | fail) (by first | (conv => {lhs; whnf}; done) | exact (by exact rfl) | fail) ?_; (first | refine v_bnF (by exact rfl) ?_ | refine v_bnT (by decide) ?_ | fail)) | refine b_lenA (by (conv => {lhs; whnf}); done) (by exact (aI_IL [] kr rl).len) ?_ | refine b_lenA (by (conv => {lhs; whnf}); done) (by exact (aI_IL [] kc cl).len) ?_ | refine b_lenA (by (conv => {lhs; whnf}); done) (by exact (aI_IL [] q' p).len) ?_ | refine b_lenA (by (conv => {lhs; whnf}); done) (by exact aD_len xb bl) ?_ | (refine m45 ?_; (first | refine v_bbT (by exact rfl) ?_ | refine v_k ?_ | fail)) | (refine m00 ?_; (first | refine m52 ?_ | refine m53 ?_ | refine v_eP ?_ | refine m54 ?_ | refine m55 ?_ | refine v_neP ?_ | refine m47 ?_ | refine m48 ?_ | refine m49 ?_ | refine m50 ?_ | refine v_nT ?_ | refine v_nF ?_ | refine v_nP ?_ | refine v_k ?_ | refine m51 ?_ | fail)) | (refine m22 ?_; (first | refine m26 ?_ | refine m27 ?_ | fail)) | refine m42 ?_ | refine b_assignI ?_ | refine b_assignN ?_ | refine m08 ?_ | (refine m20 ?_; (first | refine m52 ?_ | refine m53 ?_ | refine v_eP ?_ | refine m54 ?_ | refine m55 ?_ | refine v_neP ?_ | refine m47 ?_ | refine m48 ?_ | refine m49 ?_ | refine m50 ?_ | refine v_nT ?_ | refine v_nF ?_ | refine v_nP ?_ | refine v_k ?_ | refine m51 ?_ | fail)) | refine b_callB ?_ | refine b_lenA (by (conv => {lhs; whnf}); done) (by first | rfl | assumption) ?_ | refine m23 ?_ | refine m25 ?_ | refine m01 ?_ | refine m24 ?_ | refine b_build ?_ | fail))
    | (refine gateD ?_; (first | refine m36 ?_ | refine d_nil ?_ | refine m32 ?_ | refine m31 ?_ | refine m30 ?_ | (refine m28 ?_; (first | refine dg_TT ?_ | refine dg_FF ?_ | refine dg_TF ?_ | refine dg_FT ?_ | refine dg_PT ?_ ?_ | refine dg_PF ?_ ?_ | refine dg_BT ?_ ?_ | refine dg_BF ?_ ?_ | fail)) | (refine m29 ?_; (first | refine dg_TT ?_ | refine dg_FF ?_ | refine dg_TF ?_ | refine dg_FT ?_ | refine dg_PT ?_ ?_ | refine dg_PF ?_ ?_ | refine dg_BT ?_ ?_ | refine dg_BF ?_ ?_ | fail)) | refine m37 ?_ | fail))
    | (refine gateC ?_; (first | refine k_lt ?_ | refine k_fz ?_ | refine k_lb (by (conv => {lhs; whnf}); done) ?_ | refine k_ms ?_ | refine k_bx (by exact rfl) (by exact rfl) ?_ | refine m34 ?_ | refine m35 ?_ | refine m33 ?_ | refine k_mn ?_ | refine m56 ?_ | refine k_mnF ?_ | refine k_mnL (by exact rfl) ?_ | fail))
    | (refine gateT ?_; (first | refine b_thn ?_ | refine b_thr ?_ | refine b_the ?_ | fail))
    | (refine gateX ?_; (first | refine b_seq ?_ | refine b_region ?_ | (refine m06 ?_; (first | refine c_T ?_ | refine c_F ?_ | refine c_P ?_ ?_ | refine c_B ?_ ?_ | fail)) | refine b_ret ?_ | refine b_skip ?_ | refine b_block ?_ | refine b_exit ?_ | refine b_draw (id := 7) [] [] [(0, .ld true), (1, .lt), (2, .mn true), (3, .mn true), (4, .lt), (5, .lt), (6, .lt), (7, .lt), (8, .lt)] (by kernel_rfl) ?_ | fail))
    | refine m21 ?_
    | refine a_nil ?_
    | (refine gateK ?_; (first | refine c_call (run_7_c _) (OldOk.app (by simp)) ?_ | refine c_call (great_f _ x l off rows cols ld hI q la ao ar ac al hJ q' p hpm (aI kr rl) rl (fun H => aI_IL H kr rl) (aI kc cl) cl (fun H => aI_IL H kc cl) hrm hcm hs) (OldOk.app (by simp)) ?_ | fail))
    | refine m58 ?_
    | refine fk_nil ?_
    | (refine gateQ ?_; refine m05 ?_)
    | (refine gateR ?_; (first | refine m04 ?_ | refine m02 ?_ | refine m03 ?_ | refine rk_nil ?_ | fail))
    | intro _)
  all_goals first
    | (exfalso; contradiction)
    | (exfalso; omega)
    | (exfalso; simp_all; done)
    | (refine rv_old rfl (by simp [mx, mxL, resOne, aOf, aOf1]) ?_; exact rfl)

set_option maxHeartbeats 4000000 in
theorem law_1 (H : List (List AV)) (x : Nat × Nat) (l : List Nat) (off rows cols ld : Int) (hI : MI l.length off rows cols ld) (q : Nat × Nat) (la : List Nat) (ao ar ac al : Int) (hJ : MI la.length ao ar ac al) (q' : Nat × Nat) (p : List Int) (hpm : p.length ≤ 9223372036854775807) (kr : Nat × Nat) (rl : List Int) (hrm : rl.length ≤ 9223372036854775807) (kc : Nat × Nat) (cl : List Int) (hcm : cl.length ≤ 9223372036854775807) (xb : Nat × Nat) (bl : List Nat) (hbm : bl.length ≤ 9223372036854775807) (hs : (l.length ≤ 1000 ∧ rows ≤ 20 ∧ cols ≤ 20 ∧ la.length ≤ 1000 ∧ ar ≤ 20 ∧ ac ≤ 20 ∧ p.length ≤ 60 ∧ rl.length ≤ 60 ∧ cl.length ≤ 60)) (hb : bl.length ≤ 60) (hbad : ¬ (GoodP l.length off rows cols ld ∧ (GoodP la.length ao ar ac al ∧ ar = ac ∧ ar = (p.length : Int) ∧ pivP p))) :
    Spec Try.prog 3 [mt (aD x l) off rows cols ld, .agg [aD q la, .int .i64 ao, .int .i64 ar, .int .i64 ac, .int .i64 al, aI q' p], aI kr rl, aI kc cl, aD xb bl] H (.bool true) H := by
  obtain ⟨hm, ho1, ho2, hr1, hr2, hc1, hc2, hl1, hl2⟩ := id hI
  obtain ⟨hm', ho1', ho2', hr1', hr2', hc1', hc2', hl1', hl2'⟩ := id hJ
  refine (Spec.intro' (fn := Try.f3) Try.func3 rfl (by kernel_rfl) (by simp) false [] (draw := drawX Try.prog ⟨false, _, []⟩) dOk ?_)
  simp only [argE, Nat.reduceAdd]
  repeat' (first
    | (refine gateE ?_; (first | refine b_c0 ?_ | refine b_nil ?_ | refine m13 ?_ | refine m12 ?_ | refine m11 ?_ | (refine m10 ?_; (first | refine g_TT ?_ | refine g_FF ?_ | refine g_TF ?_ | refine g_FT ?_ | refine g_PT ?_ ?_ | refine g_PF ?_ ?_ | refine g_BT ?_ ?_ | refine g_BF ?_ ?_ | fail)) | (refine m09 ?_; (first | refine g_TT ?_ | refine g_FF ?_ | refine g_TF ?_ | refine g_FT ?_ | refine g_PT ?_ ?_ | refine g_PF ?_ ?_ | refine g_BT ?_ ?_ | refine g_BF ?_ ?_ | fail)) | refine m38 ?_ | fail))
    | (refine gateO ?_; (first | refine m14 ?_ | (refine m17 ?_; first | refine m19 ?_ | refine m18 ?_) | (refine m07 ?_; (first | refine m15 ?_ | refine m16 ?_ | fail)) | (refine b_binBn (by first | (conv => {lhs; whnf}; done) | exact (by exact rfl) | fail) (by first | (conv => {lhs; whnf}; done) | exact (by exact rfl) | fail) ?_; (first | refine v_bnF (by exact rfl) ?_ | refine v_bnT (by decide) ?_ | fail)) | refine b_lenA (by (conv => {lhs; whnf}); done) (by exact (aI_IL [] kr rl).len) ?_ | refine b_lenA (by (conv => {lhs; whnf}); done) (by exact (aI_IL [] kc cl).len) ?_ | refine b_lenA (by (conv => {lhs; whnf}); done) (by exact (aI_IL [] q' p).len) ?_ | refine b_lenA (by (conv => {lhs; whnf}); done) (by exact aD_len xb bl) ?_ | (refine m45 ?_; (first | refine v_bbT (by exact rfl) ?_ | refine v_k ?_ | fail)) | (refine m00 ?_; (first | refine m52 ?_ | refine m53 ?_ | refine v_eP ?_ | refine m54 ?_ | refine m55 ?_ | refine v_neP ?_ | refine m47 ?_ | refine m48 ?_ | refine m49 ?_ | refine m50 ?_ | refine v_nT ?_ | refine v_nF ?_ | refine v_nP ?_ | refine v_k ?_ | refine m51 ?_ | fail)) | (refine m22 ?_; (first | refine m26 ?_ | refine m27 ?_ | fail)) | refine m42 ?_ | refine b_assignI ?_ | refine b_assignN ?_ | refine m08 ?_ | (refine m20 ?_; (first | refine m52 ?_ | refine m53 ?_ | refine v_eP ?_ | refine m54 ?_ | refine m55 ?_ | refine v_neP ?_ | refine m47 ?_ | refine m48 ?_ | refine m49 ?_ | refine m50 ?_ | refine v_nT ?_ | refine v_nF ?_ | refine v_nP ?_ | refine v_k ?_ | refine m51 ?_ | fail)) | refine b_callB ?_ | refine b_lenA (by (conv => {lhs; whnf}); done) (by first | rfl | assumption) ?_ | refine m23 ?_ | refine m25 ?_ | refine m01 ?_ | refine m24 ?_ | refine b_build ?_ | fail))
    | (refine gateD ?_; (first | refine m36 ?_ | refine d_nil ?_ | refine m32 ?_ | refine m31 ?_ | refine m30 ?_ | (refine m28 ?_; (first | refine dg_TT ?_ | refine dg_FF ?_ | refine dg_TF ?_ | refine dg_FT ?_ | refine dg_PT ?_ ?_ | refine dg_PF ?_ ?_ | refine dg_BT ?_ ?_ | refine dg_BF ?_ ?_ | fail)) | (refine m29 ?_; (first | refine dg_TT ?_ | refine dg_FF ?_ | refine dg_TF ?_ | refine dg_FT ?_ | refine dg_PT ?_ ?_ | refine dg_PF ?_ ?_ | refine dg_BT ?_ ?_ | refine dg_BF ?_ ?_ | fail)) | refine m37 ?_ | fail))
    | (refine gateC ?_; (first | refine k_lt ?_ | refine k_fz ?_ | refine k_lb (by (conv => {lhs; whnf}); done) ?_ | refine k_ms ?_ | refine k_bx (by exact rfl) (by exact rfl) ?_ | refine m34 ?_ | refine m35 ?_ | refine m33 ?_ | refine k_mn ?_ | refine m56 ?_ | refine k_mnF ?_ | refine k_mnL (by exact rfl) ?_ | fail))
    | (refine gateT ?_; (first | refine b_thn ?_ | refine b_thr ?_ | refine b_the ?_ | fail))
    | (refine gateX ?_; (first | refine b_seq ?_ | refine b_region ?_ | (refine m06 ?_; (first | refine c_T ?_ | refine c_F ?_ | refine c_P ?_ ?_ | refine c_B ?_ ?_ | fail)) | refine b_ret ?_ | refine b_skip ?_ | refine b_block ?_ | refine b_exit ?_ | refine b_draw (id := 7) [] [] [(0, .ld true), (1, .lt), (2, .mn true), (3, .mn true), (4, .lt), (5, .lt), (6, .lt), (7, .lt), (8, .lt)] (by kernel_rfl) ?_ | fail))
    | refine m21 ?_
    | refine a_nil ?_
    | (refine gateK ?_; (first | refine c_call (run_7_c _) (OldOk.app (by simp)) ?_ | refine c_call (great_f _ x l off rows cols ld hI q la ao ar ac al hJ q' p hpm (aI kr rl) rl (fun H => aI_IL H kr rl) (aI kc cl) cl (fun H => aI_IL H kc cl) hrm hcm hs) (OldOk.app (by simp)) ?_ | refine c_call (copy_k _ _ (aD xb bl) bl (aD_FL _ xb bl) (by omega) _ (by (conv => {lhs; simp only [List.length_append, List.length_cons, List.length_nil, List.length_set, Nat.reduceAdd, Nat.zero_add]}); done) (by (conv => {lhs; simp only [List.append_assoc, List.cons_append, List.nil_append]}); done)) (OldOk.app (by simp)) ?_ | refine c_call (sv_e _ _ _ _ _ _ _ _ _ _ _ _ (aI kr rl) (aI kc cl) (by exact rfl) (by exact rfl) _ bl.length (by exact rfl) 1 (by decide) (fun N => check_1 _ x l off rows cols ld hI q la ao ar ac al hJ q' p (by omega) (aI kr rl) rl (fun H => aI_IL H kr rl) (aI kc cl) cl (fun H => aI_IL H kc cl) hbad)) (OldOk.app (by simp)) ?_ | refine c_call (st_e _ _ _ _ _ _ _ _ _ _ _ _ (aI kr rl) (aI kc cl) (by exact rfl) (by exact rfl) _ bl.length (by exact rfl) 1 (by decide) (fun N => check_1 _ x l off rows cols ld hI q la ao ar ac al hJ q' p (by omega) (aI kr rl) rl (fun H => aI_IL H kr rl) (aI kc cl) cl (fun H => aI_IL H kc cl) hbad)) (OldOk.app (by simp)) ?_ | refine c_call (check_1 _ x l off rows cols ld hI q la ao ar ac al hJ q' p (by omega) (aI kr rl) rl (fun H => aI_IL H kr rl) (aI kc cl) cl (fun H => aI_IL H kc cl) hbad) (OldOk.app (by simp)) ?_ | refine c_call (rchk_1 _ x l off rows cols ld hI q la ao ar ac al hJ q' p (by omega) (aI kr rl) rl (fun H => aI_IL H kr rl) (aI kc cl) cl (fun H => aI_IL H kc cl) hbad) (OldOk.app (by simp)) ?_ | fail))
    | refine m58 ?_
    | refine fk_nil ?_
    | (refine gateQ ?_; refine m05 ?_)
    | (refine gateR ?_; (first | refine m04 ?_ | refine m02 ?_ | refine m03 ?_ | refine rk_nil ?_ | fail))
    | intro _)
  all_goals first
    | (exfalso; contradiction)
    | (exfalso; omega)
    | (exfalso; simp_all; done)
    | (refine rv_old rfl (by simp [mx, mxL, resOne, aOf, aOf1]) ?_; exact rfl)

set_option maxHeartbeats 4000000 in
theorem law_3 (H : List (List AV)) (x : Nat × Nat) (l : List Nat) (off rows cols ld : Int) (hI : MI l.length off rows cols ld) (q : Nat × Nat) (la : List Nat) (ao ar ac al : Int) (hJ : MI la.length ao ar ac al) (q' : Nat × Nat) (p : List Int) (hpm : p.length ≤ 9223372036854775807) (kr : Nat × Nat) (rl : List Int) (hrm : rl.length ≤ 9223372036854775807) (kc : Nat × Nat) (cl : List Int) (hcm : cl.length ≤ 9223372036854775807) (xb : Nat × Nat) (bl : List Nat) (hbm : bl.length ≤ 9223372036854775807) (hs : (l.length ≤ 1000 ∧ rows ≤ 20 ∧ cols ≤ 20 ∧ la.length ≤ 1000 ∧ ar ≤ 20 ∧ ac ≤ 20 ∧ p.length ≤ 60 ∧ rl.length ≤ 60 ∧ cl.length ≤ 60)) (hb : bl.length ≤ 60) (hg : GoodP l.length off rows cols ld) (hr : (GoodP la.length ao ar ac al ∧ ar = ac ∧ ar = (p.length : Int) ∧ pivP p)) (hz9 : ¬ (cols = rows ∧ 1 ≤ rows ∧ rows ≤ 64 ∧ ar = rows ∧ (rl.length : Int) = rows ∧ (cl.length : Int) = rows)) :
    Spec Try.prog 3 [mt (aD x l) off rows cols ld, .agg [aD q la, .int .i64 ao, .int .i64 ar, .int .i64 ac, .int .i64 al, aI q' p], aI kr rl, aI kc cl, aD xb bl] H (.bool true) H := by
  obtain ⟨hm, ho1, ho2, hr1, hr2, hc1, hc2, hl1, hl2⟩ := id hI
  obtain ⟨hm', ho1', ho2', hr1', hr2', hc1', hc2', hl1', hl2'⟩ := id hJ
  refine (Spec.intro' (fn := Try.f3) Try.func3 rfl (by kernel_rfl) (by simp) false [] (draw := drawX Try.prog ⟨false, _, []⟩) dOk ?_)
  simp only [argE, Nat.reduceAdd]
  repeat' (first
    | (refine gateE ?_; (first | refine b_c0 ?_ | refine b_nil ?_ | refine m13 ?_ | refine m12 ?_ | refine m11 ?_ | (refine m10 ?_; (first | refine g_TT ?_ | refine g_FF ?_ | refine g_TF ?_ | refine g_FT ?_ | refine g_PT ?_ ?_ | refine g_PF ?_ ?_ | refine g_BT ?_ ?_ | refine g_BF ?_ ?_ | fail)) | (refine m09 ?_; (first | refine g_TT ?_ | refine g_FF ?_ | refine g_TF ?_ | refine g_FT ?_ | refine g_PT ?_ ?_ | refine g_PF ?_ ?_ | refine g_BT ?_ ?_ | refine g_BF ?_ ?_ | fail)) | refine m38 ?_ | fail))
    | (refine gateO ?_; (first | refine m14 ?_ | (refine m17 ?_; first | refine m19 ?_ | refine m18 ?_) | (refine m07 ?_; (first | refine m15 ?_ | refine m16 ?_ | fail)) | (refine b_binBn (by first | (conv => {lhs; whnf}; done) | exact (by exact rfl) | fail) (by first | (conv => {lhs; whnf}; done) | exact (by exact rfl) | fail) ?_; (first | refine v_bnF (by exact rfl) ?_ | refine v_bnT (by decide) ?_ | fail)) | refine b_lenA (by (conv => {lhs; whnf}); done) (by exact (aI_IL [] kr rl).len) ?_ | refine b_lenA (by (conv => {lhs; whnf}); done) (by exact (aI_IL [] kc cl).len) ?_ | refine b_lenA (by (conv => {lhs; whnf}); done) (by exact (aI_IL [] q' p).len) ?_ | refine b_lenA (by (conv => {lhs; whnf}); done) (by exact aD_len xb bl) ?_ | (refine m45 ?_; (first | refine v_bbT (by exact rfl) ?_ | refine v_k ?_ | fail)) | (refine m00 ?_; (first | refine m52 ?_ | refine m53 ?_ | refine v_eP ?_ | refine m54 ?_ | refine m55 ?_ | refine v_neP ?_ | refine m47 ?_ | refine m48 ?_ | refine m49 ?_ | refine m50 ?_ | refine v_nT ?_ | refine v_nF ?_ | refine v_nP ?_ | refine v_k ?_ | refine m51 ?_ | fail)) | (refine m22 ?_; (first | refine m26 ?_ | refine m27 ?_ | fail)) | refine m42 ?_ | refine b_assignI ?_ | refine b_assignN ?_ | refine m08 ?_ | (refine m20 ?_; (first | refine m52 ?_ | refine m53 ?_ | refine v_eP ?_ | refine m54 ?_ | refine m55 ?_ | refine v_neP ?_ | refine m47 ?_ | refine m48 ?_ | refine m49 ?_ | refine m50 ?_ | refine v_nT ?_ | refine v_nF ?_ | refine v_nP ?_ | refine v_k ?_ | refine m51 ?_ | fail)) | refine b_callB ?_ | refine b_lenA (by (conv => {lhs; whnf}); done) (by first | rfl | assumption) ?_ | refine m23 ?_ | refine m25 ?_ | refine m01 ?_ | refine m24 ?_ | refine b_build ?_ | fail))
    | (refine gateD ?_; (first | refine m36 ?_ | refine d_nil ?_ | refine m32 ?_ | refine m31 ?_ | refine m30 ?_ | (refine m28 ?_; (first | refine dg_TT ?_ | refine dg_FF ?_ | refine dg_TF ?_ | refine dg_FT ?_ | refine dg_PT ?_ ?_ | refine dg_PF ?_ ?_ | refine dg_BT ?_ ?_ | refine dg_BF ?_ ?_ | fail)) | (refine m29 ?_; (first | refine dg_TT ?_ | refine dg_FF ?_ | refine dg_TF ?_ | refine dg_FT ?_ | refine dg_PT ?_ ?_ | refine dg_PF ?_ ?_ | refine dg_BT ?_ ?_ | refine dg_BF ?_ ?_ | fail)) | refine m37 ?_ | fail))
    | (refine gateC ?_; (first | refine k_lt ?_ | refine k_fz ?_ | refine k_lb (by (conv => {lhs; whnf}); done) ?_ | refine k_ms ?_ | refine k_bx (by exact rfl) (by exact rfl) ?_ | refine m34 ?_ | refine m35 ?_ | refine m33 ?_ | refine k_mn ?_ | refine m56 ?_ | refine k_mnF ?_ | refine k_mnL (by exact rfl) ?_ | fail))
    | (refine gateT ?_; (first | refine b_thn ?_ | refine b_thr ?_ | refine b_the ?_ | fail))
    | (refine gateX ?_; (first | refine b_seq ?_ | refine b_region ?_ | (refine m06 ?_; (first | refine c_T ?_ | refine c_F ?_ | refine c_P ?_ ?_ | refine c_B ?_ ?_ | fail)) | refine b_ret ?_ | refine b_skip ?_ | refine b_block ?_ | refine b_exit ?_ | refine b_draw (id := 7) [] [] [(0, .ld true), (1, .lt), (2, .mn true), (3, .mn true), (4, .lt), (5, .lt), (6, .lt), (7, .lt), (8, .lt)] (by kernel_rfl) ?_ | fail))
    | refine m21 ?_
    | refine a_nil ?_
    | (refine gateK ?_; (first | refine c_call (run_7_c _) (OldOk.app (by simp)) ?_ | refine c_call (great_f _ x l off rows cols ld hI q la ao ar ac al hJ q' p hpm (aI kr rl) rl (fun H => aI_IL H kr rl) (aI kc cl) cl (fun H => aI_IL H kc cl) hrm hcm hs) (OldOk.app (by simp)) ?_ | refine c_call (copy_k _ _ (aD xb bl) bl (aD_FL _ xb bl) (by omega) _ (by (conv => {lhs; simp only [List.length_append, List.length_cons, List.length_nil, List.length_set, Nat.reduceAdd, Nat.zero_add]}); done) (by (conv => {lhs; simp only [List.append_assoc, List.cons_append, List.nil_append]}); done)) (OldOk.app (by simp)) ?_ | refine c_call (sv_e _ _ _ _ _ _ _ _ _ _ _ _ (aI kr rl) (aI kc cl) (by exact rfl) (by exact rfl) _ bl.length (by exact rfl) 3 (by decide) (fun N => check_3 _ x l off rows cols ld hI q la ao ar ac al hJ q' p (by omega) (aI kr rl) rl (fun H => aI_IL H kr rl) (aI kc cl) cl (fun H => aI_IL H kc cl) hg hr hz9)) (OldOk.app (by simp)) ?_ | refine c_call (st_e _ _ _ _ _ _ _ _ _ _ _ _ (aI kr rl) (aI kc cl) (by exact rfl) (by exact rfl) _ bl.length (by exact rfl) 3 (by decide) (fun N => check_3 _ x l off rows cols ld hI q la ao ar ac al hJ q' p (by omega) (aI kr rl) rl (fun H => aI_IL H kr rl) (aI kc cl) cl (fun H => aI_IL H kc cl) hg hr hz9)) (OldOk.app (by simp)) ?_ | refine c_call (check_3 _ x l off rows cols ld hI q la ao ar ac al hJ q' p (by omega) (aI kr rl) rl (fun H => aI_IL H kr rl) (aI kc cl) cl (fun H => aI_IL H kc cl) hg hr hz9) (OldOk.app (by simp)) ?_ | refine c_call (rchk_3 _ x l off rows cols ld hI q la ao ar ac al hJ q' p (by omega) (aI kr rl) rl (fun H => aI_IL H kr rl) (aI kc cl) cl (fun H => aI_IL H kc cl) hg hr hz9) (OldOk.app (by simp)) ?_ | fail))
    | refine m58 ?_
    | refine fk_nil ?_
    | (refine gateQ ?_; refine m05 ?_)
    | (refine gateR ?_; (first | refine m04 ?_ | refine m02 ?_ | refine m03 ?_ | refine rk_nil ?_ | fail))
    | intro _)
  all_goals first
    | (exfalso; contradiction)
    | (exfalso; omega)
    | (exfalso; simp_all; done)
    | (refine rv_old rfl (by simp [mx, mxL, resOne, aOf, aOf1]) ?_; exact rfl)

set_option maxHeartbeats 4000000 in
theorem law_4 (H : List (List AV)) (x : Nat × Nat) (l : List Nat) (off ld : Int) (n : Nat) (hI : MI l.length off n n ld) (hG : GoodP l.length off n n ld) (q : Nat × Nat) (la : List Nat) (ao al : Int) (hJ : MI la.length ao n n al) (hGa : GoodP la.length ao n n al) (q' : Nat × Nat) (p : List Int) (hpm : p.length ≤ 9223372036854775807) (hpl : p.length = n) (hpv : pivP p) (kr : Nat × Nat) (rl : List Int) (hrm : rl.length ≤ 9223372036854775807) (kc : Nat × Nat) (cl : List Int) (hcm : cl.length ≤ 9223372036854775807) (xb : Nat × Nat) (bl : List Nat) (hbm : bl.length ≤ 9223372036854775807) (hrl : rl.length = n) (hcl : cl.length = n) (hn1 : 1 ≤ n) (hn : n ≤ 64) (hs : (l.length ≤ 1000 ∧ (n : Int) ≤ 20 ∧ (n : Int) ≤ 20 ∧ la.length ≤ 1000 ∧ (n : Int) ≤ 20 ∧ (n : Int) ≤ 20 ∧ p.length ≤ 60 ∧ rl.length ≤ 60 ∧ cl.length ≤ 60)) (hb : bl.length ≤ 60) (z : Nat) (hzn : z < n) (hz : ∀ k, k < z → feq ((mel la ao al) k k) 0 = false) (hz1 : feq ((mel la ao al) z z) 0 = true) :
    Spec Try.prog 3 [mt (aD x l) off (n : Int) (n : Int) ld, .agg [aD q la, .int .i64 ao, .int .i64 (n : Int), .int .i64 (n : Int), .int .i64 al, aI q' p], aI kr rl, aI kc cl, aD xb bl] H (.bool true) H := by
  obtain ⟨hm, ho1, ho2, hr1, hr2, hc1, hc2, hl1, hl2⟩ := id hI
  obtain ⟨hm', ho1', ho2', hr1', hr2', hc1', hc2', hl1', hl2'⟩ := id hJ
  refine (Spec.intro' (fn := Try.f3) Try.func3 rfl (by kernel_rfl) (by simp) false [] (draw := drawX Try.prog ⟨false, _, []⟩) dOk ?_)
  simp only [argE, Nat.reduceAdd]
  repeat' (first
    | (refine gateE ?_; (first | refine b_c0 ?_ | refine b_nil ?_ | refine m13 ?_ | refine m12 ?_ | refine m11 ?_ | (refine m10 ?_; (first | refine g_TT ?_ | refine g_FF ?_ | refine g_TF ?_ | refine g_FT ?_ | refine g_PT ?_ ?_ | refine g_PF ?_ ?_ | refine g_BT ?_ ?_ | refine g_BF ?_ ?_ | fail)) | (refine m09 ?_; (first | refine g_TT ?_ | refine g_FF ?_ | refine g_TF ?_ | refine g_FT ?_ | refine g_PT ?_ ?_ | refine g_PF ?_ ?_ | refine g_BT ?_ ?_ | refine g_BF ?_ ?_ | fail)) | refine m38 ?_ | fail))
    | (refine gateO ?_; (first | refine m14 ?_ | (refine m17 ?_; first | refine m19 ?_ | refine m18 ?_) | (refine m07 ?_; (first | refine m15 ?_ | refine m16 ?_ | fail)) | (refine b_binBn (by first | (conv => {lhs; whnf}; done) | exact (by exact rfl) | fail) (by first | (conv => {lhs; whnf}; done) | exact (by exact rfl) | fail) ?_; (first | refine v_bnF (by exact rfl) ?_ | refine v_bnT (by decide) ?_ | fail)) | refine b_lenA (by (conv => {lhs; whnf}); done) (by exact (aI_IL [] kr rl).len) ?_ | refine b_lenA (by (conv => {lhs; whnf}); done) (by exact (aI_IL [] kc cl).len) ?_ | refine b_lenA (by (conv => {lhs; whnf}); done) (by exact (aI_IL [] q' p).len) ?_ | refine b_lenA (by (conv => {lhs; whnf}); done) (by exact aD_len xb bl) ?_ | (refine m45 ?_; (first | refine v_bbT (by exact rfl) ?_ | refine v_k ?_ | fail)) | (refine m00 ?_; (first | refine m52 ?_ | refine m53 ?_ | refine v_eP ?_ | refine m54 ?_ | refine m55 ?_ | refine v_neP ?_ | refine m47 ?_ | refine m48 ?_ | refine m49 ?_ | refine m50 ?_ | refine v_nT ?_ | refine v_nF ?_ | refine v_nP ?_ | refine v_k ?_ | refine m51 ?_ | fail)) | (refine m22 ?_; (first | refine m26 ?_ | refine m27 ?_ | fail)) | refine m42 ?_ | refine b_assignI ?_ | refine b_assignN ?_ | refine m08 ?_ | (refine m20 ?_; (first | refine m52 ?_ | refine m53 ?_ | refine v_eP ?_ | refine m54 ?_ | refine m55 ?_ | refine v_neP ?_ | refine m47 ?_ | refine m48 ?_ | refine m49 ?_ | refine m50 ?_ | refine v_nT ?_ | refine v_nF ?_ | refine v_nP ?_ | refine v_k ?_ | refine m51 ?_ | fail)) | refine b_callB ?_ | refine b_lenA (by (conv => {lhs; whnf}); done) (by first | rfl | assumption) ?_ | refine m23 ?_ | refine m25 ?_ | refine m01 ?_ | refine m24 ?_ | refine b_build ?_ | fail))
    | (refine gateD ?_; (first | refine m36 ?_ | refine d_nil ?_ | refine m32 ?_ | refine m31 ?_ | refine m30 ?_ | (refine m28 ?_; (first | refine dg_TT ?_ | refine dg_FF ?_ | refine dg_TF ?_ | refine dg_FT ?_ | refine dg_PT ?_ ?_ | refine dg_PF ?_ ?_ | refine dg_BT ?_ ?_ | refine dg_BF ?_ ?_ | fail)) | (refine m29 ?_; (first | refine dg_TT ?_ | refine dg_FF ?_ | refine dg_TF ?_ | refine dg_FT ?_ | refine dg_PT ?_ ?_ | refine dg_PF ?_ ?_ | refine dg_BT ?_ ?_ | refine dg_BF ?_ ?_ | fail)) | refine m37 ?_ | fail))
    | (refine gateC ?_; (first | refine k_lt ?_ | refine k_fz ?_ | refine k_lb (by (conv => {lhs; whnf}); done) ?_ | refine k_ms ?_ | refine k_bx (by exact rfl) (by exact rfl) ?_ | refine m34 ?_ | refine m35 ?_ | refine m33 ?_ | refine k_mn ?_ | refine m56 ?_ | refine k_mnF ?_ | refine k_mnL (by exact rfl) ?_ | fail))
    | (refine gateT ?_; (first | refine b_thn ?_ | refine b_thr ?_ | refine b_the ?_ | fail))
    | (refine gateX ?_; (first | refine b_seq ?_ | refine b_region ?_ | (refine m06 ?_; (first | refine c_T ?_ | refine c_F ?_ | refine c_P ?_ ?_ | refine c_B ?_ ?_ | fail)) | refine b_ret ?_ | refine b_skip ?_ | refine b_block ?_ | refine b_exit ?_ | refine b_draw (id := 7) [] [] [(0, .ld true), (1, .lt), (2, .mn true), (3, .mn true), (4, .lt), (5, .lt), (6, .lt), (7, .lt), (8, .lt)] (by kernel_rfl) ?_ | fail))
    | refine m21 ?_
    | refine a_nil ?_
    | (refine gateK ?_; (first | refine c_call (run_7_c _) (OldOk.app (by simp)) ?_ | refine c_call (great_f _ x l off n n ld hI q la ao n n al hJ q' p hpm (aI kr rl) rl (fun H => aI_IL H kr rl) (aI kc cl) cl (fun H => aI_IL H kc cl) hrm hcm hs) (OldOk.app (by simp)) ?_ | refine c_call (copy_k _ _ (aD xb bl) bl (aD_FL _ xb bl) (by omega) _ (by (conv => {lhs; simp only [List.length_append, List.length_cons, List.length_nil, List.length_set, Nat.reduceAdd, Nat.zero_add]}); done) (by (conv => {lhs; simp only [List.append_assoc, List.cons_append, List.nil_append]}); done)) (OldOk.app (by simp)) ?_ | refine c_call (sv_e _ _ _ _ _ _ _ _ _ _ _ _ (aI kr rl) (aI kc cl) (by exact rfl) (by exact rfl) _ bl.length (by exact rfl) 4 (by decide) (fun N => check_4 _ x l off ld n hI hG q la ao al hJ hGa q' p hpl hpv (aI kr rl) rl (fun H => aI_IL H kr rl) (aI kc cl) cl (fun H => aI_IL H kc cl) hrl hcl hn1 hn z hzn hz hz1)) (OldOk.app (by simp)) ?_ | refine c_call (st_e _ _ _ _ _ _ _ _ _ _ _ _ (aI kr rl) (aI kc cl) (by exact rfl) (by exact rfl) _ bl.length (by exact rfl) 4 (by decide) (fun N => check_4 _ x l off ld n hI hG q la ao al hJ hGa q' p hpl hpv (aI kr rl) rl (fun H => aI_IL H kr rl) (aI kc cl) cl (fun H => aI_IL H kc cl) hrl hcl hn1 hn z hzn hz hz1)) (OldOk.app (by simp)) ?_ | refine c_call (check_4 _ x l off ld n hI hG q la ao al hJ hGa q' p hpl hpv (aI kr rl) rl (fun H => aI_IL H kr rl) (aI kc cl) cl (fun H => aI_IL H kc cl) hrl hcl hn1 hn z hzn hz hz1) (OldOk.app (by simp)) ?_ | refine c_call (rchk_4 _ x l off ld n hI hG q la ao al hJ hGa q' p hpl hpv kr kc rl cl hrl hcl hn1 hn z hzn hz hz1) (OldOk.app (by simp)) ?_ | fail))
    | refine m58 ?_
    | refine fk_nil ?_
    | (refine gateQ ?_; refine m05 ?_)
    | (refine gateR ?_; (first | refine m04 ?_ | refine m02 ?_ | refine m03 ?_ | refine rk_nil ?_ | fail))
    | intro _)
  all_goals first
    | (exfalso; contradiction)
    | (exfalso; omega)
    | (exfalso; simp_all; done)
    | (refine rv_old rfl (by simp [mx, mxL, resOne, aOf, aOf1]) ?_; exact rfl)

set_option maxHeartbeats 4000000 in
theorem law_l (H : List (List AV)) (x : Nat × Nat) (l : List Nat) (off ld : Int) (n : Nat) (hI : MI l.length off n n ld) (hG : GoodP l.length off n n ld) (q : Nat × Nat) (la : List Nat) (ao al : Int) (hJ : MI la.length ao n n al) (hGa : GoodP la.length ao n n al) (q' : Nat × Nat) (p : List Int) (hpm : p.length ≤ 9223372036854775807) (hpl : p.length = n) (hpv : pivP p) (kr : Nat × Nat) (rl : List Int) (hrm : rl.length ≤ 9223372036854775807) (kc : Nat × Nat) (cl : List Int) (hcm : cl.length ≤ 9223372036854775807) (xb : Nat × Nat) (bl : List Nat) (hbm : bl.length ≤ 9223372036854775807) (hrl : rl.length = n) (hcl : cl.length = n) (hn1 : 1 ≤ n) (hn : n ≤ 64) (hs : (l.length ≤ 1000 ∧ (n : Int) ≤ 20 ∧ (n : Int) ≤ 20 ∧ la.length ≤ 1000 ∧ (n : Int) ≤ 20 ∧ (n : Int) ≤ 20 ∧ p.length ≤ 60 ∧ rl.length ≤ 60 ∧ cl.length ≤ 60)) (hb : bl.length ≤ 60) (hz : ∀ k, k < n → feq ((mel la ao al) k k) 0 = false) (hbn : bl.length ≠ n) :
    Spec Try.prog 3 [mt (aD x l) off (n : Int) (n : Int) ld, .agg [aD q la, .int .i64 ao, .int .i64 (n : Int), .int .i64 (n : Int), .int .i64 al, aI q' p], aI kr rl, aI kc cl, aD xb bl] H (.bool true) H := by
  obtain ⟨hm, ho1, ho2, hr1, hr2, hc1, hc2, hl1, hl2⟩ := id hI
  obtain ⟨hm', ho1', ho2', hr1', hr2', hc1', hc2', hl1', hl2'⟩ := id hJ
  refine (Spec.intro' (fn := Try.f3) Try.func3 rfl (by kernel_rfl) (by simp) false [] (draw := drawX Try.prog ⟨false, _, []⟩) dOk ?_)
  simp only [argE, Nat.reduceAdd]
  repeat' (first
    | (refine gateE ?_; (first | refine b_c0 ?_ | refine b_nil ?_ | refine m13 ?_ | refine m12 ?_ | refine m11 ?_ | (refine m10 ?_; (first | refine g_TT ?_ | refine g_FF ?_ | refine g_TF ?_ | refine g_FT ?_ | refine g_PT ?_ ?_ | refine g_PF ?_ ?_ | refine g_BT ?_ ?_ | refine g_BF ?_ ?_ | fail)) | (refine m09 ?_; (first | refine g_TT ?_ | refine g_FF ?_ | refine g_TF ?_ | refine g_FT ?_ | refine g_PT ?_ ?_ | refine g_PF ?_ ?_ | refine g_BT ?_ ?_ | refine g_BF ?_ ?_ | fail)) | refine m38 ?_ | fail))
    | (refine gateO ?_; (first | refine m14 ?_ | (refine m17 ?_; first | refine m19 ?_ | refine m18 ?_) | (refine m07 ?_; (first | refine m15 ?_ | refine m16 ?_ | fail)) | (refine b_binBn (by first | (conv => {lhs; whnf}; done) | exact (by exact rfl) | fail) (by first | (conv => {lhs; whnf}; done) | exact (by exact rfl) | fail) ?_; (first | refine v_bnF (by exact rfl) ?_ | refine v_bnT (by decide) ?_ | fail)) | refine b_lenA (by (conv => {lhs; whnf}); done) (by exact (aI_IL [] kr rl).len) ?_ | refine b_lenA (by (conv => {lhs; whnf}); done) (by exact (aI_IL [] kc cl).len) ?_ | refine b_lenA (by (conv => {lhs; whnf}); done) (by exact (aI_IL [] q' p).len) ?_ | refine b_lenA (by (conv => {lhs; whnf}); done) (by exact aD_len xb bl) ?_ | (refine m45 ?_; (first | refine v_bbT (by exact rfl) ?_ | refine v_k ?_ | fail)) | (refine m00 ?_; (first | refine m52 ?_ | refine m53 ?_ | refine v_eP ?_ | refine m54 ?_ | refine m55 ?_ | refine v_neP ?_ | refine m47 ?_ | refine m48 ?_ | refine m49 ?_ | refine m50 ?_ | refine v_nT ?_ | refine v_nF ?_ | refine v_nP ?_ | refine v_k ?_ | refine m51 ?_ | fail)) | (refine m22 ?_; (first | refine m26 ?_ | refine m27 ?_ | fail)) | refine m42 ?_ | refine b_assignI ?_ | refine b_assignN ?_ | refine m08 ?_ | (refine m20 ?_; (first | refine m52 ?_ | refine m53 ?_ | refine v_eP ?_ | refine m54 ?_ | refine m55 ?_ | refine v_neP ?_ | refine m47 ?_ | refine m48 ?_ | refine m49 ?_ | refine m50 ?_ | refine v_nT ?_ | refine v_nF ?_ | refine v_nP ?_ | refine v_k ?_ | refine m51 ?_ | fail)) | refine b_callB ?_ | refine b_lenA (by (conv => {lhs; whnf}); done) (by first | rfl | assumption) ?_ | refine m23 ?_ | refine m25 ?_ | refine m01 ?_ | refine m24 ?_ | refine b_build ?_ | fail))
    | (refine gateD ?_; (first | refine m36 ?_ | refine d_nil ?_ | refine m32 ?_ | refine m31 ?_ | refine m30 ?_ | (refine m28 ?_; (first | refine dg_TT ?_ | refine dg_FF ?_ | refine dg_TF ?_ | refine dg_FT ?_ | refine dg_PT ?_ ?_ | refine dg_PF ?_ ?_ | refine dg_BT ?_ ?_ | refine dg_BF ?_ ?_ | fail)) | (refine m29 ?_; (first | refine dg_TT ?_ | refine dg_FF ?_ | refine dg_TF ?_ | refine dg_FT ?_ | refine dg_PT ?_ ?_ | refine dg_PF ?_ ?_ | refine dg_BT ?_ ?_ | refine dg_BF ?_ ?_ | fail)) | refine m37 ?_ | fail))
    | (refine gateC ?_; (first | refine k_lt ?_ | refine k_fz ?_ | refine k_lb (by (conv => {lhs; whnf}); done) ?_ | refine k_ms ?_ | refine k_bx (by exact rfl) (by exact rfl) ?_ | refine m34 ?_ | refine m35 ?_ | refine m33 ?_ | refine k_mn ?_ | refine m56 ?_ | refine k_mnF ?_ | refine k_mnL (by exact rfl) ?_ | fail))
    | (refine gateT ?_; (first | refine b_thn ?_ | refine b_thr ?_ | refine b_the ?_ | fail))
    | (refine gateX ?_; (first | refine b_seq ?_ | refine b_region ?_ | (refine m06 ?_; (first | refine c_T ?_ | refine c_F ?_ | refine c_P ?_ ?_ | refine c_B ?_ ?_ | fail)) | refine b_ret ?_ | refine b_skip ?_ | refine b_block ?_ | refine b_exit ?_ | refine b_draw (id := 7) [] [] [(0, .ld true), (1, .lt), (2, .mn true), (3, .mn true), (4, .lt), (5, .lt), (6, .lt), (7, .lt), (8, .lt)] (by kernel_rfl) ?_ | fail))
    | refine m21 ?_
    | refine a_nil ?_
    | (refine gateK ?_; (first | refine c_call (run_7_c _) (OldOk.app (by simp)) ?_ | refine c_call (great_f _ x l off n n ld hI q la ao n n al hJ q' p hpm (aI kr rl) rl (fun H => aI_IL H kr rl) (aI kc cl) cl (fun H => aI_IL H kc cl) hrm hcm hs) (OldOk.app (by simp)) ?_ | refine c_call (copy_k _ _ (aD xb bl) bl (aD_FL _ xb bl) (by omega) _ (by (conv => {lhs; simp only [List.length_append, List.length_cons, List.length_nil, List.length_set, Nat.reduceAdd, Nat.zero_add]}); done) (by (conv => {lhs; simp only [List.append_assoc, List.cons_append, List.nil_append]}); done)) (OldOk.app (by simp)) ?_ | refine c_call (sv_l _ x l off ld n hI hG q la ao al hJ hGa q' p hpl hpv (aI kr rl) rl (fun H => aI_IL H kr rl) (aI kc cl) cl (fun H => aI_IL H kc cl) hrl hcl hn1 hn hz _ bl.length (by exact rfl) hbn) (OldOk.app (by simp)) ?_ | refine c_call (st_l _ x l off ld n hI hG q la ao al hJ hGa q' p hpl hpv (aI kr rl) rl (fun H => aI_IL H kr rl) (aI kc cl) cl (fun H => aI_IL H kc cl) hrl hcl hn1 hn hz _ bl.length (by exact rfl) hbn) (OldOk.app (by simp)) ?_ | refine c_call (check_0 _ x l off ld n hI hG q la ao al hJ hGa q' p hpl hpv (aI kr rl) rl (fun H => aI_IL H kr rl) (aI kc cl) cl (fun H => aI_IL H kc cl) hrl hcl hn1 hn hz) (OldOk.app (by simp)) ?_ | refine c_call (rchk_0 _ x l off ld n hI hG q la ao al hJ hGa q' p hpl hpv kr kc rl cl hrl hcl hn1 hn hz) (OldOk.app (by simp)) ?_ | fail))
    | refine m58 ?_
    | refine fk_nil ?_
    | (refine gateQ ?_; refine m05 ?_)
    | (refine gateR ?_; (first | refine m04 ?_ | refine m02 ?_ | refine m03 ?_ | refine rk_nil ?_ | fail))
    | intro _)
  all_goals first
    | (exfalso; contradiction)
    | (exfalso; omega)
    | (exfalso; simp_all; done)
    | (refine rv_old rfl (by simp [mx, mxL, resOne, aOf, aOf1]) ?_; exact rfl)

set_option maxHeartbeats 4000000 in
theorem law_0 (H : List (List AV)) (x : Nat × Nat) (l : List Nat) (off ld : Int) (n : Nat) (hI : MI l.length off n n ld) (hG : GoodP l.length off n n ld) (q : Nat × Nat) (la : List Nat) (ao al : Int) (hJ : MI la.length ao n n al) (hGa : GoodP la.length ao n n al) (q' : Nat × Nat) (p : List Int) (hpm : p.length ≤ 9223372036854775807) (hpl : p.length = n) (hpv : pivP p) (kr : Nat × Nat) (rl : List Int) (hrm : rl.length ≤ 9223372036854775807) (kc : Nat × Nat) (cl : List Int) (hcm : cl.length ≤ 9223372036854775807) (xb : Nat × Nat) (bl : List Nat) (hbm : bl.length ≤ 9223372036854775807) (hrl : rl.length = n) (hcl : cl.length = n) (hn1 : 1 ≤ n) (hn : n ≤ 64) (hs : (l.length ≤ 1000 ∧ (n : Int) ≤ 20 ∧ (n : Int) ≤ 20 ∧ la.length ≤ 1000 ∧ (n : Int) ≤ 20 ∧ (n : Int) ≤ 20 ∧ p.length ≤ 60 ∧ rl.length ≤ 60 ∧ cl.length ≤ 60)) (hb : bl.length ≤ 60) (hz : ∀ k, k < n → feq ((mel la ao al) k k) 0 = false) (hbn : bl.length = n) :
    Spec Try.prog 3 [mt (aD x l) off (n : Int) (n : Int) ld, .agg [aD q la, .int .i64 ao, .int .i64 (n : Int), .int .i64 (n : Int), .int .i64 al, aI q' p], aI kr rl, aI kc cl, aD xb bl] H (.bool true) H := by
  obtain ⟨hm, ho1, ho2, hr1, hr2, hc1, hc2, hl1, hl2⟩ := id hI
  obtain ⟨hm', ho1', ho2', hr1', hr2', hc1', hc2', hl1', hl2'⟩ := id hJ
  have hself : rml (fun i => bl.getD i 0) n = bl := by rw [← hbn]; exact rml_self bl
  refine (Spec.intro' (fn := Try.f3) Try.func3 rfl (by kernel_rfl) (by simp) false [] (draw := drawX Try.prog ⟨false, _, []⟩) dOk ?_)
  simp only [argE, Nat.reduceAdd]
  repeat' (first
    | (refine gateE ?_; (first | refine b_c0 ?_ | refine b_nil ?_ | refine m13 ?_ | refine m12 ?_ | refine m11 ?_ | (refine m10 ?_; (first | refine g_TT ?_ | refine g_FF ?_ | refine g_TF ?_ | refine g_FT ?_ | refine g_PT ?_ ?_ | refine g_PF ?_ ?_ | refine g_BT ?_ ?_ | refine g_BF ?_ ?_ | fail)) | (refine m09 ?_; (first | refine g_TT ?_ | refine g_FF ?_ | refine g_TF ?_ | refine g_FT ?_ | refine g_PT ?_ ?_ | refine g_PF ?_ ?_ | refine g_BT ?_ ?_ | refine g_BF ?_ ?_ | fail)) | refine m38 ?_ | fail))
    | (refine gateO ?_; (first | refine m14 ?_ | (refine m17 ?_; first | refine m19 ?_ | refine m18 ?_) | (refine m07 ?_; (first | refine m15 ?_ | refine m16 ?_ | fail)) | (refine b_binBn (by first | (conv => {lhs; whnf}; done) | exact (by exact rfl) | fail) (by first | (conv => {lhs; whnf}; done) | exact (by exact rfl) | fail) ?_; (first | refine v_bnF (by exact rfl) ?_ | refine v_bnT (by decide) ?_ | fail)) | refine b_lenA (by (conv => {lhs; whnf}); done) (by exact (aI_IL [] kr rl).len) ?_ | refine b_lenA (by (conv => {lhs; whnf}); done) (by exact (aI_IL [] kc cl).len) ?_ | refine b_lenA (by (conv => {lhs; whnf}); done) (by exact (aI_IL [] q' p).len) ?_ | refine b_lenA (by (conv => {lhs; whnf}); done) (by exact aD_len xb bl) ?_ | (refine m45 ?_; (first | refine v_bbT (by exact rfl) ?_ | refine v_k ?_ | fail)) | (refine m00 ?_; (first | refine m52 ?_ | refine m53 ?_ | refine v_eP ?_ | refine m54 ?_ | refine m55 ?_ | refine v_neP ?_ | refine m47 ?_ | refine m48 ?_ | refine m49 ?_ | refine m50 ?_ | refine v_nT ?_ | refine v_nF ?_ | refine v_nP ?_ | refine v_k ?_ | refine m51 ?_ | fail)) | (refine m22 ?_; (first | refine m26 ?_ | refine m27 ?_ | fail)) | refine m42 ?_ | refine b_assignI ?_ | refine b_assignN ?_ | refine m08 ?_ | (refine m20 ?_; (first | refine m52 ?_ | refine m53 ?_ | refine v_eP ?_ | refine m54 ?_ | refine m55 ?_ | refine v_neP ?_ | refine m47 ?_ | refine m48 ?_ | refine m49 ?_ | refine m50 ?_ | refine v_nT ?_ | refine v_nF ?_ | refine v_nP ?_ | refine v_k ?_ | refine m51 ?_ | fail)) | refine b_callB ?_ | refine b_lenA (by (conv => {lhs; whnf}); done) (by first | rfl | assumption) ?_ | refine m23 ?_ | refine m25 ?_ | refine m01 ?_ | refine m24 ?_ | refine b_build ?_ | fail))
    | (refine gateD ?_; (first | refine m36 ?_ | refine d_nil ?_ | refine m32 ?_ | refine m31 ?_ | refine m30 ?_ | (refine m28 ?_; (first | refine dg_TT ?_ | refine dg_FF ?_ | refine dg_TF ?_ | refine dg_FT ?_ | refine dg_PT ?_ ?_ | refine dg_PF ?_ ?_ | refine dg_BT ?_ ?_ | refine dg_BF ?_ ?_ | fail)) | (refine m29 ?_; (first | refine dg_TT ?_ | refine dg_FF ?_ | refine dg_TF ?_ | refine dg_FT ?_ | refine dg_PT ?_ ?_ | refine dg_PF ?_ ?_ | refine dg_BT ?_ ?_ | refine dg_BF ?_ ?_ | fail)) | refine m37 ?_ | fail))
    | (refine gateC ?_; (first | refine k_lt ?_ | refine k_fz ?_ | refine k_lb (by (conv => {lhs; whnf}); done) ?_ | refine k_ms ?_ | refine k_bx (by exact rfl) (by exact rfl) ?_ | refine m34 ?_ | refine m35 ?_ | refine m33 ?_ | refine k_mn ?_ | refine m56 ?_ | refine k_mnF ?_ | refine k_mnL (by exact rfl) ?_ | fail))
    | (refine gateT ?_; (first | refine b_thn ?_ | refine b_thr ?_ | refine b_the ?_ | fail))
    | (refine gateX ?_; (first | refine b_seq ?_ | refine b_region ?_ | (refine m06 ?_; (first | refine c_T ?_ | refine c_F ?_ | refine c_P ?_ ?_ | refine c_B ?_ ?_ | fail)) | refine b_ret ?_ | refine b_skip ?_ | refine b_block ?_ | refine b_exit ?_ | refine b_draw (id := 7) [] [] [(0, .ld true), (1, .lt), (2, .mn true), (3, .mn true), (4, .lt), (5, .lt), (6, .lt), (7, .lt), (8, .lt)] (by kernel_rfl) ?_ | fail))
    | refine m21 ?_
    | refine a_nil ?_
    | (refine gateK ?_; (first | refine c_call (run_7_c _) (OldOk.app (by simp)) ?_ | refine c_call (great_f _ x l off n n ld hI q la ao n n al hJ q' p hpm (aI kr rl) rl (fun H => aI_IL H kr rl) (aI kc cl) cl (fun H => aI_IL H kc cl) hrm hcm hs) (OldOk.app (by simp)) ?_ | refine c_call (copy_k _ _ (aD xb bl) bl (aD_FL _ xb bl) (by omega) _ (by (conv => {lhs; simp only [List.length_append, List.length_cons, List.length_nil, List.length_set, Nat.reduceAdd, Nat.zero_add]}); done) (by (conv => {lhs; simp only [List.append_assoc, List.cons_append, List.nil_append]}); done)) (OldOk.app (by simp)) ?_ | refine c_call (sv_ok _ x l off ld n hI hG q la ao al hJ hGa q' p hpl hpv (aI kr rl) rl (fun H => aI_IL H kr rl) (aI kc cl) cl (fun H => aI_IL H kc cl) hrl hcl hn1 hn hz _ (fun i => bl.getD i 0) (fun N => by rw [hself]; exact FL.old (by rw [List.append_assoc]; exact hg_new (j := 0) (by exact rfl) rfl) (by exact rfl) rfl) (NN.slm _ _ _ _ _) (by simp [aI, mx, mxL_il]) (by simp [aI, mx, mxL_il]) _ (by (conv => {lhs; simp only [List.append_assoc, List.cons_append, List.nil_append]}); done) _ (by (conv => {lhs; simp only [List.length_append, List.length_cons, List.length_nil, List.length_set, Nat.reduceAdd, Nat.zero_add]}); done)) (OldOk.app (by simp)) ?_ | refine c_call (st_ok _ x l off ld n hI hG q la ao al hJ hGa q' p hpl hpv (aI kr rl) rl (fun H => aI_IL H kr rl) (aI kc cl) cl (fun H => aI_IL H kc cl) hrl hcl hn1 hn hz _ (fun i => bl.getD i 0) (fun N => by rw [hself]; exact aD_FL _ xb bl) (NN.sl (by omega)) (by simp [aI, mx, mxL_il]) (by simp [aI, mx, mxL_il]) _ (by (conv => {lhs; simp only [List.append_assoc, List.cons_append, List.nil_append]}); done) _ (by (conv => {lhs; simp only [List.length_append, List.length_cons, List.length_nil, List.length_set, Nat.reduceAdd, Nat.zero_add]}); done)) (OldOk.app (by simp)) ?_ | refine c_call (check_0 _ x l off ld n hI hG q la ao al hJ hGa q' p hpl hpv (aI kr rl) rl (fun H => aI_IL H kr rl) (aI kc cl) cl (fun H => aI_IL H kc cl) hrl hcl hn1 hn hz) (OldOk.app (by simp)) ?_ | refine c_call (rchk_0 _ x l off ld n hI hG q la ao al hJ hGa q' p hpl hpv kr kc rl cl hrl hcl hn1 hn hz) (OldOk.app (by simp)) ?_ | refine c_call (rsv_c _ x l off ld n hI hG q la ao al hJ hGa q' p hpl hpv (aI kr rl) rl (fun H => aI_IL H kr rl) (aI kc cl) cl (fun H => aI_IL H kc cl) hrl hcl hn1 hn hz (aD xb bl) bl (fun H => aD_FL H xb bl) hbn) (OldOk.app (by simp)) ?_ | refine c_call (rst_c _ x l off ld n hI hG q la ao al hJ hGa q' p hpl hpv (aI kr rl) rl (fun H => aI_IL H kr rl) (aI kc cl) cl (fun H => aI_IL H kc cl) hrl hcl hn1 hn hz (aD xb bl) bl (fun H => aD_FL H xb bl) hbn) (OldOk.app (by simp)) ?_ | refine c_call (all_t _ _ (rml (shF (up2 (mel la ao al) (lo1 (mel la ao al) (tkF p (shF (fun i => bl.getD i 0) rl n) n) n) n n) cl n) n) (FL.old (hg_new (j := 1) (by exact rfl) rfl) (by simp) (by simp)) (by simp; omega) _ (rml (shF (up2 (mel la ao al) (lo1 (mel la ao al) (tkF p (shF (fun i => bl.getD i 0) rl n) n) n) n n) cl n) n) (FLz _ _ _ (by simp)) rfl) (OldOk.app (by simp)) ?_ | refine c_call (all_t _ _ (rml (shF (tkB p (lt3 (mel la ao al) (ut4 (mel la ao al) (shF (fun i => bl.getD i 0) cl n) n) n n) n) rl n) n) (FL.old (hg_new (j := 2) (by exact rfl) rfl) (by simp) (by simp)) (by simp; omega) _ (rml (shF (tkB p (lt3 (mel la ao al) (ut4 (mel la ao al) (shF (fun i => bl.getD i 0) cl n) n) n n) n) rl n) n) (FLz _ _ _ (by simp)) rfl) (OldOk.app (by simp)) ?_ | fail))
    | refine m58 ?_
    | refine fk_nil ?_
    | (refine gateQ ?_; refine m05 ?_)
    | (refine gateR ?_; (first | refine m04 ?_ | refine m02 ?_ | refine m03 ?_ | refine rk_nil ?_ | fail))
    | intro _)
  all_goals first
    | (exfalso; contradiction)
    | (exfalso; omega)
    | (exfalso; simp_all; done)
    | (refine rv_old rfl (by simp [mx, mxL, resOne, aOf, aOf1]) ?_; exact rfl)


theorem refineSolves_s (H : List (List AV)) (x : Nat × Nat) (l : List Nat) (off rows cols ld : Int) (hI : MI l.length off rows cols ld) (q : Nat × Nat) (la : List Nat) (ao ar ac al : Int) (hJ : MI la.length ao ar ac al) (q' : Nat × Nat) (p : List Int) (hpm : p.length ≤ 9223372036854775807) (kr : Nat × Nat) (rl : List Int) (hrm : rl.length ≤ 9223372036854775807) (kc : Nat × Nat) (cl : List Int) (hcm : cl.length ≤ 9223372036854775807) (xb : Nat × Nat) (bl : List Nat) (hbm : bl.length ≤ 9223372036854775807) : Spec Try.prog 3 [mt (aD x l) off rows cols ld, .agg [aD q la, .int .i64 ao, .int .i64 ar, .int .i64 ac, .int .i64 al, aI q' p], aI kr rl, aI kc cl, aD xb bl] H (.bool true) H := by
  by_cases hs : (l.length ≤ 1000 ∧ rows ≤ 20 ∧ cols ≤ 20 ∧ la.length ≤ 1000 ∧ ar ≤ 20 ∧ ac ≤ 20 ∧ p.length ≤ 60 ∧ rl.length ≤ 60 ∧ cl.length ≤ 60)
  · by_cases hb : bl.length ≤ 60
    · by_cases hok : GoodP l.length off rows cols ld ∧ (GoodP la.length ao ar ac al ∧ ar = ac ∧ ar = (p.length : Int) ∧ pivP p)
      · obtain ⟨hg, hr⟩ := hok
        by_cases hz9 : (cols = rows ∧ 1 ≤ rows ∧ rows ≤ 64 ∧ ar = rows ∧ (rl.length : Int) = rows ∧ (cl.length : Int) = rows)
        · obtain ⟨s1, s2, s3, s4, s5, s6⟩ := id hz9
          obtain ⟨r1, r2, r3, r4⟩ := id hr
          subst s1 r2
          obtain ⟨n, rfl⟩ : ∃ n : Nat, cols = (n : Int) := ⟨cols.toNat, by omega⟩
          subst s4
          rcases first_zero (mel la ao al) n with hz | ⟨z, hzn, hz, hz1⟩
          · by_cases hbn : bl.length = n
            · exact law_0 H x l off ld n hI hg q la ao al hJ r1 q' p hpm (by omega) r4 kr rl hrm kc cl hcm xb bl hbm (by omega) (by omega) (by omega) (by omega) hs hb hz hbn
            · exact law_l H x l off ld n hI hg q la ao al hJ r1 q' p hpm (by omega) r4 kr rl hrm kc cl hcm xb bl hbm (by omega) (by omega) (by omega) (by omega) hs hb hz hbn
          · exact law_4 H x l off ld n hI hg q la ao al hJ r1 q' p hpm (by omega) r4 kr rl hrm kc cl hcm xb bl hbm (by omega) (by omega) (by omega) (by omega) hs hb z hzn hz hz1
        · exact law_3 H x l off rows cols ld hI q la ao ar ac al hJ q' p hpm kr rl hrm kc cl hcm xb bl hbm hs hb hg hr hz9
      · exact law_1 H x l off rows cols ld hI q la ao ar ac al hJ q' p hpm kr rl hrm kc cl hcm xb bl hbm hs hb hok
    · exact law_h H x l off rows cols ld hI q la ao ar ac al hJ q' p hpm kr rl hrm kc cl hcm xb bl hbm hs hb
  · exact law_g H x l off rows cols ld hI q la ao ar ac al hJ q' p hpm kr rl hrm kc cl hcm xb bl hbm hs

end Go.Sx
