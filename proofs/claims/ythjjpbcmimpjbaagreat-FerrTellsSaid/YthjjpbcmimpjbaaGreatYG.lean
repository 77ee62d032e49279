/- A part of the proofs of this seat: YG. No condition is set. -/
import Derived.Test.YthjjpbcmimpjbaaGreatYE
import Derived.Test.YthjjpbcmimpjbaaGreatYF
set_option maxHeartbeats 4000000
set_option linter.unusedVariables false
set_option linter.unusedSimpArgs false
set_option linter.unusedSectionVars false
set_option maxRecDepth 20000
namespace Go.Sx
open Go.Proofs
section
attribute [local irreducible] Ex za3 exD opX opE zca zd3 zd4 Spec zaa Fr zb9 zbb zba ckK zb8 zb6 zbu faK zb4 zd1 gK fK rK zeq lpX prK
theorem zxq (H : List (List AV)) (size off steps step more : Int) (h0 : 0 ≤ size) (hs : size ≤ 9223372036854775807) (h1 : 0 ≤ more) (h2 : 0 ≤ steps) (h3 : 1 ≤ step) (hm : more ≤ 2 ^ 63 - 1) (ho : off ≤ 2^63 -1) (ho' : -(2^63) ≤ off) (hst : step ≤ 2^63 - 1) :
    zaa Tryz.prog 107 [.int .i64 size, .int .i64 off, .int .i64 steps, .int .i64 step, .int .i64 more] H (.bool (decide (0 ≤ off ∧ off < size ∧ more < size - off ∧ steps * step ≤ size - 1 - off - more))) H := by
  refine .go Tryz.call107 Tryz.func107 false [] dOk ?_
  simp only [za0, Nat.reduceAdd]
  repeat' (first
 |(refine zav ?_; (first | refine zbd ?_ | refine zao ?_ | refine m13 ?_ | refine m12 ?_ | refine m11 ?_ | (refine m10 ?_; (first | refine zcv ?_ | refine zcq ?_ | refine zcu ?_ | refine zcr ?_ | refine zct ?_ ?_ | refine zcs ?_ ?_ | refine zcp ?_ ?_ | refine zco ?_ ?_ | fail)) | (refine m09 ?_; (first | refine zcv ?_ | refine zcq ?_ | refine zcu ?_ | refine zcr ?_ | refine zct ?_ ?_ | refine zcs ?_ ?_ | refine zcp ?_ ?_ | refine zco ?_ ?_ | fail)) | refine m38 ?_ | fail))
 |(refine zaw ?_; (first | refine m14 ?_ | (refine m00 ?_; (first | refine m47 ?_ | refine m48 ?_ | refine m49 ?_ | refine m50 ?_ | refine zh7 (by omega) (by omega) ?_ | refine v_k ?_ | refine m51 ?_ | fail)) | (refine m22 ?_; (first | refine m26 ?_ | refine m27 ?_ | fail)) | refine m42 ?_ | refine zab ?_ | refine zac ?_ | refine m08 ?_ | fail))
 |refine zat ?_ | refine zau ?_ | refine zas ?_
 |(refine zax ?_; (first | refine zar ?_ | refine zad ?_ | (refine m06 ?_; (first | refine c_T ?_ | refine c_F ?_ | refine c_P ?_ ?_ | refine c_B ?_ ?_ | fail)) | refine zaq ?_ | refine zah ?_ | refine zae ?_ | refine b_exit ?_ | fail))
 |refine m05 ?_
 |refine m04 ?_ | refine m02 ?_ | refine m03 ?_ | refine zai ?_
 |intro _)
  all_goals first | refine zal rfl (by simp [mx, mxL, aOf, zbn, zaf]) ?_ | (trace_state; fail)
  all_goals first
    | exact rtF (by omega)
    | (refine rvP ?_; rw [Int.le_ediv_iff_mul_le (by omega)]; omega)
theorem zi1 (H : List (List AV)) (D : AV) (n : Nat) (off rows cols ld : Int) (hD : slen D = some n) (hI : MI n off rows cols ld) :
    zaa Tryz.prog 51 [mt D off rows cols ld] H (.bool (decide (zaz n off rows cols ld))) H := by
  obtain ⟨hn, ho1, ho2, hr1, hr2, hc1, hc2, hl1, hl2⟩ := id hI
  refine .go Tryz.call51 Tryz.func51 false [] dOk ?_
  simp only [za0, Nat.reduceAdd]
  repeat' (first
 |(refine zav ?_; (first | refine zbd ?_ | refine zao ?_ | refine m13 ?_ | refine m12 ?_ | refine m11 ?_ | (refine m10 ?_; (first | refine zcv ?_ | refine zcq ?_ | refine zcu ?_ | refine zcr ?_ | refine zct ?_ ?_ | refine zcs ?_ ?_ | refine zcp ?_ ?_ | refine zco ?_ ?_ | fail)) | (refine m09 ?_; (first | refine zcv ?_ | refine zcq ?_ | refine zcu ?_ | refine zcr ?_ | refine zct ?_ ?_ | refine zcs ?_ ?_ | refine zcp ?_ ?_ | refine zco ?_ ?_ | fail)) | refine m38 ?_ | fail))
 |(refine zaw ?_; (first | refine m14 ?_ | (refine m17 ?_; first | refine m19 ?_ | refine m18 ?_) | (refine m07 ?_; (first | refine m15 ?_ | refine m16 ?_ | fail)) | (refine m45 ?_; (first | refine zb3 (by exact rfl) ?_ | refine v_k ?_ | fail)) | (refine m00 ?_; (first | refine m52 ?_ | refine m53 ?_ | refine zc7 ?_ | refine m47 ?_ | refine m48 ?_ | refine m49 ?_ | refine m50 ?_ | refine v_k ?_ | refine m51 ?_ | fail)) | (refine m22 ?_; (first | refine m26 ?_ | refine m27 ?_ | fail)) | refine m42 ?_ | refine zab ?_ | refine zac ?_ | refine m08 ?_ | refine zaj ?_ | refine zam (by (conv => {lhs; whnf}); done) (by first | rfl | assumption) ?_ | refine m01 ?_ | fail))
 |refine zat ?_ | refine zau ?_ | refine zas ?_
 |(refine zax ?_; (first | refine zar ?_ | refine zad ?_ | (refine m06 ?_; (first | refine c_T ?_ | refine c_F ?_ | refine c_P ?_ ?_ | refine c_B ?_ ?_ | fail)) | refine zaq ?_ | refine zah ?_ | refine zae ?_ | refine b_exit ?_ | fail))
 |refine m21 ?_
 |refine za4 ?_
 |(refine za5 ?_; (first | refine c_call (zxq _ _ _ _ _ _ (by omega) (by omega) (by omega) (by omega) (by omega) (by omega) (by omega) (by omega) (by omega)) (zbk.refl _ _) ?_ | fail))
 |refine m05 ?_
 |refine m04 ?_ | refine m02 ?_ | refine m03 ?_ | refine zai ?_
 |intro _)
  all_goals first | refine zal rfl (by simp [mx, mxL, aOf, zbn, zaf]) ?_ | (trace_state; fail)
  all_goals first
    | exact rtF (by unfold zaz; omega)
    | exact rtT (by unfold zaz; omega)
    | exact rvP (by unfold zaz; omega)
theorem zyl (H : List (List AV)) (D : AV) (n : Nat) (off rows cols ld : Int) (hD : slen D = some n) (hI : MI n off rows cols ld) :
    zaa Tryz.prog 171 [mt D off rows cols ld] H (.tup [.int .i64 (sF n off rows cols ld), .int .i64 (sT n off rows cols ld), .bool (decide (zh3 n off rows cols ld))]) H := by
  obtain ⟨hn, ho1, ho2, hr1, hr2, hc1, hc2, hl1, hl2⟩ := id hI
  refine .go Tryz.call171 Tryz.func171 false [] dOk ?_
  simp only [za0, Nat.reduceAdd]
  repeat' (first
 |(refine zav ?_; (first | refine zbd ?_ | refine zao ?_ | refine m13 ?_ | refine m12 ?_ | refine m11 ?_ | (refine m10 ?_; (first | refine zcv ?_ | refine zcq ?_ | refine zcu ?_ | refine zcr ?_ | refine zct ?_ ?_ | refine zcs ?_ ?_ | refine zcp ?_ ?_ | refine zco ?_ ?_ | fail)) | (refine m09 ?_; (first | refine zcv ?_ | refine zcq ?_ | refine zcu ?_ | refine zcr ?_ | refine zct ?_ ?_ | refine zcs ?_ ?_ | refine zcp ?_ ?_ | refine zco ?_ ?_ | fail)) | refine m38 ?_ | fail))
 |(refine zaw ?_; (first | refine m14 ?_ | (refine m17 ?_; first | refine m19 ?_ | refine m18 ?_) | (refine m07 ?_; (first | refine m15 ?_ | refine m16 ?_ | fail)) | (refine m45 ?_; (first | refine v_w (by first | omega | (simp only [zaz, Decidable.not_not] at *; have hh := Int.mul_nonneg (show 0 ≤ cols - 1 by omega) (show 0 ≤ ld by omega); omega)) ?_ | refine zb3 (by exact rfl) ?_ | refine v_k ?_ | fail)) | (refine m00 ?_; (first | refine v_w (by first | omega | (simp only [zaz, Decidable.not_not] at *; have hh := Int.mul_nonneg (show 0 ≤ cols - 1 by omega) (show 0 ≤ ld by omega); omega)) ?_ | refine m52 ?_ | refine m53 ?_ | refine zc7 ?_ | refine m49 ?_ | refine m50 ?_ | refine zfn ?_ | refine zfl ?_ | refine zfm ?_ | refine v_k ?_ | refine m51 ?_ | fail)) | (refine m22 ?_; (first | refine m26 ?_ | refine m27 ?_ | fail)) | refine m42 ?_ | refine zab ?_ | refine zac ?_ | refine m08 ?_ | (refine m20 ?_; (first | refine v_w (by first | omega | (simp only [zaz, Decidable.not_not] at *; have hh := Int.mul_nonneg (show 0 ≤ cols - 1 by omega) (show 0 ≤ ld by omega); omega)) ?_ | refine m52 ?_ | refine m53 ?_ | refine zc7 ?_ | refine m49 ?_ | refine m50 ?_ | refine zfn ?_ | refine zfl ?_ | refine zfm ?_ | refine v_k ?_ | refine m51 ?_ | fail)) | refine zaj ?_ | refine m01 ?_ | fail))
 |(refine zch ?_; (first | refine m36 ?_ | refine zcf ?_ | refine m32 ?_ | refine m31 ?_ | refine m30 ?_ | (refine m28 ?_; (first | refine ze6 ?_ | refine ze1 ?_ | refine ze5 ?_ | refine ze2 ?_ | refine ze4 ?_ ?_ | refine ze3 ?_ ?_ | refine ze0 ?_ ?_ | refine zez ?_ ?_ | fail)) | (refine m29 ?_; (first | refine ze6 ?_ | refine ze1 ?_ | refine ze5 ?_ | refine ze2 ?_ | refine ze4 ?_ ?_ | refine ze3 ?_ ?_ | refine ze0 ?_ ?_ | refine zez ?_ ?_ | fail)) | refine m37 ?_ | fail))
 |(refine zcg ?_; (first | refine zev ?_ | refine m34 ?_ | refine m35 ?_ | refine m33 ?_ | refine zew ?_ | refine m56 ?_ | refine zci ?_ | fail))
 |refine zat ?_ | refine zau ?_ | refine zas ?_
 |(refine zax ?_; (first | refine zar ?_ | refine zad ?_ | (refine m06 ?_; (first | refine c_T ?_ | refine c_F ?_ | refine c_P ?_ ?_ | refine c_B ?_ ?_ | fail)) | refine zaq ?_ | refine zah ?_ | refine zae ?_ | refine b_exit ?_ | refine zan [] [] [(0, .lt), (1, .ld true), (2, .lt), (3, .ld true), (4, .lt), (5, .ld true), (6, .lt), (7, .lt), (8, .ld true), (9, .lt), (10, .lt), (11, .lt), (12, .ld true), (13, .lt), (14, .lt), (15, .lt), (16, .lt), (17, .lt)] (by kernel_rfl) ?_ | fail))
 |refine m21 ?_
 |refine za4 ?_
 |(refine za5 ?_; (first | refine c_call (zi1 _ D n off rows cols ld hD hI) (zbk.refl _ _) ?_ | fail))
 |refine m05 ?_
 |refine m04 ?_ | refine m02 ?_ | refine m03 ?_ | refine zai ?_
 |intro _)
  all_goals first | refine zal rfl (by simp [mx, mxL, aOf, zbn, zaf]) ?_ | (trace_state; fail)
  all_goals (unfold sF sT; simp only [zaf, List.nil_append, List.cons_append, aOf, zbn])
  all_goals first
    | (have hp : ¬ zh3 n off rows cols ld := by (unfold zh3; simp_all)
       rw [if_neg hp, if_neg hp, decide_eq_false hp]; done)
    | (have hp : zh3 n off rows cols ld := by (unfold zh3; simp_all)
       rw [if_pos hp, if_pos hp, decide_eq_true hp]; done)
theorem z4s (H : List (List AV)) (Da : AV) (na : Nat) (offa rowsa colsa lda : Int) (hDa : slen Da = some na) (hIa : MI na offa rowsa colsa lda) (Db : AV) (nb : Nat) (offb rowsb colsb ldb : Int) (hDb : slen Db = some nb) (hIb : MI nb offb rowsb colsb ldb) (pe : Bool) (hpe : 0 < na → 0 < nb → ptrEq H Da 0 Db 0 = some pe) :
    zaa Tryz.prog 142 [mt Da offa rowsa colsa lda, mt Db offb rowsb colsb ldb] H (.bool (decide (zh3 na offa rowsa colsa lda ∧ zh3 nb offb rowsb colsb ldb ∧ pe = true ∧ sF na offa rowsa colsa lda ≤ sT nb offb rowsb colsb ldb ∧ sF nb offb rowsb colsb ldb ≤ sT na offa rowsa colsa lda))) H := by
  obtain ⟨hna, ho1a, ho2a, hr1a, hr2a, hc1a, hc2a, hl1a, hl2a⟩ := id hIa
  obtain ⟨hnb, ho1b, ho2b, hr1b, hr2b, hc1b, hc2b, hl1b, hl2b⟩ := id hIb
  refine .go Tryz.call142 Tryz.func142 false [] dOk ?_
  simp only [za0, Nat.reduceAdd]
  repeat' (first
 |(refine zav ?_; (first | refine zbd ?_ | refine zao ?_ | refine m13 ?_ | refine m12 ?_ | refine m11 ?_ | (refine m10 ?_; (first | refine zcv ?_ | refine zcq ?_ | refine zcu ?_ | refine zcr ?_ | refine zct ?_ ?_ | refine zcs ?_ ?_ | refine zcp ?_ ?_ | refine zco ?_ ?_ | fail)) | (refine m09 ?_; (first | refine zcv ?_ | refine zcq ?_ | refine zcu ?_ | refine zcr ?_ | refine zct ?_ ?_ | refine zcs ?_ ?_ | refine zcp ?_ ?_ | refine zco ?_ ?_ | fail)) | refine m38 ?_ | fail))
 |(refine zaw ?_; (first | refine m14 ?_ | (refine m17 ?_; first | refine m19 ?_ | refine m18 ?_) | (refine m07 ?_; (first | refine m15 ?_ | refine m16 ?_ | fail)) | refine z8p (by (conv => {lhs; whnf}); done) (by assumption) (zlb (by assumption)) ?_ | refine z8s (by (conv => {lhs; whnf}); done) (by (conv => {lhs; whnf}); done) (by rw [List.append_nil]; exact hpe (zlb (by assumption)) (zlb (by assumption))) ?_ | (refine m45 ?_; (first | refine zb3 (by exact rfl) ?_ | refine v_k ?_ | fail)) | (refine m00 ?_; (first | refine m52 ?_ | refine m53 ?_ | refine zc7 ?_ | refine m47 ?_ | refine m48 ?_ | refine m49 ?_ | refine m50 ?_ | refine v_k ?_ | refine m51 ?_ | fail)) | (refine m22 ?_; (first | refine m26 ?_ | refine m27 ?_ | fail)) | refine m42 ?_ | refine zab ?_ | refine zac ?_ | refine m08 ?_ | refine zaj ?_ | refine m23 ?_ | refine m01 ?_ | fail))
 |(refine zch ?_; (first | refine m36 ?_ | refine zcf ?_ | refine m32 ?_ | refine m31 ?_ | refine m30 ?_ | (refine m28 ?_; (first | refine ze6 ?_ | refine ze1 ?_ | refine ze5 ?_ | refine ze2 ?_ | refine ze4 ?_ ?_ | refine ze3 ?_ ?_ | refine ze0 ?_ ?_ | refine zez ?_ ?_ | fail)) | (refine m29 ?_; (first | refine ze6 ?_ | refine ze1 ?_ | refine ze5 ?_ | refine ze2 ?_ | refine ze4 ?_ ?_ | refine ze3 ?_ ?_ | refine ze0 ?_ ?_ | refine zez ?_ ?_ | fail)) | refine m37 ?_ | fail))
 |(refine zcg ?_; (first | refine zev ?_ | refine m34 ?_ | refine m35 ?_ | refine m33 ?_ | refine zew ?_ | refine m56 ?_ | refine zci ?_ | fail))
 |refine zat ?_ | refine zau ?_ | refine zas ?_
 |(refine zax ?_; (first | refine zar ?_ | refine zad ?_ | (refine m06 ?_; (first | refine c_T ?_ | refine c_F ?_ | refine c_P ?_ ?_ | refine c_B ?_ ?_ | fail)) | refine zaq ?_ | refine zah ?_ | refine zae ?_ | refine b_exit ?_ | refine zan [] [] [(0, .lt), (1, .lt), (2, .lt), (3, .lt), (4, .lt), (5, .lt), (6, .ld true), (7, .lt), (8, .lt), (9, .ld true), (10, .lt), (11, .ld true), (12, .lt), (13, .lt), (14, .lt), (15, .lt), (16, .lt), (17, .lt), (18, .lt), (19, .lt), (20, .lt), (21, .lt), (22, .lt), (23, .lt)] (by kernel_rfl) ?_ | fail))
 |refine m21 ?_
 |refine za4 ?_
 |(refine za5 ?_; (first | refine c_call (zyl _ Da na offa rowsa colsa lda hDa hIa) (zbk.refl _ _) ?_ | refine c_call (zyl _ Db nb offb rowsb colsb ldb hDb hIb) (zbk.refl _ _) ?_ | fail))
 |refine m05 ?_
 |refine m04 ?_ | refine m02 ?_ | refine m03 ?_ | refine zai ?_
 |intro _)
  all_goals first | refine zal rfl (by simp [mx, mxL, aOf, zbn, zaf]) ?_ | (trace_state; fail)
  all_goals first
    | (refine rtF ?_; first | (simp_all; done) | (simp_all; omega))
    | (refine rvF ?_; first | (simp_all; done) | (simp_all; omega))
    | (refine rtT ?_; first | (simp_all; done) | (simp_all; omega))
    | (refine rvT ?_; first | (simp_all; done) | (simp_all; omega))
    | (refine rvP ?_; first | (simp_all; done) | (simp_all; omega))
theorem z0t (H : List (List AV)) (D : AV) (n : Nat) (off rows cols ld : Int) (hD : slen D = some n) (hI : MI n off rows cols ld) (i j : Int) (hi1 : -9223372036854775808 ≤ i) (hi2 : i ≤ 9223372036854775807) (hj1 : -9223372036854775808 ≤ j) (hj2 : j ≤ 9223372036854775807) :
    zaa Tryz.prog 140 [mt D off rows cols ld, .int .i64 i, .int .i64 j] H (.int .i64 (plV n off rows cols ld i j)) H := by
  obtain ⟨hn, ho1, ho2, hr1, hr2, hc1, hc2, hl1, hl2⟩ := id hI
  refine .go Tryz.call140 Tryz.func140 false [] dOk ?_
  simp only [za0, Nat.reduceAdd]
  repeat' (first
 |(refine zav ?_; (first | refine zbd ?_ | refine zao ?_ | refine m13 ?_ | refine m12 ?_ | refine m11 ?_ | (refine m10 ?_; (first | refine zcv ?_ | refine zcq ?_ | refine zcu ?_ | refine zcr ?_ | refine zct ?_ ?_ | refine zcs ?_ ?_ | refine zcp ?_ ?_ | refine zco ?_ ?_ | fail)) | (refine m09 ?_; (first | refine zcv ?_ | refine zcq ?_ | refine zcu ?_ | refine zcr ?_ | refine zct ?_ ?_ | refine zcs ?_ ?_ | refine zcp ?_ ?_ | refine zco ?_ ?_ | fail)) | refine m38 ?_ | fail))
 |(refine zaw ?_; (first | refine m14 ?_ | (refine m17 ?_; first | refine m19 ?_ | refine m18 ?_) | (refine m07 ?_; (first | refine m15 ?_ | refine m16 ?_ | fail)) | (refine m00 ?_; (first | refine v_w (by have hp := zck (Decidable.not_not.1 (by assumption)) (i := i) (j := j) (by omega) (by omega) (by omega) (by omega); omega) ?_ | refine m47 ?_ | refine m48 ?_ | refine m49 ?_ | refine m50 ?_ | refine zfn ?_ | refine zfl ?_ | refine zfm ?_ | refine v_k ?_ | refine m51 ?_ | fail)) | (refine m22 ?_; (first | refine m26 ?_ | refine m27 ?_ | fail)) | refine m42 ?_ | refine zab ?_ | refine zac ?_ | refine m08 ?_ | (refine m20 ?_; (first | refine v_w (by have hp := zck (Decidable.not_not.1 (by assumption)) (i := i) (j := j) (by omega) (by omega) (by omega) (by omega); omega) ?_ | refine m47 ?_ | refine m48 ?_ | refine m49 ?_ | refine m50 ?_ | refine zfn ?_ | refine zfl ?_ | refine zfm ?_ | refine v_k ?_ | refine m51 ?_ | fail)) | refine zaj ?_ | refine m01 ?_ | fail))
 |refine zat ?_ | refine zau ?_ | refine zas ?_
 |(refine zax ?_; (first | refine zar ?_ | refine zad ?_ | (refine m06 ?_; (first | refine c_T ?_ | refine c_F ?_ | refine c_P ?_ ?_ | refine c_B ?_ ?_ | fail)) | refine zaq ?_ | refine zah ?_ | refine zae ?_ | refine b_exit ?_ | fail))
 |refine m21 ?_
 |refine za4 ?_
 |(refine za5 ?_; (first | refine c_call (zi1 _ D n off rows cols ld hD hI) (zbk.refl _ _) ?_ | fail))
 |refine m05 ?_
 |refine m04 ?_ | refine m02 ?_ | refine m03 ?_ | refine zai ?_
 |intro _)
  all_goals first | refine zal rfl (by simp [mx, mxL, aOf, zbn, zaf]) ?_ | (trace_state; fail)
  all_goals (unfold plV; simp only [zaf, List.nil_append, List.cons_append, aOf, zbn])
  all_goals first
    | (have hp : ¬ zhr n off rows cols ld i j := by (rintro ⟨h1, h2, h3, h4, h5⟩; first | contradiction | omega)
       rw [if_neg hp]; done)
    | (have hp : zhr n off rows cols ld i j := by (refine ⟨Decidable.not_not.1 (by assumption), ?_, ?_, ?_, ?_⟩ <;> omega)
       rw [if_pos hp]; done)
theorem zx6 (H : List (List AV)) (Da : AV) (na : Nat) (offa rowsa colsa lda : Int) (hDa : slen Da = some na) (hIa : MI na offa rowsa colsa lda) (Db : AV) (nb : Nat) (offb rowsb colsb ldb : Int) (hDb : slen Db = some nb) (hIb : MI nb offb rowsb colsb ldb) (hpe : 0 < na → 0 < nb → ptrEq H Da 0 Db 0 = some false) :
    zaa Tryz.prog 142 [mt Da offa rowsa colsa lda, mt Db offb rowsb colsb ldb] H (.bool false) H := by
  have := z4s H Da na offa rowsa colsa lda hDa hIa Db nb offb rowsb colsb ldb hDb hIb false hpe
  simpa using this
end
theorem znz (b : Nat) (w : World) : (callFunc 61 #[.float .f64 b]).run Tryz.prog w = .ok (.value (.int .u64 b)) w := by
  rw [run_callFunc_extern (fn := Tryz.f61) Tryz.func61 (by kernel_rfl) (by kernel_rfl) (by kernel_rfl) (e := Extern.MathFloatBits.float64bits) (by kernel_rfl)]
  rfl
theorem zlz (n : Int) (w : World) : (callFunc 80 #[.int .u64 n]).run Tryz.prog w = .ok (.value (.float .f64 n.toNat)) w := by
  rw [run_callFunc_extern (fn := Tryz.f80) Tryz.func80 (by kernel_rfl) (by kernel_rfl) (by kernel_rfl) (e := Extern.MathFloatBits.float64frombits) (by kernel_rfl)]
  rfl
theorem zjx (H : List (List AV)) (b : Nat) : zaa Tryz.prog 61 [.fraw b] H (.int .u64 b) H := by
  refine .inr ⟨rfl, fun w g cargs h => ?_⟩
  simp only [zbq] at h
  obtain ⟨v, r, hv, h1, rfl⟩ := h
  simp only [zay] at h1
  obtain ⟨rfl, _⟩ := h1
  have : cargs = #[.float .f64 b] := Array.ext' hv
  subst this
  exact ⟨_, znz b w, by simp [zay]⟩
theorem zb7 (H : List (List AV)) (n : Int) (hn : 0 ≤ n ∧ n ≤ 18446744073709551615) : zaa Tryz.prog 80 [.int .u64 n] H (.fraw n.toNat) H := by
  refine .inr ⟨rfl, fun w g cargs h => ?_⟩
  simp only [zbq] at h
  obtain ⟨v, r, hv, h1, rfl⟩ := h
  simp only [zay] at h1
  subst h1
  have : cargs = #[.int .u64 n] := Array.ext' hv
  subst this
  exact ⟨_, zlz n w, by simp only [zay]; exact ⟨trivial, by omega⟩⟩
section
attribute [local irreducible] Ex za3 exD opX opE zca zd3 zd4 Spec zaa Fr zb9 zbb zba ckK zb8 zb6 zbu faK zb4 zd1 gK fK rK zeq lpX prK
theorem zet (H : List (List AV)) (b : Nat) (hb : b < 2 ^ 64) :
    zaa Tryz.prog 60 [.fraw b] H (.tup [.bool (ztj b), .int .u64 (pM b), .int .i64 (pE b), .int .i64 (pK b)]) H := by
  refine .go Tryz.call60 Tryz.func60 false [] dOk ?_
  simp only [za0, Nat.reduceAdd]
  repeat' (first
 |(refine zav ?_; (first | refine zbd ?_ | refine zao ?_ | refine m13 ?_ | refine m12 ?_ | refine m11 ?_ | (refine m10 ?_; (first | refine zcv ?_ | refine zcq ?_ | refine zcu ?_ | refine zcr ?_ | refine zct ?_ ?_ | refine zcs ?_ ?_ | refine zcp ?_ ?_ | refine zco ?_ ?_ | fail)) | (refine m09 ?_; (first | refine zcv ?_ | refine zcq ?_ | refine zcu ?_ | refine zcr ?_ | refine zct ?_ ?_ | refine zcs ?_ ?_ | refine zcp ?_ ?_ | refine zco ?_ ?_ | fail)) | refine m38 ?_ | fail))
 |(refine zaw ?_; (first | refine m14 ?_ | (refine m45 ?_; (first | refine zb3 (by exact rfl) ?_ | refine v_k ?_ | fail)) | (refine m00 ?_; (first | refine m52 ?_ | refine m53 ?_ | refine zc7 ?_ | refine m49 ?_ | refine m50 ?_ | refine zqs (by omega) (by decide) (by (conv => {lhs; simp [IntKind.bits]}); done) ?_ | refine zgq (by omega) (by omega) ?_ | refine v_k ?_ | refine m51 ?_ | fail)) | (refine m22 ?_; (first | refine m26 ?_ | refine m27 ?_ | fail)) | refine m42 ?_ | refine zab ?_ | refine zac ?_ | refine m08 ?_ | refine zaj ?_ | (refine m46 ?_; (first | refine m52 ?_ | refine m53 ?_ | refine zc7 ?_ | refine m49 ?_ | refine m50 ?_ | refine zqs (by omega) (by decide) (by (conv => {lhs; simp [IntKind.bits]}); done) ?_ | refine zgq (by omega) (by omega) ?_ | refine v_k ?_ | refine m51 ?_ | fail)) | refine zey (by (conv => {lhs; whnf}); done) (by exact rfl) ?_ | refine zdn (by (conv => {lhs; whnf}); done) ?_ | fail))
 |refine zat ?_ | refine zau ?_ | refine zas ?_
 |(refine zax ?_; (first | refine zar ?_ | refine zad ?_ | (refine m06 ?_; (first | refine c_T ?_ | refine c_F ?_ | refine c_P ?_ ?_ | refine c_B ?_ ?_ | fail)) | refine zaq ?_ | refine zah ?_ | refine zae ?_ | refine b_exit ?_ | fail))
 |refine m21 ?_
 |refine za4 ?_
 |(refine za5 ?_; (first | refine c_call (zjx _ _) (zbk.refl _ _) ?_ | fail))
 |refine m05 ?_
 |refine m04 ?_ | refine m02 ?_ | refine m03 ?_ | refine zai ?_
 |intro _)
  all_goals first | refine zal rfl (by simp [mx, mxL, aOf, zbn, zaf]) ?_ | (trace_state; fail)
  all_goals (simp only [zaf, List.nil_append, List.cons_append, aOf, zbn, pM, pE, pK, ztj, pE₀, pM₀] at *; simp_all)
end
theorem zl7 (b : Nat) : isNaN b = true ↔ 9218868437227405312 < b % 9223372036854775808 := by
  have e1 : Ieee.double.signWeight = 9223372036854775808 := by decide
  have e2 : Ieee.double.binade = 4503599627370496 := by decide
  have e3 : Ieee.double.infRung = 9218868437227405312 := by decide
  unfold isNaN Ieee.Format.read
  simp only [e1, e2, e3]
  split
  · simp [Ieee.Datum.isNaN]; omega
  · split
    · simp [Ieee.Datum.isNaN]; omega
    · split
      · simp [Ieee.Datum.isNaN]; omega
      · simp [Ieee.Datum.isNaN]; omega
theorem zyd (b : Nat) : pK b = 2 ↔ isNaN b = true := by
  rw [zl7]
  unfold pK pE₀ pM₀
  split
  · omega
  · split <;> omega
theorem zoi : isNaN qn = true := by rw [zl7]; decide
theorem same_iff (b c : Nat) : ((b : Int) = c ∨ (pK b = 2 ∧ pK c = 2)) ↔ cn b = cn c := by
  rw [zyd, zyd]
  rcases zb1 b with ⟨h1, h2⟩ | ⟨h1, h2⟩ <;> rcases zb1 c with ⟨h3, h4⟩ | ⟨h3, h4⟩
  · simp [h1, h2, h3, h4]
  · rw [h2, h4, h1, h3]
    simp only [Bool.false_eq_true, and_false, or_false]
    constructor
    · intro h; have : b = c := by omega
      subst this; rw [h1] at h3; cases h3
    · intro h; rw [← h, zoi] at h3; cases h3
  · rw [h2, h4, h1, h3]
    simp only [Bool.false_eq_true, false_and, or_false]
    constructor
    · intro h; have : b = c := by omega
      subst this; rw [h1] at h3; cases h3
    · intro h; rw [h, zoi] at h1; cases h1
  · rw [h2, h4, h1, h3]
    simp only [Bool.false_eq_true, and_false, or_false]
    omega
section
attribute [local irreducible] Ex za3 exD opX opE zca zd3 zd4 Spec zaa Fr zb9 zbb zba ckK zb8 zb6 zbu faK zb4 zd1 gK fK rK zeq lpX prK
theorem zyh (H : List (List AV)) (x y : Nat) :
    zaa Tryz.prog 15 [.flt x, .flt y] H (.bool (decide (x = y))) H := by
  refine .mk (fun args w => Tryz.call15 args w) (Spec.raw2 (fun b c hb hbx hc hcy => Spec.intro' (fn := Tryz.f15) Tryz.func15 rfl (by kernel_rfl) (by simp) false [] (draw := zds Tryz.prog ⟨false, _, []⟩) dOk ?_))
  simp only [za0, Nat.reduceAdd]
  repeat' (first
 |(refine zav ?_; (first | refine zbd ?_ | refine zao ?_ | refine m13 ?_ | refine m12 ?_ | refine m11 ?_ | (refine m10 ?_; (first | refine zcv ?_ | refine zcq ?_ | refine zcu ?_ | refine zcr ?_ | refine zct ?_ ?_ | refine zcs ?_ ?_ | refine zcp ?_ ?_ | refine zco ?_ ?_ | fail)) | (refine m09 ?_; (first | refine zcv ?_ | refine zcq ?_ | refine zcu ?_ | refine zcr ?_ | refine zct ?_ ?_ | refine zcs ?_ ?_ | refine zcp ?_ ?_ | refine zco ?_ ?_ | fail)) | refine m38 ?_ | fail))
 |(refine zaw ?_; (first | refine m14 ?_ | (refine m45 ?_; (first | refine zb3 (by exact rfl) ?_ | refine v_k ?_ | fail)) | (refine m00 ?_; (first | refine m52 ?_ | refine m53 ?_ | refine zc7 ?_ | refine m49 ?_ | refine m50 ?_ | refine v_k ?_ | refine m51 ?_ | fail)) | (refine m22 ?_; (first | refine m26 ?_ | refine m27 ?_ | fail)) | refine m42 ?_ | refine zab ?_ | refine zac ?_ | refine m08 ?_ | refine zaj ?_ | refine m23 ?_ | fail))
 |refine zat ?_ | refine zau ?_ | refine zas ?_
 |(refine zax ?_; (first | refine zar ?_ | refine zad ?_ | (refine m06 ?_; (first | refine c_T ?_ | refine c_F ?_ | refine c_P ?_ ?_ | refine c_B ?_ ?_ | fail)) | refine zaq ?_ | refine zah ?_ | refine zae ?_ | refine b_exit ?_ | fail))
 |refine m21 ?_
 |refine za4 ?_
 |(refine za5 ?_; (first | refine c_call (zjx _ _) (zbk.refl _ _) ?_ | refine c_call (zet _ _ (by assumption)) (zbk.refl _ _) ?_ | fail))
 |refine m05 ?_
 |refine m04 ?_ | refine m02 ?_ | refine m03 ?_ | refine zai ?_
 |intro _)
  all_goals first | refine zal rfl (by simp [mx, mxL, aOf, zbn, zaf]) ?_ | (trace_state; fail)
  all_goals (subst hbx hcy; have hs := same_iff b c)
  all_goals (simp only [zaf, List.nil_append, List.cons_append, aOf, zbn] at *)
  all_goals first
    | (refine rvF ?_; first | (simp_all; done) | (simp_all; omega))
    | (refine rvT ?_; first | (simp_all; done) | (simp_all; omega))
    | (refine rvP ?_; first | (simp_all; done) | (simp_all; omega))
    | trace_state
theorem z8h (H : List (List AV)) (Da : AV) (la : List Nat) (hFa : FL H Da la) (hBa : la.length ≤ 2 ^ 48) (Db : AV) (lb : List Nat) (hFb : FL H Db lb) (hBb : lb.length ≤ 2 ^ 48) :
    zaa Tryz.prog 16 [Da, Db] H (.bool (decide (la = lb))) H := by
  obtain ⟨N, hN1, hN2, hN3⟩ := zjz la lb
  refine .go Tryz.call16 Tryz.func16 false [] dOk ?_
  simp only [za0, Nat.reduceAdd]
  repeat' (first
 |(refine zav ?_; (first | refine zbd ?_ | refine zao ?_ | fail))
 |(refine zaw ?_; (first | refine m14 ?_ | (refine m07 ?_; (first | refine m15 ?_ | refine m16 ?_ | refine zdy (FL.app hFa _) (by omega) ?_ | refine zdy (FL.app hFb _) (by omega) ?_ | fail)) | refine zbz (by (conv => {lhs; whnf}); done) (by (conv => {lhs; whnf}); done) (by exact hFa.len) (by omega) ?_ | refine zbz (by (conv => {lhs; whnf}); done) (by (conv => {lhs; whnf}); done) (by exact hFb.len) (by omega) ?_ | refine zam (by (conv => {lhs; whnf}); done) (by exact hFa.len) ?_ | refine zam (by (conv => {lhs; whnf}); done) (by exact hFb.len) ?_ | (refine m00 ?_; (first | refine m54 ?_ | refine m55 ?_ | refine zbx ?_ | refine m47 ?_ | refine m48 ?_ | refine m49 ?_ | refine m50 ?_ | refine zfn ?_ | refine zfl ?_ | refine zfm ?_ | refine v_k ?_ | refine m51 ?_ | fail)) | refine m42 ?_ | refine zab ?_ | refine zac ?_ | refine m08 ?_ | (refine m20 ?_; (first | refine m54 ?_ | refine m55 ?_ | refine zbx ?_ | refine m47 ?_ | refine m48 ?_ | refine m49 ?_ | refine m50 ?_ | refine zfn ?_ | refine zfl ?_ | refine zfm ?_ | refine v_k ?_ | refine m51 ?_ | fail)) | refine zaj ?_ | refine zam (by (conv => {lhs; whnf}); done) (by first | rfl | assumption) ?_ | fail))
 |(refine zch ?_; (first | refine m36 ?_ | refine zcf ?_ | fail))
 |(refine zcg ?_; (first | refine zev ?_ | refine m34 ?_ | refine m35 ?_ | refine m33 ?_ | refine zew ?_ | refine m56 ?_ | refine zci ?_ | fail))
 |refine zat ?_ | refine zau ?_ | refine zas ?_
 |(refine zax ?_; (first | refine zar ?_ | refine zad ?_ | (refine m06 ?_; (first | refine c_T ?_ | refine c_F ?_ | refine c_P ?_ ?_ | refine c_B ?_ ?_ | fail)) | refine zaq ?_ | refine zah ?_ | refine zae ?_ | refine b_exit ?_ | refine zan [] [] [(0, .lt), (1, .lt), (2, .lt), (3, .ld true), (4, .lt), (5, .lt), (6, .lt), (7, .ld true), (8, .mn true), (9, .lt)] (by kernel_rfl) ?_ | (refine za1 [5, 0, 1] N (fun k => ⟨[(5, .val (.int .i64 (k : Int))), (0, .val Da), (1, .val Db)], [], H ++ []⟩) (by exact rfl) ?_ ?_ <;> (first | intro k hk K hK | intro K) <;> (try dsimp only at *) <;> (try simp only [Int.natCast_add, Int.natCast_one] at *)) | fail))
 |refine m21 ?_
 |refine za4 ?_
 |(refine za5 ?_; (first | refine c_call (zyh _ _ _) (zbk.refl _ _) ?_ | fail))
 |refine zbh ?_ | refine zbi ?_ | refine zbg ?_ | refine m57 ?_
 |refine zdp ?_ | refine zdq ?_ | refine zdo ?_
 |(refine zdr (by exact rfl) ?_; first | exact hK | (exfalso; first | omega | (simp_all; done) | (simp_all; omega)))
 |refine m05 ?_
 |refine m04 ?_ | refine m02 ?_ | refine m03 ?_ | refine zai ?_
 |intro _)
  all_goals first | refine zal rfl (by simp [mx, mxL, aOf, zbn, zaf]) ?_ | (trace_state; fail)
  all_goals first
    | (refine rtF (fun h => ?_); subst h; first | contradiction | omega | (simp_all; done))
    | (refine rtT (zp1 (by omega) (fun k hk => hN2 k (by omega))))
theorem z3p (H H' : List (List AV)) (D : AV) (l : List Nat) (hF : FL H D l) (hB : l.length ≤ 2 ^ 30) (m : Nat) (hm : H.length = m) (hH : H ++ [fl l] = H') :
    zaa Tryz.prog 112 [D] H (.slm m l.length 0 l.length 1) H' := by
  subst hH hm
  refine .go Tryz.call112 Tryz.func112 false [] dOk ?_
  simp only [za0, Nat.reduceAdd]
  repeat' (first
 |(refine zav ?_; (first | refine zbd ?_ | refine zao ?_ | fail))
 |(refine zaw ?_; (first | refine m14 ?_ | refine zgs (by exact rfl) (by exact rfl) (by decide) (by exact rfl) (by (conv => {lhs; whnf}); done) ?_ | refine zfp (by (conv => {lhs; whnf}); done) (by (conv => {lhs; whnf}); done) (by exact rfl) (by exact rfl) (by exact zjh hF) (by simp) (by exact rfl) (by simp; omega) (.inl (Nat.le_refl _)) (by exact rfl) (by (conv => {lhs; simp only [List.nil_append, zfr, zg2]}); done) (by (conv => {lhs; simp only [List.set_cons_zero, List.set_cons_succ]}); done) (by (conv => {lhs; simp only [zd9, zgi, List.length_append, List.length_nil, Nat.zero_add]}); done) (by (conv => {lhs; simp only [Nat.zero_add]}); done) ?_ | refine m42 ?_ | refine zab ?_ | refine zac ?_ | refine m08 ?_ | refine zc2 (by exact rfl) (by exact rfl) (by decide) ?_ | fail))
 |refine zat ?_ | refine zau ?_ | refine zas ?_
 |(refine zax ?_; (first | refine zar ?_ | refine zad ?_ | (refine m06 ?_; (first | refine c_T ?_ | refine c_F ?_ | refine c_P ?_ ?_ | refine c_B ?_ ?_ | fail)) | refine zaq ?_ | refine zah ?_ | refine zae ?_ | refine b_exit ?_ | fail))
 |refine m44 ?_
 |refine m40 ?_
 |(refine zbc (by (conv => {lhs; simp only [List.nil_append, List.cons_append]}); done) ?_; first | refine ⟨by exact rfl, ?_⟩ | skip)
 |refine zbt ?_
 |(intro N' hN'; simp only [List.nil_append, List.cons_append] at hN'; subst hN')
 |refine m05 ?_
 |refine m04 ?_ | refine m02 ?_ | refine m03 ?_ | refine zai ?_
 |(refine ⟨by simp [zm9], fun N' hN' => ?_⟩; simp only [List.nil_append, List.cons_append] at hN'; subst hN')
 |intro _)
  all_goals first
    | exact zgc (j := 0) (cs := fl l) rfl rfl (by rw [zak]; exact Nat.zero_le _) (Fr.kp (j := 0) (cs := fl l) rfl (za9 rfl rfl) (zd9 l))
theorem zw6 (H : List (List AV)) (n off a b c : Int) (hn0 : 0 ≤ n) (hn : n ≤ 9223372036854775807) (h1 : 0 ≤ off) (h2 : 0 ≤ a) (h3 : 0 ≤ b) (h4 : 0 ≤ c) (ho : off ≤ 9223372036854775807) (ha : a ≤ 9223372036854775807) (hb : b ≤ 9223372036854775807) (hc : c ≤ 9223372036854775807) :
    zaa Tryz.prog 54 [.int .i64 n, .int .i64 off, .int .i64 a, .int .i64 b, .int .i64 c] H (.bool (decide (off < n ∧ c < n - off ∧ a * b ≤ n - off - c - 1))) H := by
  refine .go Tryz.call54 Tryz.func54 false [] dOk ?_
  simp only [za0, Nat.reduceAdd]
  repeat' (first
 |(refine zav ?_; (first | refine zbd ?_ | refine zao ?_ | refine m13 ?_ | refine m12 ?_ | refine m11 ?_ | (refine m10 ?_; (first | refine zcv ?_ | refine zcq ?_ | refine zcu ?_ | refine zcr ?_ | refine zct ?_ ?_ | refine zcs ?_ ?_ | refine zcp ?_ ?_ | refine zco ?_ ?_ | fail)) | (refine m09 ?_; (first | refine zcv ?_ | refine zcq ?_ | refine zcu ?_ | refine zcr ?_ | refine zct ?_ ?_ | refine zcs ?_ ?_ | refine zcp ?_ ?_ | refine zco ?_ ?_ | fail)) | refine m38 ?_ | fail))
 |(refine zaw ?_; (first | refine m14 ?_ | (refine m45 ?_; (first | refine zb3 (by exact rfl) ?_ | refine v_k ?_ | fail)) | (refine m00 ?_; (first | refine m52 ?_ | refine m53 ?_ | refine zc7 ?_ | refine m47 ?_ | refine m48 ?_ | refine m49 ?_ | refine m50 ?_ | refine zh7 (by omega) (by omega) ?_ | refine v_k ?_ | refine m51 ?_ | fail)) | (refine m22 ?_; (first | refine m26 ?_ | refine m27 ?_ | fail)) | refine m42 ?_ | refine zab ?_ | refine zac ?_ | refine m08 ?_ | fail))
 |refine zat ?_ | refine zau ?_ | refine zas ?_
 |(refine zax ?_; (first | refine zar ?_ | refine zad ?_ | (refine m06 ?_; (first | refine c_T ?_ | refine c_F ?_ | refine c_P ?_ ?_ | refine c_B ?_ ?_ | fail)) | refine zaq ?_ | refine zah ?_ | refine zae ?_ | refine b_exit ?_ | fail))
 |refine m05 ?_
 |refine m04 ?_ | refine m02 ?_ | refine m03 ?_ | refine zai ?_
 |intro _)
  all_goals first | refine zal rfl (by simp [mx, mxL, aOf, zbn, zaf]) ?_ | (trace_state; fail)
  all_goals first
    | exact rtF (by omega)
    | (refine rtT ?_; subst a; simp; omega)
    | (refine rvT ?_; simp_all; omega)
    | (refine rvP ?_; rw [Int.le_ediv_iff_mul_le (by omega), Int.mul_comm]; omega)
theorem zg1 (H : List (List AV)) (D : AV) (n : Nat) (off rows cols ld : Int) (hD : slen D = some n) (hI : MI n off rows cols ld) :
    zaa Tryz.prog 10 [mt D off rows cols ld] H (.bool (decide (zaz n off rows cols ld))) H := by
  obtain ⟨hn, ho1, ho2, hr1, hr2, hc1, hc2, hl1, hl2⟩ := id hI
  refine .go Tryz.call10 Tryz.func10 false [] dOk ?_
  simp only [za0, Nat.reduceAdd]
  repeat' (first
 |(refine zav ?_; (first | refine zbd ?_ | refine zao ?_ | refine m13 ?_ | refine m12 ?_ | refine m11 ?_ | (refine m10 ?_; (first | refine zcv ?_ | refine zcq ?_ | refine zcu ?_ | refine zcr ?_ | refine zct ?_ ?_ | refine zcs ?_ ?_ | refine zcp ?_ ?_ | refine zco ?_ ?_ | fail)) | (refine m09 ?_; (first | refine zcv ?_ | refine zcq ?_ | refine zcu ?_ | refine zcr ?_ | refine zct ?_ ?_ | refine zcs ?_ ?_ | refine zcp ?_ ?_ | refine zco ?_ ?_ | fail)) | refine m38 ?_ | fail))
 |(refine zaw ?_; (first | refine m14 ?_ | (refine m17 ?_; first | refine m19 ?_ | refine m18 ?_) | (refine m07 ?_; (first | refine m15 ?_ | refine m16 ?_ | fail)) | (refine m45 ?_; (first | refine zb3 (by exact rfl) ?_ | refine v_k ?_ | fail)) | (refine m00 ?_; (first | refine m52 ?_ | refine m53 ?_ | refine zc7 ?_ | refine m47 ?_ | refine m48 ?_ | refine m49 ?_ | refine m50 ?_ | refine v_k ?_ | refine m51 ?_ | fail)) | (refine m22 ?_; (first | refine m26 ?_ | refine m27 ?_ | fail)) | refine m42 ?_ | refine zab ?_ | refine zac ?_ | refine m08 ?_ | refine zaj ?_ | refine zam (by (conv => {lhs; whnf}); done) (by first | rfl | assumption) ?_ | refine m01 ?_ | fail))
 |refine zat ?_ | refine zau ?_ | refine zas ?_
 |(refine zax ?_; (first | refine zar ?_ | refine zad ?_ | (refine m06 ?_; (first | refine c_T ?_ | refine c_F ?_ | refine c_P ?_ ?_ | refine c_B ?_ ?_ | fail)) | refine zaq ?_ | refine zah ?_ | refine zae ?_ | refine b_exit ?_ | fail))
 |refine m21 ?_
 |refine za4 ?_
 |(refine za5 ?_; (first | refine c_call (zw6 _ _ _ _ _ _ (by omega) (by omega) (by omega) (by omega) (by omega) (by omega) (by omega) (by omega) (by omega) (by omega)) (zbk.refl _ _) ?_ | fail))
 |refine m05 ?_
 |refine m04 ?_ | refine m02 ?_ | refine m03 ?_ | refine zai ?_
 |intro _)
  all_goals first | refine zal rfl (by simp [mx, mxL, aOf, zbn, zaf]) ?_ | (trace_state; fail)
  all_goals first
    | exact rtF (by unfold zaz; omega)
    | exact rtT (by unfold zaz; omega)
    | exact rvP (by unfold zaz; omega)
end
section
attribute [local irreducible] Ex za3 exD opX opE zca zd3 zd4 Spec zaa Fr zb9 zbb zba ckK zb8 zb6 zbu faK zb4 zd1 gK fK rK zeq lpX prK
theorem zhy (H : List (List AV)) (x : Nat) :
    zaa Tryz.prog 125 [.flt x] H (.flt (zbm x)) H := by
  refine .mk (fun args w => Tryz.call125 args w) (Spec.raw1 (fun b hb hbx => Spec.intro' (fn := Tryz.f125) Tryz.func125 rfl (by kernel_rfl) (by simp) false [] (draw := zds Tryz.prog ⟨false, _, []⟩) dOk ?_))
  simp only [za0, Nat.reduceAdd]
  repeat' (first
 |(refine zav ?_; (first | refine zbd ?_ | refine zao ?_ | fail))
 |(refine zaw ?_; (first | refine m14 ?_ | (refine m00 ?_; (first | refine z7j (by assumption) ?_ | refine m49 ?_ | refine m50 ?_ | refine v_k ?_ | refine m51 ?_ | fail)) | refine m42 ?_ | refine zab ?_ | refine zac ?_ | refine m08 ?_ | refine zaj ?_ | fail))
 |refine zat ?_ | refine zau ?_ | refine zas ?_
 |(refine zax ?_; (first | refine zar ?_ | refine zad ?_ | (refine m06 ?_; (first | refine c_T ?_ | refine c_F ?_ | refine c_P ?_ ?_ | refine c_B ?_ ?_ | fail)) | refine zaq ?_ | refine zah ?_ | refine zae ?_ | refine b_exit ?_ | fail))
 |refine m21 ?_
 |refine za4 ?_
 |(refine za5 ?_; (first | refine cA (zjx _ _) ?_ | refine cA (zb7 _ _ (by omega)) ?_ | fail))
 |refine m05 ?_
 |refine m04 ?_ | refine m02 ?_ | refine m03 ?_ | refine zai ?_
 |intro _)
  all_goals first
    | (refine zb5 rfl ?_; subst hbx; rw [zq0]; exact Fr.raw _)
theorem zj9 (H : List (List AV)) (x : Nat) :
    zaa Tryz.prog 81 [.flt x] H (.flt (zbm x)) H := by
  refine .mk (fun args w => Tryz.call81 args w) (Spec.raw1 (fun b hb hbx => Spec.intro' (fn := Tryz.f81) Tryz.func81 rfl (by kernel_rfl) (by simp) false [] (draw := zds Tryz.prog ⟨false, _, []⟩) dOk ?_))
  simp only [za0, Nat.reduceAdd]
  repeat' (first
 |(refine zav ?_; (first | refine zbd ?_ | refine zao ?_ | fail))
 |(refine zaw ?_; (first | refine m14 ?_ | (refine m00 ?_; (first | refine m49 ?_ | refine m50 ?_ | refine zgq (by omega) (by omega) ?_ | refine v_k ?_ | refine m51 ?_ | fail)) | refine m42 ?_ | refine zab ?_ | refine zac ?_ | refine m08 ?_ | refine zaj ?_ | fail))
 |refine zat ?_ | refine zau ?_ | refine zas ?_
 |(refine zax ?_; (first | refine zar ?_ | refine zad ?_ | (refine m06 ?_; (first | refine c_T ?_ | refine c_F ?_ | refine c_P ?_ ?_ | refine c_B ?_ ?_ | fail)) | refine zaq ?_ | refine zah ?_ | refine zae ?_ | refine b_exit ?_ | fail))
 |refine m21 ?_
 |refine za4 ?_
 |(refine za5 ?_; (first | refine cA (zjx _ _) ?_ | refine cA (zb7 _ _ (by omega)) ?_ | fail))
 |refine m05 ?_
 |refine m04 ?_ | refine m02 ?_ | refine m03 ?_ | refine zai ?_
 |intro _)
  all_goals first
    | (refine zb5 rfl ?_; subst hbx; rw [zq0]; exact Fr.raw _)
theorem zox (H : List (List AV)) (x y : Nat) :
    zaa Tryz.prog 84 [.flt x, .flt y] H (.flt (zjr x y)) H := by
  refine .go Tryz.call84 Tryz.func84 false [] dOk ?_
  simp only [za0, Nat.reduceAdd]
  repeat' (first
 |(refine zav ?_; (first | refine zbd ?_ | refine zao ?_ | fail))
 |(refine zaw ?_; (first | refine m14 ?_ | (refine m00 ?_; (first | refine m49 ?_ | refine m50 ?_ | refine v_k ?_ | refine m51 ?_ | fail)) | refine m42 ?_ | refine zab ?_ | refine zac ?_ | refine m08 ?_ | fail))
 |refine zat ?_ | refine zau ?_ | refine zas ?_
 |(refine zax ?_; (first | refine zar ?_ | refine zad ?_ | (refine m06 ?_; (first | refine c_T ?_ | refine c_F ?_ | refine c_P ?_ ?_ | refine c_B ?_ ?_ | fail)) | refine zaq ?_ | refine zah ?_ | refine zae ?_ | refine b_exit ?_ | fail))
 |refine m05 ?_
 |refine m04 ?_ | refine m02 ?_ | refine m03 ?_ | refine zai ?_
 |intro _)
  all_goals first | refine zal rfl (by simp [mx, mxL, aOf, zbn, zaf]) ?_ | (trace_state; fail)
  all_goals exact rfl
theorem zzw (H : List (List AV)) (D : AV) (l : List Nat) (hF : FL H D l) (hB : l.length ≤ 2 ^ 30) :
    zaa Tryz.prog 132 [D] H (.flt (zbp l)) H := by
  obtain ⟨N, hN1, hN2, hN3, hN4⟩ := zlx l
  have hs : ∀ k, k < l.length → mxF (fo mxF 0 l k) (l.getD k 0) = fo mxF 0 l (k + 1) := fun k hk => (zkq hk).symm
  refine .go Tryz.call132 Tryz.func132 false [] dOk ?_
  simp only [za0, Nat.reduceAdd]
  repeat' (first
 |(refine zav ?_; (first | refine zbd ?_ | refine zao ?_ | fail))
 |(refine zaw ?_; (first | refine m41 ?_ | refine zb0 ?_ | refine m14 ?_ | (refine m07 ?_; (first | refine m15 ?_ | refine m16 ?_ | refine zdy (FL.app hF _) (by omega) ?_ | fail)) | refine zbz (by (conv => {lhs; whnf}); done) (by (conv => {lhs; whnf}); done) (by exact hF.len) (by omega) ?_ | refine zam (by (conv => {lhs; whnf}); done) (by exact hF.len) ?_ | (refine m00 ?_; (first | refine m54 ?_ | refine m55 ?_ | refine zbx ?_ | refine m47 ?_ | refine m48 ?_ | refine m49 ?_ | refine m50 ?_ | refine v_k ?_ | refine m51 ?_ | fail)) | refine m42 ?_ | refine zab ?_ | refine zac ?_ | refine m08 ?_ | refine zam (by (conv => {lhs; whnf}); done) (by first | rfl | assumption) ?_ | fail))
 |refine zat ?_ | refine zau ?_ | refine zas ?_
 |(refine zax ?_; (first | refine zar ?_ | refine zad ?_ | (refine m06 ?_; (first | refine c_T ?_ | refine c_F ?_ | refine c_P ?_ ?_ | refine c_B ?_ ?_ | fail)) | refine zaq ?_ | refine zah ?_ | refine zae ?_ | refine b_exit ?_ | (refine za1 [8, 6, 7, 3] N (fun k => ⟨[(8, .val (.int .i64 (k : Int))), (6, .val D), (7, .val (.int .i64 (l.length : Int))), (3, .val (.flt (fo mxF 0 l k)))], [], H ++ []⟩) (by exact rfl) ?_ ?_ <;> (first | intro k hk K hK | intro K) <;> (try dsimp only at *) <;> (try simp only [Int.natCast_add, Int.natCast_one] at *)) | fail))
 |refine zbh ?_ | refine zbi ?_ | refine zbg ?_ | refine m57 ?_
 |refine zdp ?_ | refine zdq ?_ | refine zdo ?_
 |(refine zdr (by exact rfl) ?_; first | exact hK | (rw [← hs k (by omega), z0h (by assumption)] at hK; exact hK) | (rw [← hs k (by omega), z0g (by assumption)] at hK; exact hK) | (exfalso; first | omega | (simp_all; done) | (simp_all; omega)))
 |refine m05 ?_
 |refine m04 ?_ | refine m02 ?_ | refine m03 ?_ | refine zai ?_
 |intro _)
  all_goals first | refine zal rfl (by simp [mx, mxL, aOf, zbn, zaf]) ?_ | (trace_state; fail)
  all_goals refine congrArg AV.flt ?_
  all_goals first
    | (exact (hN3 (by omega)).2.symm)
    | (exfalso; have := hN2 k hk; simp_all; done)
    | (rw [hN4 (by omega), ← zob mxF 0 l]; first | done | exact rfl | (rw [show N = l.length by omega]; done))
theorem zwd (H : List (List AV)) (D : AV) (l : List Nat) (hF : FL H D l) (hB : l.length ≤ 2 ^ 30) :
    zaa Tryz.prog 93 [D] H (.flt (zbp l)) H := by
  obtain ⟨N, hN1, hN2, hN3, hN4⟩ := zlx l
  have hs : ∀ k, k < l.length → mxF (fo mxF 0 l k) (l.getD k 0) = fo mxF 0 l (k + 1) := fun k hk => (zkq hk).symm
  refine .go Tryz.call93 Tryz.func93 false [] dOk ?_
  simp only [za0, Nat.reduceAdd]
  repeat' (first
 |(refine zav ?_; (first | refine zbd ?_ | refine zao ?_ | fail))
 |(refine zaw ?_; (first | refine m14 ?_ | (refine m07 ?_; (first | refine m15 ?_ | refine m16 ?_ | refine zdy (FL.app hF _) (by omega) ?_ | fail)) | refine zbz (by (conv => {lhs; whnf}); done) (by (conv => {lhs; whnf}); done) (by exact hF.len) (by omega) ?_ | refine zam (by (conv => {lhs; whnf}); done) (by exact hF.len) ?_ | (refine m00 ?_; (first | refine m54 ?_ | refine m55 ?_ | refine zbx ?_ | refine m47 ?_ | refine m48 ?_ | refine m49 ?_ | refine m50 ?_ | refine v_k ?_ | refine m51 ?_ | fail)) | refine m42 ?_ | refine zab ?_ | refine zac ?_ | refine m08 ?_ | refine zam (by (conv => {lhs; whnf}); done) (by first | rfl | assumption) ?_ | fail))
 |(refine zch ?_; (first | refine m36 ?_ | refine zcf ?_ | fail))
 |(refine zcg ?_; (first | refine zev ?_ | refine m34 ?_ | refine m35 ?_ | refine m33 ?_ | refine zew ?_ | refine m56 ?_ | refine zci ?_ | fail))
 |refine zat ?_ | refine zau ?_ | refine zas ?_
 |(refine zax ?_; (first | refine zar ?_ | refine zad ?_ | (refine m06 ?_; (first | refine c_T ?_ | refine c_F ?_ | refine c_P ?_ ?_ | refine c_B ?_ ?_ | fail)) | refine zaq ?_ | refine zah ?_ | refine zae ?_ | refine b_exit ?_ | refine zan [] [] [(0, .lt), (1, .lt), (2, .lt), (3, .ld true), (4, .lt), (5, .lt), (6, .lt), (7, .ld true), (8, .ld true)] (by kernel_rfl) ?_ | (refine za1 [4, 0, 3, 2] N (fun k => ⟨[(4, .val (.int .i64 (k : Int))), (0, .val D), (3, .val (.flt 0)), (2, .val (.flt 0))], [], H ++ []⟩) (by exact rfl) ?_ ?_ <;> (first | intro k hk K hK | intro K) <;> (try dsimp only at *) <;> (try simp only [Int.natCast_add, Int.natCast_one] at *)) | (refine za1 [5, 0, 3, 2] l.length (fun k => ⟨[(5, .val (.int .i64 (k : Int))), (0, .val D), (3, .val (.flt (fo mxF 0 l k))), (2, .val (.flt 0))], [], H ++ []⟩) (by exact rfl) ?_ ?_ <;> (first | intro k hk K hK | intro K) <;> (try dsimp only at *) <;> (try simp only [Int.natCast_add, Int.natCast_one] at *)) | fail))
 |refine zbh ?_ | refine zbi ?_ | refine zbg ?_ | refine m57 ?_
 |refine zdp ?_ | refine zdq ?_ | refine zdo ?_
 |(refine zdr (by exact rfl) ?_; first | exact hK | (rw [← hs k (by omega), z0h (by assumption)] at hK; exact hK) | (rw [← hs k (by omega), z0g (by assumption)] at hK; exact hK) | (exfalso; first | omega | (simp_all; done) | (simp_all; omega)))
 |refine m05 ?_
 |refine m04 ?_ | refine m02 ?_ | refine m03 ?_ | refine zai ?_
 |intro _)
  all_goals first | refine zal rfl (by simp [mx, mxL, aOf, zbn, zaf]) ?_ | (trace_state; fail)
  all_goals refine congrArg AV.flt ?_
  all_goals first
    | (exact (hN3 (by omega)).2.symm)
    | (exfalso; have := hN2 k hk; simp_all; done)
    | (rw [hN4 (by omega), ← zob mxF 0 l]; first | done | exact rfl | (rw [show N = l.length by omega]; done))
theorem znf (H : List (List AV)) (D : AV) (l : List Nat) (hF : FL H D l) (off n inc : Int) (hI : VI l.length off n inc) :
    zaa Tryz.prog 141 [vt D off n inc] H (.bool (decide (za8 l.length off n inc))) H := by
  obtain ⟨hm, ho1, ho2, hn1, hn2, hi1, hi2⟩ := id hI
  refine .go Tryz.call141 Tryz.func141 false [] dOk ?_
  simp only [za0, Nat.reduceAdd]
  repeat' (first
 |(refine zav ?_; (first | refine zbd ?_ | refine zao ?_ | refine m13 ?_ | refine m12 ?_ | refine m11 ?_ | (refine m10 ?_; (first | refine zcv ?_ | refine zcq ?_ | refine zcu ?_ | refine zcr ?_ | refine zct ?_ ?_ | refine zcs ?_ ?_ | refine zcp ?_ ?_ | refine zco ?_ ?_ | fail)) | (refine m09 ?_; (first | refine zcv ?_ | refine zcq ?_ | refine zcu ?_ | refine zcr ?_ | refine zct ?_ ?_ | refine zcs ?_ ?_ | refine zcp ?_ ?_ | refine zco ?_ ?_ | fail)) | refine m38 ?_ | fail))
 |(refine zaw ?_; (first | refine m14 ?_ | (refine m17 ?_; first | refine m19 ?_ | refine m18 ?_) | (refine m07 ?_; (first | refine m15 ?_ | refine m16 ?_ | fail)) | refine zam (by (conv => {lhs; whnf}); done) (by exact hF.len) ?_ | (refine m45 ?_; (first | refine zb3 (by exact rfl) ?_ | refine v_k ?_ | fail)) | (refine m00 ?_; (first | refine m52 ?_ | refine m53 ?_ | refine zc7 ?_ | refine m47 ?_ | refine m48 ?_ | refine m49 ?_ | refine m50 ?_ | refine v_k ?_ | refine m51 ?_ | fail)) | (refine m22 ?_; (first | refine m26 ?_ | refine m27 ?_ | fail)) | refine m42 ?_ | refine zab ?_ | refine zac ?_ | refine m08 ?_ | refine zaj ?_ | refine zam (by (conv => {lhs; whnf}); done) (by first | rfl | assumption) ?_ | refine m01 ?_ | fail))
 |refine zat ?_ | refine zau ?_ | refine zas ?_
 |(refine zax ?_; (first | refine zar ?_ | refine zad ?_ | (refine m06 ?_; (first | refine c_T ?_ | refine c_F ?_ | refine c_P ?_ ?_ | refine c_B ?_ ?_ | fail)) | refine zaq ?_ | refine zah ?_ | refine zae ?_ | refine b_exit ?_ | fail))
 |refine m43 ?_
 |refine zbv ?_
 |refine m21 ?_
 |refine za4 ?_
 |(refine za5 ?_; (first | refine cA (zxq _ _ _ _ _ _ (by omega) (by omega) (by omega) (by omega) (by omega) (by omega) (by omega) (by omega) (by omega)) ?_ | fail))
 |refine m05 ?_
 |refine m04 ?_ | refine m02 ?_ | refine m03 ?_ | refine zai ?_
 |intro _)
  all_goals first | refine zal rfl (by simp [mx, mxL, aOf, zbn, zaf]) ?_ | (trace_state; fail)
  all_goals first
    | exact rtF (by unfold za8; omega)
    | exact rtT (by unfold za8; omega)
    | exact rvP (by unfold za8; omega)
theorem zoe (H : List (List AV)) (D : AV) (l : List Nat) (hF : FL H D l) (off rows cols ld : Int) (hI : MI l.length off rows cols ld) :
    zaa Tryz.prog 7 [mt D off rows cols ld] H (.bool (decide (1000 < (l.length : Int) ∨ 20 < rows ∨ 20 < cols))) H := by
  obtain ⟨hn, ho1, ho2, hr1, hr2, hc1, hc2, hl1, hl2⟩ := id hI
  refine .go Tryz.call7 Tryz.func7 false [] dOk ?_
  simp only [za0, Nat.reduceAdd]
  repeat' (first
 |(refine zav ?_; (first | refine zbd ?_ | refine zao ?_ | refine m13 ?_ | refine m12 ?_ | refine m11 ?_ | (refine m10 ?_; (first | refine zcv ?_ | refine zcq ?_ | refine zcu ?_ | refine zcr ?_ | refine zct ?_ ?_ | refine zcs ?_ ?_ | refine zcp ?_ ?_ | refine zco ?_ ?_ | fail)) | (refine m09 ?_; (first | refine zcv ?_ | refine zcq ?_ | refine zcu ?_ | refine zcr ?_ | refine zct ?_ ?_ | refine zcs ?_ ?_ | refine zcp ?_ ?_ | refine zco ?_ ?_ | fail)) | refine m38 ?_ | fail))
 |(refine zaw ?_; (first | refine m14 ?_ | (refine m17 ?_; first | refine m19 ?_ | refine m18 ?_) | (refine m07 ?_; (first | refine m15 ?_ | refine m16 ?_ | fail)) | refine zam (by (conv => {lhs; whnf}); done) (by exact hF.len) ?_ | (refine m00 ?_; (first | refine m47 ?_ | refine m48 ?_ | refine m49 ?_ | refine m50 ?_ | refine v_k ?_ | refine m51 ?_ | fail)) | (refine m22 ?_; (first | refine m26 ?_ | refine m27 ?_ | fail)) | refine m42 ?_ | refine zab ?_ | refine zac ?_ | refine m08 ?_ | refine zam (by (conv => {lhs; whnf}); done) (by first | rfl | assumption) ?_ | refine m01 ?_ | fail))
 |refine zat ?_ | refine zau ?_ | refine zas ?_
 |(refine zax ?_; (first | refine zar ?_ | refine zad ?_ | (refine m06 ?_; (first | refine c_T ?_ | refine c_F ?_ | refine c_P ?_ ?_ | refine c_B ?_ ?_ | fail)) | refine zaq ?_ | refine zah ?_ | refine zae ?_ | refine b_exit ?_ | fail))
 |refine m05 ?_
 |refine m04 ?_ | refine m02 ?_ | refine m03 ?_ | refine zai ?_
 |intro _)
  all_goals first | refine zal rfl (by simp [mx, mxL, aOf, zbn, zaf]) ?_ | (trace_state; fail)
  all_goals first
    | exact rtF (by omega)
    | exact rtT (by omega)
    | exact rvT (by omega)
    | exact rvP (by omega)
theorem z95 (H H' : List (List AV)) (r c : Nat) (hr : r ≤ 1000) (hc : c ≤ 1000) (m : Nat) (hm : H.length = m) (hH : H ++ [fl (List.replicate (r * c) 0)] = H') :
    zaa Tryz.prog 55 [.int .i64 (r : Int), .int .i64 (c : Int)] H (mM (.slm m (r * c) 0 (r * c) 1) r c) H' := by
  subst hH hm
  have hrc : r * c ≤ 1000000 := by (have := Nat.mul_le_mul hr hc; omega)
  refine .go Tryz.call55 Tryz.func55 false [] dOk ?_
  simp only [za0, Nat.reduceAdd]
  repeat' (first
 |(refine zav ?_; (first | refine zbd ?_ | refine zao ?_ | fail))
 |(refine zaw ?_; (first | refine m14 ?_ | refine zy7 (by (conv => {lhs; whnf}); done) (by (conv => {lhs; whnf}); done) (by exact rfl) (by (conv => {lhs; whnf}); done) (by (conv => {lhs; simp only [List.nil_append, List.cons_append]}); done) (by exact rfl) (by omega) ?_ | (refine m00 ?_; (first | refine zum (by omega) ?_ | refine zul (by omega) ?_ | refine m49 ?_ | refine m50 ?_ | refine v_k ?_ | refine m51 ?_ | fail)) | refine m25 ?_ | refine m24 ?_ | refine zc9 ?_ | fail))
 |refine zat ?_ | refine zau ?_ | refine zas ?_
 |(refine zax ?_; (first | refine zar ?_ | refine zad ?_ | (refine m06 ?_; (first | refine c_T ?_ | refine c_F ?_ | refine c_P ?_ ?_ | refine c_B ?_ ?_ | fail)) | refine zaq ?_ | refine zah ?_ | refine zae ?_ | refine b_exit ?_ | fail))
 |refine m58 ?_
 |refine zd8 ?_
 |refine m05 ?_
 |refine m04 ?_ | refine m02 ?_ | refine m03 ?_ | refine zai ?_
 |intro _)
  all_goals first
    | exact zgc (j := 0) (cs := fl (List.replicate (r * c) 0)) rfl rfl (by rw [zak]; exact Nat.zero_le _) (Fr.agg (Frs.cons (Fr.old (by simp [mx])) (Frs.cons (Fr.old (by simp [mx])) (Frs.cons (Fr.kp (j := 0) (cs := fl (List.replicate (r * c) 0)) rfl (za9 rfl rfl) (by simp)) Frs.nil))))
theorem qba (H : List (List AV)) (A : AV) (a : List Nat) (hA : FL H A a) (r c : Nat) (ha : a.length = r * c) (hr : r ≤ 1000) (hc : c ≤ 1000) (i j : Nat) (hi : i < r) (hj : j < c) :
    zaa Tryz.prog 32 [mM A r c, .int .i64 (i : Int), .int .i64 (j : Int)] H (.flt (a.getD (i * c + j) 0)) H := by
  have hrc : r * c ≤ 1000000 := by (have := Nat.mul_le_mul hr hc; omega)
  have hlt := zvu hi hj
  have hic : i * c ≤ 1000000 := by omega
  refine .go Tryz.call32 Tryz.func32 false [] dOk ?_
  simp only [za0, Nat.reduceAdd]
  repeat' (first
 |(refine zav ?_; (first | refine zbd ?_ | refine zao ?_ | fail))
 |(refine zaw ?_; (first | refine m14 ?_ | (refine m17 ?_; first | refine m19 ?_ | refine m18 ?_) | (refine m07 ?_; (first | refine m15 ?_ | refine m16 ?_ | refine zdy (FL.app hA _) (by omega) ?_ | fail)) | refine zbz (by (conv => {lhs; whnf}); done) (by (conv => {lhs; whnf}); done) (by exact hA.len) (by omega) ?_ | (refine m00 ?_; (first | refine zum (by omega) ?_ | refine zul (by omega) ?_ | refine m49 ?_ | refine m50 ?_ | refine v_k ?_ | refine m51 ?_ | fail)) | refine m42 ?_ | refine zab ?_ | refine zac ?_ | refine m08 ?_ | refine m01 ?_ | fail))
 |refine zat ?_ | refine zau ?_ | refine zas ?_
 |(refine zax ?_; (first | refine zar ?_ | refine zad ?_ | (refine m06 ?_; (first | refine c_T ?_ | refine c_F ?_ | refine c_P ?_ ?_ | refine c_B ?_ ?_ | fail)) | refine zaq ?_ | refine zah ?_ | refine zae ?_ | refine b_exit ?_ | fail))
 |refine m05 ?_
 |refine m04 ?_ | refine m02 ?_ | refine m03 ?_ | refine zai ?_
 |intro _)
  all_goals first | refine zal rfl (by simp [mx, mxL, aOf, zbn, zaf]) ?_ | (trace_state; fail)
  all_goals exact rfl
theorem z6y (H H' : List (List AV)) (b : Nat) (a : List Nat) (hb : H[b]? = some (fl a)) (r c : Nat) (ha : a.length = r * c) (hr : r ≤ 1000) (hc : c ≤ 1000) (i j : Nat) (hi : i < r) (hj : j < c) (x : Nat) (hH : H.set b (fl (a.set (i * c + j) x)) = H') :
    zaa Tryz.prog 56 [mM (.slm b (r * c) 0 (r * c) 1) r c, .int .i64 (i : Int), .int .i64 (j : Int), .flt x] H (.tup []) H' := by
  subst hH
  have hrc : r * c ≤ 1000000 := by (have := Nat.mul_le_mul hr hc; omega)
  have hlt := zvu hi hj
  have hic : i * c ≤ 1000000 := by omega
  refine .go Tryz.call56 Tryz.func56 false [] dOk ?_
  simp only [za0, Nat.reduceAdd]
  repeat' (first
 |(refine zav ?_; (first | refine zbd ?_ | refine zao ?_ | fail))
 |(refine zaw ?_; (first | refine m14 ?_ | (refine m17 ?_; first | refine m19 ?_ | refine m18 ?_) | (refine m07 ?_; (first | refine m15 ?_ | refine m16 ?_ | fail)) | refine zbz (by (conv => {lhs; whnf}); done) (by (conv => {lhs; whnf}); done) (by exact rfl) (by omega) ?_ | refine zy9 (by (conv => {lhs; whnf}); done) (by (conv => {lhs; whnf}); done) hb ha (by omega) (m' := a.set (i * c + j) x) (by rw [Nat.zero_add]) ?_ | (refine m00 ?_; (first | refine zum (by omega) ?_ | refine zul (by omega) ?_ | refine m49 ?_ | refine m50 ?_ | refine v_k ?_ | refine m51 ?_ | fail)) | refine m25 ?_ | refine m01 ?_ | fail))
 |refine zat ?_ | refine zau ?_ | refine zas ?_
 |(refine zax ?_; (first | refine zar ?_ | refine zad ?_ | (refine m06 ?_; (first | refine c_T ?_ | refine c_F ?_ | refine c_P ?_ ?_ | refine c_B ?_ ?_ | fail)) | refine zaq ?_ | refine zah ?_ | refine zae ?_ | refine b_exit ?_ | fail))
 |refine m05 ?_
 |refine m04 ?_ | refine m02 ?_ | refine m03 ?_ | refine zai ?_
 |intro _)
  all_goals first
    | (refine zal (by simp) (by simp [mx, mxL, zaf]) ?_; exact rfl)
theorem qdc (H : List (List AV)) (D : AV) (l : List Nat) (hF : FL H D l) (off rows cols ld : Int) (hI : MI l.length off rows cols ld) (hG : zaz l.length off rows cols ld) (hr : rows ≤ 1000) (hc : cols ≤ 1000) :
    zaa Tryz.prog 12 [mt D off rows cols ld] H (mM (.sl none (rows.toNat * cols.toNat) (fl (rmA (mel l off ld) rows.toNat cols.toNat))) rows cols) H := by
  obtain ⟨r, rfl⟩ : ∃ r : Nat, rows = (r : Int) := ⟨rows.toNat, by have := hG.1; omega⟩
  obtain ⟨c, rfl⟩ : ∃ c : Nat, cols = (c : Int) := ⟨cols.toNat, by have := hG.2.1; omega⟩
  simp only [Int.toNat_natCast]
  obtain ⟨hn, ho1, ho2, hr1, hr2, hc1, hc2, hl1, hl2⟩ := id hI
  have hrc : r * c ≤ 1000000 := by (have := Nat.mul_le_mul (show r ≤ 1000 by omega) (show c ≤ 1000 by omega); omega)
  refine .go Tryz.call12 Tryz.func12 false [] dOk ?_
  simp only [za0, Nat.reduceAdd]
  repeat' (first
 |(refine zav ?_; (first | refine zbd ?_ | refine zao ?_ | fail))
 |(refine zaw ?_; (first | refine m14 ?_ | (refine m17 ?_; first | refine m19 ?_ | refine m18 ?_) | (refine m07 ?_; (first | refine m15 ?_ | refine m16 ?_ | refine zdy (FL.app hF _) (by first | omega | (have hp := zck hG (i := (k : Int)) (j := (j : Int)) (by omega) (by omega) (by omega) (by omega); omega) | fail) ?_ | fail)) | refine zy6 (by (conv => {lhs; whnf}); done) (by (conv => {lhs; whnf}); done) (by exact hF.len) (by first | omega | (have hp := zck hG (i := (k : Int)) (j := (j : Int)) (by omega) (by omega) (by omega) (by omega); omega) | fail) ?_ | (refine m00 ?_; (first | refine v_w (by first | omega | (have hp := zck hG (i := (k : Int)) (j := (j : Int)) (by omega) (by omega) (by omega) (by omega); omega) | fail) ?_ | refine m47 ?_ | refine m48 ?_ | refine m49 ?_ | refine m50 ?_ | refine v_k ?_ | refine m51 ?_ | fail)) | refine m42 ?_ | refine zab ?_ | refine zac ?_ | refine m08 ?_ | refine zaj ?_ | refine m25 ?_ | refine m01 ?_ | refine m24 ?_ | fail))
 |(refine zch ?_; (first | refine m36 ?_ | refine zcf ?_ | fail))
 |(refine zcg ?_; (first | refine zev ?_ | refine m34 ?_ | refine m35 ?_ | refine m33 ?_ | refine zew ?_ | refine m56 ?_ | refine zci ?_ | fail))
 |refine zat ?_ | refine zau ?_ | refine zas ?_
 |(refine zax ?_; (first | refine zar ?_ | refine zad ?_ | (refine m06 ?_; (first | refine c_T ?_ | refine c_F ?_ | refine c_P ?_ ?_ | refine c_B ?_ ?_ | fail)) | refine zaq ?_ | refine zah ?_ | refine zae ?_ | refine b_exit ?_ | refine zan [] [16] [(0, .ld true), (1, .lt), (2, .lt), (3, .lt), (4, .ld true), (5, .lt), (6, .ld true), (7, .lt), (8, .lt), (9, .lt), (10, .lt), (11, .ld true), (12, .lt), (13, .lt), (14, .lt), (15, .ld true), (16, .mn false)] (by kernel_rfl) ?_ | (refine za1 [5, 4, 1, 2, 3] c (fun j => ⟨[(5, .val (.int .i64 (j : Int))), (4, .val (.int .i64 (k : Int))), (1, .loc 1 0), (2, .loc 2 0), (3, .loc 3 0)], [(1, [D, .int .i64 off, .int .i64 (r : Int), .int .i64 (c : Int), .int .i64 ld]), (2, [.int .i64 0, .int .i64 0, .slnil]), (3, [.int .i64 (r : Int), .int .i64 (c : Int), .slm (H.length + 0) (r * c) 0 (r * c) 1])], H ++ [fl (ofL (mel l off ld) r c (k * c + j))]⟩) (by exact rfl) ?_ ?_ <;> (first | intro j hj K hK | intro K) <;> (try dsimp only at *) <;> (try simp only [Int.natCast_add, Int.natCast_one] at *)) | (refine za1 [4, 1, 2, 3] r (fun k => ⟨[(4, .val (.int .i64 (k : Int))), (1, .loc 1 0), (2, .loc 2 0), (3, .loc 3 0)], [(1, [D, .int .i64 off, .int .i64 (r : Int), .int .i64 (c : Int), .int .i64 ld]), (2, [.int .i64 0, .int .i64 0, .slnil]), (3, [.int .i64 (r : Int), .int .i64 (c : Int), .slm (H.length + 0) (r * c) 0 (r * c) 1])], H ++ [fl (ofL (mel l off ld) r c (k * c))]⟩) (by simp only [Nat.zero_mul, zv5]; exact rfl) ?_ ?_ <;> (first | intro k hk K hK | intro K) <;> (try dsimp only at *) <;> (try simp only [Int.natCast_add, Int.natCast_one, Nat.add_mul, Nat.one_mul] at *)) | fail))
 |refine m21 ?_
 |refine za4 ?_
 |(refine za5 ?_; (first | refine cA (z95 _ _ r c (by omega) (by omega) _ (by (conv => {lhs; simp only [List.length_append, List.length_cons, List.length_nil, List.length_set, Nat.reduceAdd, Nat.zero_add]}); done) (by (conv => {lhs; simp only [List.append_assoc, List.cons_append, List.nil_append]}); done)) ?_ | refine cA (z6y _ _ _ (ofL (mel l off ld) r c (k * c + j)) (za9 (by exact rfl) rfl) r c (by simp) (by omega) (by omega) k j (by omega) (by omega) _ (by rw [z0m (by omega) (by omega) (by exact rfl)]; exact zi2 (by exact rfl) (by (conv => {lhs; simp only [List.set_cons_zero, List.set_cons_succ]}); done))) ?_ | fail))
 |refine zbh ?_ | refine zbi ?_ | refine zbg ?_ | refine m57 ?_
 |refine zdp ?_ | refine zdq ?_ | refine zdo ?_
 |(refine zdr (by exact rfl) ?_; first | exact hK | fail | (exfalso; first | omega | (simp_all; done) | (simp_all; omega)))
 |refine m05 ?_
 |refine m04 ?_ | refine m02 ?_ | refine m03 ?_ | refine zai ?_
 |intro _)
  all_goals first
    | (refine zb5 rfl ?_; simp only [z0k]; exact Fr.agg (Frs.cons (Fr.old (by simp [mx])) (Frs.cons (Fr.old (by simp [mx])) (Frs.cons (Fr.fz (by omega) (by simp) (za9 rfl rfl) (by simp) (ze9 _ (by simp)) (Frs.old (by rw [zak]; exact Nat.zero_le _))) Frs.nil))))
end
theorem z6n (H : List (List AV)) (x y : Nat) (h : x = y) : zaa Tryz.prog 15 [.flt x, .flt y] H (.bool true) H := by
  have := zyh H x y
  rwa [decide_eq_true h] at this
section
attribute [local irreducible] Ex za3 exD opX opE zca zd3 zd4 Spec zaa Fr zb9 zbb zba ckK zb8 zb6 zbu faK zb4 zd1 gK fK rK zeq lpX prK
theorem qbg (H : List (List AV)) (D : AV) (l : List Nat) (hF : FL H D l) (off rows cols ld : Int) (hI : MI l.length off rows cols ld) (hG : zaz l.length off rows cols ld) (i j : Int) (hi : 0 ≤ i) (hj : 0 ≤ j) (hi' : i < rows) (hj' : j < cols) :
    zaa Tryz.prog 97 [mt D off rows cols ld, .int .i64 i, .int .i64 j] H (.flt (mel l off ld i.toNat j.toNat)) H := by
  obtain ⟨hn, ho1, ho2, hr1, hr2, hc1, hc2, hl1, hl2⟩ := id hI
  have hpl := (z5o (show zhr l.length off rows cols ld i j from ⟨hG, hi, hj, hi', hj'⟩)).1
  have hpl0 := (z5o (show zhr l.length off rows cols ld i j from ⟨hG, hi, hj, hi', hj'⟩)).2
  have hpl9 := qaf hpl0
  have hij : (i.toNat : Int) = i ∧ (j.toNat : Int) = j := ⟨by omega, by omega⟩
  have hmul : (j.toNat : Int) * ld = j * ld := by rw [hij.2]
  refine .go Tryz.call97 Tryz.func97 false [] dOk ?_
  simp only [za0, Nat.reduceAdd]
  repeat' (first
 |(refine zav ?_; (first | refine zbd ?_ | refine zao ?_ | fail))
 |(refine zaw ?_; (first | refine m14 ?_ | (refine m17 ?_; first | refine m19 ?_ | refine m18 ?_) | (refine m07 ?_; (first | refine m15 ?_ | refine m16 ?_ | refine zdy (FL.app hF _) (by omega) ?_ | fail)) | refine zy6 (by (conv => {lhs; whnf}); done) (by (conv => {lhs; whnf}); done) (by exact hF.len) (by omega) ?_ | (refine m00 ?_; (first | refine m47 ?_ | refine m48 ?_ | refine m49 ?_ | refine m50 ?_ | refine v_k ?_ | refine m51 ?_ | fail)) | refine m42 ?_ | refine zab ?_ | refine zac ?_ | refine m08 ?_ | refine zaj ?_ | refine m01 ?_ | fail))
 |refine zat ?_ | refine zau ?_ | refine zas ?_
 |(refine zax ?_; (first | refine zar ?_ | refine zad ?_ | (refine m06 ?_; (first | refine c_T ?_ | refine c_F ?_ | refine c_P ?_ ?_ | refine c_B ?_ ?_ | fail)) | refine zaq ?_ | refine zah ?_ | refine zae ?_ | refine b_exit ?_ | fail))
 |refine m21 ?_
 |refine za4 ?_
 |(refine za5 ?_; (first | refine cA (z0t _ D l.length off rows cols ld hF.len hI i j (by omega) (by omega) (by omega) (by omega)) ?_ | fail))
 |refine m05 ?_
 |refine m04 ?_ | refine m02 ?_ | refine m03 ?_ | refine zai ?_
 |intro _)
  all_goals first | refine zal rfl (by simp [mx, mxL, aOf, zbn, zaf]) ?_ | (trace_state; fail)
  all_goals first
    | (refine congrArg AV.flt ?_; rw [zs5, hpl]; unfold pos; congr 2; omega)
    | (exfalso; omega)
theorem zea (H : List (List AV)) (x y : Nat) :
    zaa Tryz.prog 63 [.flt x, .flt y] H (.flt (fdiv x y)) H := by
  refine .go Tryz.call63 Tryz.func63 false [] dOk ?_
  simp only [za0, Nat.reduceAdd]
  repeat' (first
 |(refine zav ?_; (first | refine zbd ?_ | refine zao ?_ | fail))
 |(refine zaw ?_; (first | refine m14 ?_ | (refine m00 ?_; (first | refine m49 ?_ | refine m50 ?_ | refine zh7 (by omega) (by omega) ?_ | refine v_k ?_ | refine m51 ?_ | fail)) | refine m42 ?_ | refine zab ?_ | refine zac ?_ | refine m08 ?_ | fail))
 |refine zat ?_ | refine zau ?_ | refine zas ?_
 |(refine zax ?_; (first | refine zar ?_ | refine zad ?_ | (refine m06 ?_; (first | refine c_T ?_ | refine c_F ?_ | refine c_P ?_ ?_ | refine c_B ?_ ?_ | fail)) | refine zaq ?_ | refine zah ?_ | refine zae ?_ | refine b_exit ?_ | fail))
 |refine m05 ?_
 |refine m04 ?_ | refine m02 ?_ | refine m03 ?_ | refine zai ?_
 |intro _)
  all_goals first | refine zal rfl (by simp [mx, mxL, aOf, zbn, zaf]) ?_ | (trace_state; fail)
  all_goals exact rfl
theorem zsr (H : List (List AV)) (x y : Nat) :
    zaa Tryz.prog 82 [.flt x, .flt y] H (.flt (ziz x y)) H := by
  refine .go Tryz.call82 Tryz.func82 false [] dOk ?_
  simp only [za0, Nat.reduceAdd]
  repeat' (first
 |(refine zav ?_; (first | refine zbd ?_ | refine zao ?_ | fail))
 |(refine zaw ?_; (first | refine m14 ?_ | (refine m00 ?_; (first | refine m49 ?_ | refine m50 ?_ | refine v_k ?_ | refine m51 ?_ | fail)) | refine m42 ?_ | refine zab ?_ | refine zac ?_ | refine m08 ?_ | fail))
 |refine zat ?_ | refine zau ?_ | refine zas ?_
 |(refine zax ?_; (first | refine zar ?_ | refine zad ?_ | (refine m06 ?_; (first | refine c_T ?_ | refine c_F ?_ | refine c_P ?_ ?_ | refine c_B ?_ ?_ | fail)) | refine zaq ?_ | refine zah ?_ | refine zae ?_ | refine b_exit ?_ | fail))
 |refine m05 ?_
 |refine m04 ?_ | refine m02 ?_ | refine m03 ?_ | refine zai ?_
 |intro _)
  all_goals first | refine zal rfl (by simp [mx, mxL, aOf, zbn, zaf]) ?_ | (trace_state; fail)
  all_goals exact rfl
theorem zjj (H : List (List AV)) (x y : Nat) :
    zaa Tryz.prog 83 [.flt x, .flt y] H (.flt (zeu x y)) H := by
  refine .go Tryz.call83 Tryz.func83 false [] dOk ?_
  simp only [za0, Nat.reduceAdd]
  repeat' (first
 |(refine zav ?_; (first | refine zbd ?_ | refine zao ?_ | fail))
 |(refine zaw ?_; (first | refine m14 ?_ | (refine m00 ?_; (first | refine m49 ?_ | refine m50 ?_ | refine v_k ?_ | refine m51 ?_ | fail)) | refine m42 ?_ | refine zab ?_ | refine zac ?_ | refine m08 ?_ | fail))
 |refine zat ?_ | refine zau ?_ | refine zas ?_
 |(refine zax ?_; (first | refine zar ?_ | refine zad ?_ | (refine m06 ?_; (first | refine c_T ?_ | refine c_F ?_ | refine c_P ?_ ?_ | refine c_B ?_ ?_ | fail)) | refine zaq ?_ | refine zah ?_ | refine zae ?_ | refine b_exit ?_ | fail))
 |refine m05 ?_
 |refine m04 ?_ | refine m02 ?_ | refine m03 ?_ | refine zai ?_
 |intro _)
  all_goals first | refine zal rfl (by simp [mx, mxL, aOf, zbn, zaf]) ?_ | (trace_state; fail)
  all_goals exact rfl
theorem zqn (H : List (List AV)) (A : AV) (g : Nat → Nat → Nat) (r c : Nat) (hA : FL H A (rmA g r c)) (hr : r ≤ 1000) (hc : c ≤ 1000) (i j : Nat) (hi : i < r) (hj : j < c) : zaa Tryz.prog 32 [mM A r c, .int .i64 (i : Int), .int .i64 (j : Int)] H (.flt (g i j)) H := by
  have := qba H A _ hA r c (by simp) hr hc i j hi hj
  rwa [z01 hi hj] at this
theorem z5n (H : List (List AV)) (P : AV) (p : List Int) (hP : IL H P p) (hB : p.length ≤ 2 ^ 30) :
    zaa Tryz.prog 11 [P] H (.bool (decide (zdx p))) H := by
  obtain ⟨N, hN1, hN2, hN3⟩ := zdu (fun k => (k : Int) ≤ p.getD k 0 ∧ p.getD k 0 < p.length) p.length
  refine .go Tryz.call11 Tryz.func11 false [] dOk ?_
  simp only [za0, Nat.reduceAdd]
  repeat' (first
 |(refine zav ?_; (first | refine zbd ?_ | refine zao ?_ | refine m13 ?_ | refine m12 ?_ | refine m11 ?_ | (refine m10 ?_; (first | refine zcv ?_ | refine zcq ?_ | refine zcu ?_ | refine zcr ?_ | refine zct ?_ ?_ | refine zcs ?_ ?_ | refine zcp ?_ ?_ | refine zco ?_ ?_ | fail)) | (refine m09 ?_; (first | refine zcv ?_ | refine zcq ?_ | refine zcu ?_ | refine zcr ?_ | refine zct ?_ ?_ | refine zcs ?_ ?_ | refine zcp ?_ ?_ | refine zco ?_ ?_ | fail)) | refine m38 ?_ | fail))
 |(refine zaw ?_; (first | refine m14 ?_ | (refine m07 ?_; (first | refine m15 ?_ | refine m16 ?_ | refine zxy (IL.app hP _) (by omega) ?_ | fail)) | refine zbz (by (conv => {lhs; whnf}); done) (by (conv => {lhs; whnf}); done) (by exact hP.len) (by omega) ?_ | refine zam (by (conv => {lhs; whnf}); done) (by exact hP.len) ?_ | (refine m00 ?_; (first | refine m47 ?_ | refine m48 ?_ | refine m49 ?_ | refine m50 ?_ | refine v_k ?_ | refine m51 ?_ | fail)) | (refine m22 ?_; (first | refine m26 ?_ | refine m27 ?_ | fail)) | refine m42 ?_ | refine zab ?_ | refine zac ?_ | refine m08 ?_ | refine zam (by (conv => {lhs; whnf}); done) (by first | rfl | assumption) ?_ | fail))
 |refine zat ?_ | refine zau ?_ | refine zas ?_
 |(refine zax ?_; (first | refine zar ?_ | refine zad ?_ | (refine m06 ?_; (first | refine c_T ?_ | refine c_F ?_ | refine c_P ?_ ?_ | refine c_B ?_ ?_ | fail)) | refine zaq ?_ | refine zah ?_ | refine zae ?_ | refine b_exit ?_ | (refine za1 [3, 0, 2] N (fun k => ⟨[(3, .val (.int .i64 (k : Int))), (0, .val P), (2, .val (.bool false))], [], H ++ []⟩) (by exact rfl) ?_ ?_ <;> (first | intro k hk K hK | intro K) <;> (try dsimp only at *) <;> (try simp only [Int.natCast_add, Int.natCast_one] at *)) | fail))
 |refine zbh ?_ | refine zbi ?_ | refine zbg ?_ | refine m57 ?_
 |refine zdp ?_ | refine zdq ?_ | refine zdo ?_
 |(refine zdr (by exact rfl) ?_; first | exact hK | (exfalso; have := hN3 (by omega); omega) | (exfalso; have := hN3 (by omega); omega) | (exfalso; first | omega | (simp_all; done) | (simp_all; omega)))
 |refine m05 ?_
 |refine m04 ?_ | refine m02 ?_ | refine m03 ?_ | refine zai ?_
 |intro _)
  all_goals first | refine zal rfl (by simp [mx, mxL, aOf, zbn, zaf]) ?_ | (trace_state; fail)
  all_goals first
    | (exfalso; have := hN2 k hk; omega)
    | exact rtF (fun h => by first | (have := h N (by omega); omega) | (have := h.2.2.2 N (by omega); omega) | omega)
    | exact rtF (fun h => by first | (have h2 := h.1; contradiction) | (have h2 := h.2.1; have h3 := h.2.2.1; omega))
    | exact rtT (fun k hk => hN2 k (by omega))
    | (refine rtT ⟨Decidable.not_not.1 (by assumption), by omega, by omega, fun k hk => hN2 k (by omega)⟩)
theorem zkx (H : List (List AV)) (D : AV) (l : List Nat) (hF : FL H D l) (off rows cols ld : Int) (hI : MI l.length off rows cols ld) (P : AV) (p : List Int) (hP : IL H P p) (hB : p.length ≤ 2 ^ 30) :
    zaa Tryz.prog 52 [(.agg [D, .int .i64 off, .int .i64 rows, .int .i64 cols, .int .i64 ld, P])] H (.bool (decide (zaz l.length off rows cols ld ∧ rows = cols ∧ rows = (p.length : Int) ∧ zdx p))) H := by
  obtain ⟨hn, ho1, ho2, hr1, hr2, hc1, hc2, hl1, hl2⟩ := id hI
  obtain ⟨N, hN1, hN2, hN3⟩ := zdu (fun k => (k : Int) ≤ p.getD k 0 ∧ p.getD k 0 < p.length) p.length
  refine .go Tryz.call52 Tryz.func52 false [] dOk ?_
  simp only [za0, Nat.reduceAdd]
  repeat' (first
 |(refine zav ?_; (first | refine zbd ?_ | refine zao ?_ | refine m13 ?_ | refine m12 ?_ | refine m11 ?_ | (refine m10 ?_; (first | refine zcv ?_ | refine zcq ?_ | refine zcu ?_ | refine zcr ?_ | refine zct ?_ ?_ | refine zcs ?_ ?_ | refine zcp ?_ ?_ | refine zco ?_ ?_ | fail)) | (refine m09 ?_; (first | refine zcv ?_ | refine zcq ?_ | refine zcu ?_ | refine zcr ?_ | refine zct ?_ ?_ | refine zcs ?_ ?_ | refine zcp ?_ ?_ | refine zco ?_ ?_ | fail)) | refine m38 ?_ | fail))
 |(refine zaw ?_; (first | refine m41 ?_ | refine zb0 ?_ | refine m14 ?_ | (refine m17 ?_; first | refine m19 ?_ | refine m18 ?_) | (refine m07 ?_; (first | refine m15 ?_ | refine m16 ?_ | refine zxy (IL.app hP _) (by omega) ?_ | fail)) | refine zbz (by (conv => {lhs; whnf}); done) (by (conv => {lhs; whnf}); done) (by exact hP.len) (by omega) ?_ | refine zam (by (conv => {lhs; whnf}); done) (by exact hP.len) ?_ | (refine m00 ?_; (first | refine m54 ?_ | refine m55 ?_ | refine zbx ?_ | refine m47 ?_ | refine m48 ?_ | refine m49 ?_ | refine m50 ?_ | refine zfn ?_ | refine zfl ?_ | refine zfm ?_ | refine v_k ?_ | refine m51 ?_ | fail)) | (refine m22 ?_; (first | refine m26 ?_ | refine m27 ?_ | fail)) | refine m42 ?_ | refine zab ?_ | refine zac ?_ | refine m08 ?_ | (refine m20 ?_; (first | refine m54 ?_ | refine m55 ?_ | refine zbx ?_ | refine m47 ?_ | refine m48 ?_ | refine m49 ?_ | refine m50 ?_ | refine zfn ?_ | refine zfl ?_ | refine zfm ?_ | refine v_k ?_ | refine m51 ?_ | fail)) | refine zaj ?_ | refine zam (by (conv => {lhs; whnf}); done) (by first | rfl | assumption) ?_ | refine m01 ?_ | fail))
 |refine zat ?_ | refine zau ?_ | refine zas ?_
 |(refine zax ?_; (first | refine zar ?_ | refine zad ?_ | (refine m06 ?_; (first | refine c_T ?_ | refine c_F ?_ | refine c_P ?_ ?_ | refine c_B ?_ ?_ | fail)) | refine zaq ?_ | refine zah ?_ | refine zae ?_ | refine b_exit ?_ | (refine za1 [32, 31, 30, 3, 2, 1] N (fun k => ⟨[(32, .val (.int .i64 (k : Int))), (31, .val (.int .i64 (p.length : Int))), (30, .val P), (3, .val (.int .i64 (p.length : Int))), (2, .val (.bool false)), (1, .loc 1 0)], [(1, [D, .int .i64 off, .int .i64 rows, .int .i64 cols, .int .i64 ld, P])], H ++ []⟩) (by exact rfl) ?_ ?_ <;> (first | intro k hk K hK | intro K) <;> (try dsimp only at *) <;> (try simp only [Int.natCast_add, Int.natCast_one] at *)) | fail))
 |refine m21 ?_
 |refine za4 ?_
 |(refine za5 ?_; (first | refine cA (zi1 _ D l.length off rows cols ld hF.len hI) ?_ | fail))
 |refine zbh ?_ | refine zbi ?_ | refine zbg ?_ | refine m57 ?_
 |refine zdp ?_ | refine zdq ?_ | refine zdo ?_
 |(refine zdr (by exact rfl) ?_; first | exact hK | (exfalso; have := hN3 (by omega); omega) | (exfalso; first | omega | (simp_all; done) | (simp_all; omega)))
 |refine m05 ?_
 |refine m04 ?_ | refine m02 ?_ | refine m03 ?_ | refine zai ?_
 |intro _)
  all_goals first | refine zal rfl (by simp [mx, mxL, aOf, zbn, zaf]) ?_ | (trace_state; fail)
  all_goals first
    | (exfalso; have := hN2 k hk; omega)
    | exact rtF (fun h => by first | (have := h N (by omega); omega) | (have := h.2.2.2 N (by omega); omega) | omega)
    | exact rtF (fun h => by first | (have h2 := h.1; contradiction) | (have h2 := h.2.1; have h3 := h.2.2.1; omega))
    | exact rtT (fun k hk => hN2 k (by omega))
    | (refine rtT ⟨Decidable.not_not.1 (by assumption), by omega, by omega, fun k hk => hN2 k (by omega)⟩)
end
theorem IL.fzn (H : List (List AV)) (l : List Int) (n : Nat) (h : l.length = n) : IL H (.sl none n (il l)) l := by subst h; exact IL.fz H none l
theorem FL.fzn (H : List (List AV)) (l : List Nat) (n : Nat) (h : l.length = n) : FL H (.sl none n (fl l)) l := by subst h; exact FL.fz H none l
section
attribute [local irreducible] Ex za3 exD opX opE zca zd3 zd4 Spec zaa Fr zb9 zbb zba ckK zb8 zb6 zbu faK zb4 zd1 gK fK rK zeq lpX prK
theorem zok (H : List (List AV)) (D : AV) (l : List Nat) (hF : FL H D l) (off : Int) (n : Nat) (ld : Int) (hI : MI l.length off n n ld) (P : AV) (p : List Int) (hP : IL H P p) (hB : p.length ≤ 2 ^ 30) (hG : zaz l.length off n n ld) (hpl : p.length = n) (hpv : zdx p) :
    zaa Tryz.prog 52 [(.agg [D, .int .i64 off, .int .i64 (n : Int), .int .i64 (n : Int), .int .i64 ld, P])] H (.bool true) H := by
  have h := zkx H D l hF off n n ld hI P p hP hB
  rwa [decide_eq_true ⟨hG, rfl, by omega, hpv⟩] at h
theorem zw2 (H : List (List AV)) (D : AV) (l : List Nat) (hF : FL H D l) (off ld : Int) (n : Nat) (hI : MI l.length off n n ld) (hG : zaz l.length off n n ld) (i j : Nat) (hi : i < n) (hj : j < n) (x : Nat) (hx : mel l off ld i j = x) :
    zaa Tryz.prog 97 [mt D off n n ld, .int .i64 (i : Int), .int .i64 (j : Int)] H (.flt x) H := by
  have h := qbg H D l hF off n n ld hI hG i j (by omega) (by omega) (by omega) (by omega)
  simp only [Int.toNat_natCast] at h
  rwa [hx] at h
end
theorem qae (H : List (List AV)) (P : AV) (p : List Int) (hP : IL H P p) (hB : p.length ≤ 2 ^ 30) (h : zdx p) : zaa Tryz.prog 11 [P] H (.bool true) H := by
  have := z5n H P p hP hB
  rwa [decide_eq_true h] at this
section
attribute [local irreducible] Ex za3 exD opX opE zca zd3 zd4 Spec zaa Fr zb9 zbb zba ckK zb8 zb6 zbu faK zb4 zd1 gK fK rK zeq lpX prK
theorem qbs (H : List (List AV)) (D : AV) (l : List Nat) (hF : FL H D l) (off ld : Int) (n : Nat) (hI : MI l.length off n n ld) (hG : zaz l.length off n n ld) (hn : n ≤ 64) : zaa Tryz.prog 12 [mt D off (n : Int) (n : Int) ld] H (mM (.sl none (n * n) (fl (rmA (mel l off ld) n n))) n n) H := by
  have h := qdc H D l hF off n n ld hI hG (by omega) (by omega)
  simpa only [Int.toNat_natCast] using h
theorem z3q (H : List (List AV)) (n : Nat) (hn : n ≤ 64) (A : AV) (la : List Nat) (hA : FL H A la) (ao al : Int) (hJ : MI la.length ao n n al) (hGa : zaz la.length ao n n al) (P : AV) (p : List Int) (hP : IL H P p) (hB : p.length ≤ 2 ^ 30) (hpl : p.length = n) (hpv : zdx p) :
    zaa Tryz.prog 101 [.agg [A, .int .i64 ao, .int .i64 (n : Int), .int .i64 (n : Int), .int .i64 al, P]] H (.tup [.sl none n (fl (rml (fun i => (mel la ao al) i i) n)), .int .i64 0]) H := by
  refine .go Tryz.call101 Tryz.func101 false [21] dOk ?_
  simp only [za0, Nat.reduceAdd]
  repeat' (first
 |(refine zav ?_; (first | refine zbd ?_ | refine zao ?_ | fail))
 |(refine zaw ?_; (first | refine m41 ?_ | refine zb0 ?_ | refine m14 ?_ | (refine m17 ?_; first | refine m19 ?_ | refine m18 ?_) | (refine m07 ?_; (first | refine m15 ?_ | refine m16 ?_ | fail)) | refine zee (i := 0) (N₀ := []) (by (conv => {lhs; whnf}); done) (by (conv => {lhs; whnf}); done) (by exact rfl) (by exact rfl) (by simp) (by omega) (by exact rfl) (by exact rfl) (l' := fl (rml (fun i => (mel la ao al) i i) (k + 1))) (by exact zg7 (fun i => (mel la ao al) i i) k) ?_ | (refine m00 ?_; (first | refine zbo ((k + 1 : Nat) : Int) (by omega) (by omega) ?_ | refine m47 ?_ | refine m48 ?_ | refine m49 ?_ | refine m50 ?_ | refine zfn ?_ | refine zfl ?_ | refine zfm ?_ | refine v_k ?_ | refine m51 ?_ | fail)) | refine m42 ?_ | refine zab ?_ | refine zac ?_ | refine m08 ?_ | (refine m20 ?_; (first | refine zbo ((k + 1 : Nat) : Int) (by omega) (by omega) ?_ | refine m47 ?_ | refine m48 ?_ | refine m49 ?_ | refine m50 ?_ | refine zfn ?_ | refine zfl ?_ | refine zfm ?_ | refine v_k ?_ | refine m51 ?_ | fail)) | refine zaj ?_ | refine m01 ?_ | refine zc2 (by exact rfl) (by exact rfl) (by decide) ?_ | fail))
 |refine zat ?_ | refine zau ?_ | refine zas ?_
 |(refine zax ?_; (first | refine zar ?_ | refine zad ?_ | (refine m06 ?_; (first | refine c_T ?_ | refine c_F ?_ | refine c_P ?_ ?_ | refine c_B ?_ ?_ | fail)) | refine zaq ?_ | refine zah ?_ | refine zae ?_ | refine b_exit ?_ | (refine za1 [1, 4, 11, 12] n (fun k => ⟨[(1, .loc 1 0), (4, .val (gV H.length 0 k)), (11, .val (.int .i64 ((n : Nat) : Int))), (12, .val (.int .i64 ((k : Nat) : Int)))], [(1, [A, .int .i64 ao, .int .i64 (n : Int), .int .i64 (n : Int), .int .i64 al, P])], H ++ ([] ++ gN (fl (rml (fun i => (mel la ao al) i i) k)))⟩) (by exact rfl) ?_ ?_ <;> (first | intro k hk K hK | intro K) <;> (try dsimp only at *)) | fail))
 |refine m21 ?_
 |refine za4 ?_
 |(refine za5 ?_; (first | refine cA (zok _ A la (FL.app hA _) ao n al hJ P p (IL.app hP _) hB hGa hpl hpv) ?_ | refine cA (zw2 _ A la (FL.app hA _) ao al n hJ hGa k k (by omega) (by omega) _ rfl) ?_ | fail))
 |refine m44 ?_
 |refine m40 ?_
 |(refine zbc (by (conv => {lhs; simp only [List.nil_append, List.cons_append]}); done) ?_; first | refine ⟨by exact rfl, ?_⟩ | skip)
 |refine zbt ?_
 |(intro N' hN'; simp only [List.nil_append, List.cons_append] at hN'; subst hN')
 |refine zbh ?_ | refine zbi ?_ | refine zbg ?_ | refine m57 ?_
 |refine zdp ?_ | refine zdq ?_ | refine zdo ?_
 |(refine zdr (by exact rfl) ?_; first | exact hK | fail | (exfalso; first | omega | (simp_all; done) | (simp_all; omega)))
 |refine m05 ?_
 |refine m04 ?_ | refine m02 ?_ | refine m03 ?_ | refine zai ?_
 |intro _)
  all_goals first
    | (exfalso; omega)
    | (refine zb5 rfl ?_; exact Fr.tup (Frs.cons (zi0 (N₀ := []) (i := 0) rfl rfl (by simp) (by rw [zak]; exact Nat.zero_le _)) (Frs.cons (Fr.old (by simp [mx])) Frs.nil)))
end
theorem z2f {x : Nat} (h1 : feq x 0 = false) (h2 : feq x (cn 0) = true) : False := by
  have h3 : cn 0 = 0 := by decide
  rw [h3, h1] at h2; cases h2
theorem qcj {x : Nat} (h1 : feq x 0 = true) (h2 : ¬ feq x (cn 0) = true) : False := by
  have h3 : cn 0 = 0 := by decide
  rw [h3] at h2; exact h2 h1
theorem qbo {x : Nat} (h1 : feq x 0 = true) (h2 : feq x (cn 0) = false) : False := qcj h1 (by simp [h2])
section
attribute [local irreducible] Ex za3 exD opX opE zca zd3 zd4 Spec zaa Fr zb9 zbb zba ckK zb8 zb6 zbu faK zb4 zd1 gK fK rK zeq lpX prK
theorem z6r (H : List (List AV)) (b : Nat) (l : List Nat) (hb : H[b]? = some (fl l)) (xo xi : Int) (n : Nat) (hxI : VI l.length xo n xi) (hxR : za8 l.length xo n xi) (D : AV) (hD : mx D ≤ H.length) (mo ld : Int) (i : Nat) (hi : i < n) :
    zaa Tryz.prog 161 [(.agg [D, .int .i64 mo, .int .i64 (n : Int), .int .i64 (n : Int), .int .i64 ld, (.slm b l.length 0 l.length 1), .int .i64 xo, .int .i64 (n : Int), .int .i64 xi]), .int .i64 (i : Int)] H (.eptr (.slm b l.length 0 l.length 1) (pos xo xi 0 i)) H := by
  obtain ⟨vn, vo1, vo2, vn1, vn2, vi1, vi2⟩ := id hxI
  have hbl : b < H.length := (List.getElem?_eq_some_iff.1 hb).1
  refine .go Tryz.call161 Tryz.func161 false [] dOk ?_
  simp only [za0, Nat.reduceAdd]
  repeat' (first
 |(refine zav ?_; (first | refine zbd ?_ | refine zao ?_ | fail))
 |(refine zaw ?_; (first | refine m14 ?_ | (refine m17 ?_; first | refine m19 ?_ | refine m18 ?_) | (refine m07 ?_; (first | refine m15 ?_ | refine m16 ?_ | fail)) | refine zec (m := pos xo xi 0 i) (by (conv => {lhs; whnf}); done) (by (conv => {lhs; whnf}); done) (by exact rfl) (by exact zho hxR hi) (by exact zdb hxR hi) ?_ | (refine m00 ?_; (first | refine v_w (by first | omega | (have h1 := zen hxR (i := (i : Int)) (by omega) (by omega); omega) | fail) ?_ | refine m49 ?_ | refine m50 ?_ | refine v_k ?_ | refine m51 ?_ | fail)) | refine m42 ?_ | refine zab ?_ | refine zac ?_ | refine m08 ?_ | refine m01 ?_ | fail))
 |refine zat ?_ | refine zau ?_ | refine zas ?_
 |(refine zax ?_; (first | refine zar ?_ | refine zad ?_ | (refine m06 ?_; (first | refine c_T ?_ | refine c_F ?_ | refine c_P ?_ ?_ | refine c_B ?_ ?_ | fail)) | refine zaq ?_ | refine zah ?_ | refine zae ?_ | refine b_exit ?_ | fail))
 |refine m05 ?_
 |refine m04 ?_ | refine m02 ?_ | refine m03 ?_ | refine zai ?_
 |intro _)
  all_goals first
    | (refine zal rfl (by simp [mx, mxL, zaf, aOf, zbn]; omega) ?_; exact rfl)
theorem z0e {off ld : Int} {r c m i j : Nat} (hG : zaz m off r c ld) (hi : i < r) (hj : j < c) : off + (i : Int) + (j : Int) * ld = ((pos off ld i j : Nat) : Int) := by
  have hp := zck hG (i := (i : Int)) (j := (j : Int)) (by omega) (by omega) (by omega) (by omega)
  unfold pos
  omega
theorem qau (H : List (List AV)) (D : AV) (l : List Nat) (hF : FL H D l) (mo ld : Int) (n : Nat) (hI : MI l.length mo n n ld) (hG : zaz l.length mo n n ld) (X : AV) (xo xi : Int) (i j : Nat) (hi : i < n) (hj : j < n) (x : Nat) (hx : mel l mo ld i j = x) :
    zaa Tryz.prog 160 [(.agg [D, .int .i64 mo, .int .i64 (n : Int), .int .i64 (n : Int), .int .i64 ld, X, .int .i64 xo, .int .i64 (n : Int), .int .i64 xi]), .int .i64 (i : Int), .int .i64 (j : Int)] H (.flt x) H := by
  obtain ⟨hm, ho1, ho2, hr1, hr2, hc1, hc2, hl1, hl2⟩ := id hI
  refine .go Tryz.call160 Tryz.func160 false [] dOk ?_
  simp only [za0, Nat.reduceAdd]
  repeat' (first
 |(refine zav ?_; (first | refine zbd ?_ | refine zao ?_ | fail))
 |(refine zaw ?_; (first | refine m14 ?_ | (refine m17 ?_; first | refine m19 ?_ | refine m18 ?_) | (refine m07 ?_; (first | refine m15 ?_ | refine m16 ?_ | refine zdy (FL.app hF _) (by exact zoy hG hi hj) ?_ | fail)) | refine zec (m := pos mo ld i j) (by (conv => {lhs; whnf}); done) (by (conv => {lhs; whnf}); done) (by exact hF.len) (by exact z0e hG hi hj) (by exact zoy hG hi hj) ?_ | (refine m00 ?_; (first | refine v_w (by first | omega | (have hp := zck hG (i := (i : Int)) (j := (j : Int)) (by omega) (by omega) (by omega) (by omega); omega) | fail) ?_ | refine m49 ?_ | refine m50 ?_ | refine v_k ?_ | refine m51 ?_ | fail)) | refine m42 ?_ | refine zab ?_ | refine zac ?_ | refine m08 ?_ | refine m01 ?_ | fail))
 |refine zat ?_ | refine zau ?_ | refine zas ?_
 |(refine zax ?_; (first | refine zar ?_ | refine zad ?_ | (refine m06 ?_; (first | refine c_T ?_ | refine c_F ?_ | refine c_P ?_ ?_ | refine c_B ?_ ?_ | fail)) | refine zaq ?_ | refine zah ?_ | refine zae ?_ | refine b_exit ?_ | fail))
 |refine m05 ?_
 |refine m04 ?_ | refine m02 ?_ | refine m03 ?_ | refine zai ?_
 |intro _)
  all_goals first | refine zal rfl (by simp [mx, mxL, aOf, zbn, zaf]) ?_ | (trace_state; fail)
  all_goals first
    | (rw [← hx]; exact rfl)
theorem zm2 {H N : List (List AV)} {b : Nat} {X : List AV} (h : b < H.length) : (H.set b X ++ N)[b]? = some X := zdw (zft h)
theorem znp (H : List (List AV)) (b : Nat) (l l' : List Nat) (hb : H[b]? = some (fl l')) (hl : l'.length = l.length) (xo xi : Int) (n : Nat) (hxI : VI l.length xo n xi) (hxR : za8 l.length xo n xi) (D : AV) (hD : mx D ≤ H.length) (mo ld : Int) (i : Nat) (hi : i < n) :
    zaa Tryz.prog 161 [(.agg [D, .int .i64 mo, .int .i64 (n : Int), .int .i64 (n : Int), .int .i64 ld, (.slm b l.length 0 l.length 1), .int .i64 xo, .int .i64 (n : Int), .int .i64 xi]), .int .i64 (i : Int)] H (.eptr (.slm b l.length 0 l.length 1) (pos xo xi 0 i)) H := by
  have h := z6r H b l' hb xo xi n (by rw [hl]; exact hxI) (by rw [hl]; exact hxR) D hD mo ld i hi
  rwa [hl] at h
theorem zx0 {P : Program} {e : List (Nat × EV)} {L : List (Nat × List AV)} {H N : List (List AV)} {K : St → Prop} {dd : Nat} {t : TypeId} {b : Nat} {l : List Nat} {xo xi : Int} {n : Nat} {f : Nat → Nat} {i : Nat} [ti : TyI P t 1 false] (hb : b < H.length) (hxR : za8 l.length xo n xi) (hi : i < n) (h : K ⟨(dd, .val (.flt (f i))) :: e, L, H.set b (fl (za7 l xo xi n f)) ++ N⟩) :
    zbu P t dd K ⟨e, L, H.set b (fl (za7 l xo xi n f)) ++ N⟩ (.val (.eptr (.slm b l.length 0 l.length 1) (pos xo xi 0 i))) :=
  qbp hb (by simp) (by rw [Nat.zero_add]; simp; exact zdb hxR hi) (by rw [Nat.zero_add, zk9 hxR hi]; exact h)
theorem z1r (H H' : List (List AV)) (b : Nat) (l : List Nat) (hbl : b < H.length) (xo xi : Int) (n : Nat) (hxI : VI l.length xo n xi) (hxR : za8 l.length xo n xi) (D : AV) (hD : mx D ≤ H.length) (mo ld : Int) (f : Nat → Nat) (i k : Nat) (hi : i < n) (hk : k < n) (y : Nat) (g : Nat → Nat) (hg : ∀ t, t < n → zcj f i (ziz (f i) (zeu y (f k))) t = g t) (hH : H.set b (fl (za7 l xo xi n g)) = H') :
    zaa Tryz.prog 159 [(.agg [D, .int .i64 mo, .int .i64 (n : Int), .int .i64 (n : Int), .int .i64 ld, (.slm b l.length 0 l.length 1), .int .i64 xo, .int .i64 (n : Int), .int .i64 xi]), .int .i64 (i : Int), .int .i64 (k : Int), .flt y] (H.set b (fl (za7 l xo xi n f))) (.tup []) H' := by
  subst hH
  obtain ⟨vn, vo1, vo2, vn1, vn2, vi1, vi2⟩ := id hxI
  have hs : (za7 l xo xi n f).set (pos xo xi 0 i) (ziz (f i) (zeu y (f k))) = za7 l xo xi n g := by (rw [zep hxR hi]; exact zcm hxR.2.2.1 hxR.2.1 hg)
  refine .go Tryz.call159 Tryz.func159 false [] dOk ?_
  simp only [za0, Nat.reduceAdd]
  repeat' (first
 |(refine zav ?_; (first | refine zbd ?_ | refine zao ?_ | fail))
 |(refine zaw ?_; (first | refine m14 ?_ | (refine m07 ?_; (first | refine m15 ?_ | refine m16 ?_ | refine zx0 hbl hxR hi ?_ | refine zx0 hbl hxR hk ?_ | fail)) | refine zc3 (by (conv => {lhs; whnf}); done) ?_ | refine zln (X' := za7 l xo xi n g) (by (conv => {lhs; whnf}); done) (by (conv => {lhs; whnf}); done) hbl (by simp) (by simp; exact zdb hxR hi) (by rw [Nat.zero_add]; exact hs) ?_ | (refine m00 ?_; (first | refine m49 ?_ | refine m50 ?_ | refine v_k ?_ | refine m51 ?_ | fail)) | refine zaj ?_ | refine m25 ?_ | refine m01 ?_ | fail))
 |(refine zch ?_; (first | refine m36 ?_ | refine zcf ?_ | fail))
 |(refine zcg ?_; (first | refine zev ?_ | refine zfv ?_ | refine zfw (by (conv => {lhs; whnf}); done) ?_ | refine zfx ?_ | refine zfu (by exact rfl) (by exact rfl) ?_ | refine m34 ?_ | refine m35 ?_ | refine m33 ?_ | refine zew ?_ | refine m56 ?_ | refine zci ?_ | refine zc1 (by exact rfl) ?_ | fail))
 |refine zat ?_ | refine zau ?_ | refine zas ?_
 |(refine zax ?_; (first | refine zar ?_ | refine zad ?_ | (refine m06 ?_; (first | refine c_T ?_ | refine c_F ?_ | refine c_P ?_ ?_ | refine c_B ?_ ?_ | fail)) | refine zaq ?_ | refine zah ?_ | refine zae ?_ | refine b_exit ?_ | refine zan (id := 1) [] [14] [(0, .ld true), (1, .lt), (5, .lt), (6, .ld true), (7, .lt), (2, .mn true), (3, .lt), (4, .ld true), (8, .mn true), (9, .lt), (10, .ld true), (11, .lt), (12, .lt), (13, .lt), (14, .mn false)] (by kernel_rfl) ?_ | fail))
 |refine m21 ?_
 |refine za4 ?_
 |(refine za5 ?_; (first | refine cA (znp _ b l _ (zm2 hbl) (by simp) xo xi n hxI hxR D (by simpa using hD) mo ld i hi) ?_ | refine cA (znp _ b l _ (zm2 hbl) (by simp) xo xi n hxI hxR D (by simpa using hD) mo ld k hk) ?_ | fail))
 |refine m05 ?_
 |refine m04 ?_ | refine m02 ?_ | refine m03 ?_ | refine zai ?_
 |intro _)
  all_goals first
    | (refine zal (by simp) (by simp [mx, mxL, zaf]) ?_; exact rfl)
theorem z6t (H : List (List AV)) (D : AV) (l : List Nat) (hF : FL H D l) (off n inc : Int) (hI : VI l.length off n inc) :
    zaa Tryz.prog 157 [vt D off n inc] H (mt D off 1 n inc) H := by
  refine .go Tryz.call157 Tryz.func157 false [] dOk ?_
  simp only [za0, Nat.reduceAdd]
  repeat' (first
 |(refine zav ?_; (first | refine zbd ?_ | refine zao ?_ | fail))
 |(refine zaw ?_; (first | (refine m17 ?_; first | refine m19 ?_ | refine m18 ?_) | (refine m07 ?_; (first | refine m15 ?_ | refine m16 ?_ | fail)) | refine m25 ?_ | refine m01 ?_ | refine m24 ?_ | refine zc9 ?_ | fail))
 |refine zat ?_ | refine zau ?_ | refine zas ?_
 |(refine zax ?_; (first | refine zar ?_ | refine zad ?_ | (refine m06 ?_; (first | refine c_T ?_ | refine c_F ?_ | refine c_P ?_ ?_ | refine c_B ?_ ?_ | fail)) | refine zaq ?_ | refine zah ?_ | refine zae ?_ | refine b_exit ?_ | fail))
 |refine m58 ?_
 |refine zd8 ?_
 |refine m05 ?_
 |refine m04 ?_ | refine m02 ?_ | refine m03 ?_ | refine zai ?_
 |intro _)
  all_goals first
    | (refine zal rfl (by have := hF.mx; simp [mx, mxL, zaf, aOf, zbn]; omega) ?_; exact rfl)
theorem zt9 (H : List (List AV)) (D : AV) (l : List Nat) (hF : FL H D l) (mo ld : Int) (n : Nat) (hI : MI l.length mo n n ld) (hG : zaz l.length mo n n ld) (hz : ∀ k, k < n → feq (mel l mo ld k k) 0 = false) :
    zaa Tryz.prog 177 [mt D mo (n : Int) (n : Int) ld] H (.bool false) H := by
  obtain ⟨hm, ho1, ho2, hr1, hr2, hc1, hc2, hl1, hl2⟩ := id hI
  refine .go Tryz.call177 Tryz.func177 false [] dOk ?_
  simp only [za0, Nat.reduceAdd]
  repeat' (first
 |(refine zav ?_; (first | refine zbd ?_ | refine zao ?_ | fail))
 |(refine zaw ?_; (first | refine m41 ?_ | refine zb0 ?_ | refine m14 ?_ | (refine m17 ?_; first | refine m19 ?_ | refine m18 ?_) | (refine m07 ?_; (first | refine m15 ?_ | refine m16 ?_ | fail)) | (refine m45 ?_; (first | refine zbo ((k + 1 : Nat) : Int) (by omega) (by omega) ?_ | refine zb3 (by exact rfl) ?_ | refine v_k ?_ | fail)) | (refine m00 ?_; (first | refine zbo ((k + 1 : Nat) : Int) (by omega) (by omega) ?_ | refine m52 ?_ | refine m53 ?_ | refine zc7 ?_ | refine m47 ?_ | refine m48 ?_ | refine m49 ?_ | refine m50 ?_ | refine v_k ?_ | refine m51 ?_ | fail)) | refine m42 ?_ | refine zab ?_ | refine zac ?_ | refine m08 ?_ | refine zaj ?_ | refine m01 ?_ | fail))
 |refine zat ?_ | refine zau ?_ | refine zas ?_
 |(refine zax ?_; (first | refine zar ?_ | refine zad ?_ | (refine m06 ?_; (first | refine c_T ?_ | refine c_F ?_ | refine c_P ?_ ?_ | refine c_B ?_ ?_ | fail)) | refine zaq ?_ | refine zah ?_ | refine zae ?_ | refine b_exit ?_ | (refine za1 [1, 5, 6] n (fun k => ⟨[(1, .loc 1 0), (5, .val (.int .i64 ((n : Nat) : Int))), (6, .val (.int .i64 ((k : Nat) : Int)))], [(1, [D, .int .i64 mo, .int .i64 (n : Int), .int .i64 (n : Int), .int .i64 ld])], H ++ []⟩) (by exact rfl) ?_ ?_ <;> (first | intro k hk K hK | intro K) <;> (try dsimp only at *)) | fail))
 |refine m21 ?_
 |refine za4 ?_
 |(refine za5 ?_; (first | refine cA (zw2 _ D l (FL.app hF _) mo ld n hI hG k k (by omega) (by omega) _ rfl) ?_ | fail))
 |refine zbh ?_ | refine zbi ?_ | refine zbg ?_ | refine m57 ?_
 |refine zdp ?_ | refine zdq ?_ | refine zdo ?_
 |(refine zdr (by exact rfl) ?_; first | exact hK | (exact (qbo hz1 (by assumption)).elim) | (exfalso; first | omega | (simp_all; done) | (simp_all; omega)))
 |refine m05 ?_
 |refine m04 ?_ | refine m02 ?_ | refine m03 ?_ | refine zai ?_
 |intro _)
  all_goals first | refine zal rfl (by simp [mx, mxL, aOf, zbn, zaf]) ?_ | (trace_state; fail)
  all_goals first
    | exact rfl
    | exact False.elim (z2f (hz k (by omega)) (by assumption))
    | (exfalso; omega)
theorem z1y (H : List (List AV)) (D : AV) (l : List Nat) (hF : FL H D l) (mo ld : Int) (n : Nat) (hI : MI l.length mo n n ld) (hG : zaz l.length mo n n ld) (kd : Int) (hz : (kd = 2 ∨ kd = 4) → ∀ k, k < n → feq (mel l mo ld k k) 0 = false) :
    zaa Tryz.prog 158 [.int .i64 kd, mt D mo (n : Int) (n : Int) ld] H (.bool false) H := by
  obtain ⟨hm, ho1, ho2, hr1, hr2, hc1, hc2, hl1, hl2⟩ := id hI
  refine .go Tryz.call158 Tryz.func158 false [] dOk ?_
  simp only [za0, Nat.reduceAdd]
  repeat' (first
 |(refine zav ?_; (first | refine zbd ?_ | refine zao ?_ | refine m13 ?_ | refine m12 ?_ | refine m11 ?_ | (refine m10 ?_; (first | refine zcv ?_ | refine zcq ?_ | refine zcu ?_ | refine zcr ?_ | refine zct ?_ ?_ | refine zcs ?_ ?_ | refine zcp ?_ ?_ | refine zco ?_ ?_ | fail)) | (refine m09 ?_; (first | refine zcv ?_ | refine zcq ?_ | refine zcu ?_ | refine zcr ?_ | refine zct ?_ ?_ | refine zcs ?_ ?_ | refine zcp ?_ ?_ | refine zco ?_ ?_ | fail)) | refine m38 ?_ | fail))
 |(refine zaw ?_; (first | refine m41 ?_ | refine zb0 ?_ | refine m14 ?_ | (refine m17 ?_; first | refine m19 ?_ | refine m18 ?_) | (refine m07 ?_; (first | refine m15 ?_ | refine m16 ?_ | fail)) | (refine m45 ?_; (first | refine zbo ((k + 1 : Nat) : Int) (by omega) (by omega) ?_ | refine zb3 (by exact rfl) ?_ | refine v_k ?_ | fail)) | (refine m00 ?_; (first | refine zbo ((k + 1 : Nat) : Int) (by omega) (by omega) ?_ | refine m52 ?_ | refine m53 ?_ | refine zc7 ?_ | refine m47 ?_ | refine m48 ?_ | refine m49 ?_ | refine m50 ?_ | refine v_k ?_ | refine m51 ?_ | fail)) | (refine m22 ?_; (first | refine m26 ?_ | refine m27 ?_ | fail)) | refine m42 ?_ | refine zab ?_ | refine zac ?_ | refine m08 ?_ | refine zaj ?_ | refine m01 ?_ | fail))
 |refine zat ?_ | refine zau ?_ | refine zas ?_
 |(refine zax ?_; (first | refine zar ?_ | refine zad ?_ | (refine m06 ?_; (first | refine c_T ?_ | refine c_F ?_ | refine c_P ?_ ?_ | refine c_B ?_ ?_ | fail)) | refine zaq ?_ | refine zah ?_ | refine zae ?_ | refine b_exit ?_ | (refine za1 [0, 3, 7, 8] n (fun k => ⟨[(0, .val (.int .i64 kd)), (3, .loc 3 0), (7, .val (.int .i64 ((n : Nat) : Int))), (8, .val (.int .i64 ((k : Nat) : Int)))], [(3, [D, .int .i64 mo, .int .i64 (n : Int), .int .i64 (n : Int), .int .i64 ld])], H ++ []⟩) (by exact rfl) ?_ ?_ <;> (first | intro k hk K hK | intro K) <;> (try dsimp only at *)) | fail))
 |refine m21 ?_
 |refine za4 ?_
 |(refine za5 ?_; (first | refine cA (zw2 _ D l (FL.app hF _) mo ld n hI hG k k (by omega) (by omega) _ rfl) ?_ | fail))
 |refine zbh ?_ | refine zbi ?_ | refine zbg ?_ | refine m57 ?_
 |refine zdp ?_ | refine zdq ?_ | refine zdo ?_
 |(refine zdr (by exact rfl) ?_; first | exact hK | (exact (qbo hz1 (by assumption)).elim) | (exfalso; first | omega | (simp_all; done) | (simp_all; omega)))
 |refine m05 ?_
 |refine m04 ?_ | refine m02 ?_ | refine m03 ?_ | refine zai ?_
 |intro _)
  all_goals first | refine zal rfl (by simp [mx, mxL, aOf, zbn, zaf]) ?_ | (trace_state; fail)
  all_goals first
    | exact rfl
    | exact False.elim (z2f (hz (by omega) k (by omega)) (by assumption))
    | (exfalso; omega)
end
section
variable (H : List (List AV)) (b : Nat) (l : List Nat) (hbl : b < H.length) (xo xi : Int) (n : Nat) (hxI : VI l.length xo n xi) (hxR : za8 l.length xo n xi) (D : AV) (hD : mx D ≤ H.length) (ml : Nat) (mo ld : Int) (hI : MI ml mo n n ld) (hG : zaz ml mo n n ld) (a : Nat → Nat → Nat) (hrd : ∀ f, ∃ l', FL (H.set b (fl (za7 l xo xi n f))) D l' ∧ l'.length = ml ∧ ∀ i j, i < n → j < n → mel l' mo ld i j = a i j)
include hbl hxI hxR hD hI hG hrd in
theorem zqk (f : Nat → Nat) (N : List (List AV)) (i j : Nat) (hi : i < n) (hj : j < n) (ii jj : Int) (hii : ii = (i : Int)) (hjj : jj = (j : Int)) :
    zaa Tryz.prog 160 [(.agg [D, .int .i64 mo, .int .i64 (n : Int), .int .i64 (n : Int), .int .i64 ld, (.slm b l.length 0 l.length 1), .int .i64 xo, .int .i64 (n : Int), .int .i64 xi]), .int .i64 ii, .int .i64 jj] (H.set b (fl (za7 l xo xi n f)) ++ N) (.flt (a i j)) (H.set b (fl (za7 l xo xi n f)) ++ N) := by
  subst hii hjj
  obtain ⟨l', h1, h2, h3⟩ := hrd f
  subst h2
  exact qau _ D l' (h1.app N) mo ld n hI hG _ xo xi i j hi hj _ (h3 i j hi hj)
end
section
variable (H : List (List AV)) (b : Nat) (l : List Nat) (hbl : b < H.length) (xo xi : Int) (n : Nat) (hxI : VI l.length xo n xi) (hxR : za8 l.length xo n xi) (D : AV) (hD : mx D ≤ H.length) (ml : Nat) (mo ld : Int) (hI : MI ml mo n n ld) (hG : zaz ml mo n n ld) (a : Nat → Nat → Nat) (hrd : ∀ f, ∃ l', FL (H.set b (fl (za7 l xo xi n f))) D l' ∧ l'.length = ml ∧ ∀ i j, i < n → j < n → mel l' mo ld i j = a i j)
include hbl hxI hxR hD hI hG hrd in
theorem zyk (f : Nat → Nat) (N : List (List AV)) (i : Nat) (hi : i < n) (ii : Int) (hii : ii = (i : Int)) :
    zaa Tryz.prog 161 [(.agg [D, .int .i64 mo, .int .i64 (n : Int), .int .i64 (n : Int), .int .i64 ld, (.slm b l.length 0 l.length 1), .int .i64 xo, .int .i64 (n : Int), .int .i64 xi]), .int .i64 ii] (H.set b (fl (za7 l xo xi n f)) ++ N) (.eptr (.slm b l.length 0 l.length 1) (pos xo xi 0 i)) (H.set b (fl (za7 l xo xi n f)) ++ N) := by
  subst hii
  exact znp _ b l _ (zm2 hbl) (by simp) xo xi n hxI hxR D (by simp; omega) mo ld i hi
end
section
variable (H : List (List AV)) (b : Nat) (l : List Nat) (hbl : b < H.length) (xo xi : Int) (n : Nat) (hxI : VI l.length xo n xi) (hxR : za8 l.length xo n xi) (D : AV) (hD : mx D ≤ H.length) (ml : Nat) (mo ld : Int) (hI : MI ml mo n n ld) (hG : zaz ml mo n n ld) (a : Nat → Nat → Nat) (hrd : ∀ f, ∃ l', FL (H.set b (fl (za7 l xo xi n f))) D l' ∧ l'.length = ml ∧ ∀ i j, i < n → j < n → mel l' mo ld i j = a i j)
include hbl hxI hxR hD hI hG hrd in
theorem zla (f g : Nat → Nat) (N : List (List AV)) (i k : Nat) (hi : i < n) (hk : k < n) (ii kk : Int) (hii : ii = (i : Int)) (hkk : kk = (k : Int)) (y : Nat) (hg : ∀ t, t < n → zcj f i (ziz (f i) (zeu y (f k))) t = g t) :
    zaa Tryz.prog 159 [(.agg [D, .int .i64 mo, .int .i64 (n : Int), .int .i64 (n : Int), .int .i64 ld, (.slm b l.length 0 l.length 1), .int .i64 xo, .int .i64 (n : Int), .int .i64 xi]), .int .i64 ii, .int .i64 kk, .flt y] (H.set b (fl (za7 l xo xi n f)) ++ N) (.tup []) (H.set b (fl (za7 l xo xi n g)) ++ N) := by
  subst hii hkk
  have h := z1r (H ++ N) _ b l (by simp; omega) xo xi n hxI hxR D (by simp; omega) mo ld f i k hi hk y g hg rfl
  rwa [zdl hbl, zdl hbl] at h
end
section
variable (H : List (List AV)) (b : Nat) (l : List Nat) (hbl : b < H.length) (xo xi : Int) (n : Nat) (hxI : VI l.length xo n xi) (hxR : za8 l.length xo n xi) (D : AV) (hD : mx D ≤ H.length) (ml : Nat) (mo ld : Int) (hI : MI ml mo n n ld) (hG : zaz ml mo n n ld) (a : Nat → Nat → Nat) (hrd : ∀ f, ∃ l', FL (H.set b (fl (za7 l xo xi n f))) D l' ∧ l'.length = ml ∧ ∀ i j, i < n → j < n → mel l' mo ld i j = a i j)
include hbl hxI hxR hD hI hG hrd in
theorem zin (f : Nat → Nat) (N : List (List AV)) : zaa Tryz.prog 141 [vt (.slm b l.length 0 l.length 1) xo (n : Int) xi] (H.set b (fl (za7 l xo xi n f)) ++ N) (.bool true) (H.set b (fl (za7 l xo xi n f)) ++ N) := by
  have hF : FL (H.set b (fl (za7 l xo xi n f)) ++ N) (.slm b l.length 0 l.length 1) (za7 l xo xi n f) := FL.set hbl (by simp) (by simp)
  have h := znf _ _ _ hF xo n xi (by simpa using hxI)
  rwa [decide_eq_true (by simpa using hxR)] at h
end
section
variable (H : List (List AV)) (b : Nat) (l : List Nat) (hbl : b < H.length) (xo xi : Int) (n : Nat) (hxI : VI l.length xo n xi) (hxR : za8 l.length xo n xi) (D : AV) (hD : mx D ≤ H.length) (ml : Nat) (mo ld : Int) (hI : MI ml mo n n ld) (hG : zaz ml mo n n ld) (a : Nat → Nat → Nat) (hrd : ∀ f, ∃ l', FL (H.set b (fl (za7 l xo xi n f))) D l' ∧ l'.length = ml ∧ ∀ i j, i < n → j < n → mel l' mo ld i j = a i j)
include hbl hxI hxR hD hI hG hrd in
theorem zpa (f : Nat → Nat) (N : List (List AV)) : zaa Tryz.prog 157 [vt (.slm b l.length 0 l.length 1) xo (n : Int) xi] (H.set b (fl (za7 l xo xi n f)) ++ N) (mt (.slm b l.length 0 l.length 1) xo 1 (n : Int) xi) (H.set b (fl (za7 l xo xi n f)) ++ N) :=
  z6t _ _ (za7 l xo xi n f) (FL.set hbl (by simp) (by simp)) xo n xi (by simpa using hxI)
end
section
variable (H : List (List AV)) (b : Nat) (l : List Nat) (hbl : b < H.length) (xo xi : Int) (n : Nat) (hxI : VI l.length xo n xi) (hxR : za8 l.length xo n xi) (D : AV) (hD : mx D ≤ H.length) (ml : Nat) (mo ld : Int) (hI : MI ml mo n n ld) (hG : zaz ml mo n n ld) (a : Nat → Nat → Nat) (hrd : ∀ f, ∃ l', FL (H.set b (fl (za7 l xo xi n f))) D l' ∧ l'.length = ml ∧ ∀ i j, i < n → j < n → mel l' mo ld i j = a i j)
include hbl hxI hxR hD hI hG hrd in
theorem z1k (f : Nat → Nat) (N : List (List AV)) : zaa Tryz.prog 51 [mt D mo (n : Int) (n : Int) ld] (H.set b (fl (za7 l xo xi n f)) ++ N) (.bool true) (H.set b (fl (za7 l xo xi n f)) ++ N) := by
  obtain ⟨l', h1, h2, h3⟩ := hrd f
  have h := zi1 (H.set b (fl (za7 l xo xi n f)) ++ N) D ml mo n n ld (h2 ▸ h1.len) hI
  rwa [decide_eq_true hG] at h
end
section
variable (H : List (List AV)) (b : Nat) (l : List Nat) (hbl : b < H.length) (xo xi : Int) (n : Nat) (hxI : VI l.length xo n xi) (hxR : za8 l.length xo n xi) (D : AV) (hD : mx D ≤ H.length) (ml : Nat) (mo ld : Int) (hI : MI ml mo n n ld) (hG : zaz ml mo n n ld) (a : Nat → Nat → Nat) (hrd : ∀ f, ∃ l', FL (H.set b (fl (za7 l xo xi n f))) D l' ∧ l'.length = ml ∧ ∀ i j, i < n → j < n → mel l' mo ld i j = a i j)
include hbl hxI hxR hD hI hG hrd in
theorem zle (f : Nat → Nat) (N : List (List AV)) (kd : Int) (hz : (kd = 2 ∨ kd = 4) → ∀ k, k < n → feq (a k k) 0 = false) : zaa Tryz.prog 158 [.int .i64 kd, mt D mo (n : Int) (n : Int) ld] (H.set b (fl (za7 l xo xi n f)) ++ N) (.bool false) (H.set b (fl (za7 l xo xi n f)) ++ N) := by
  obtain ⟨l', h1, h2, h3⟩ := hrd f
  subst h2
  exact z1y _ D l' (h1.app N) mo ld n hI hG kd (fun h k hk => by rw [h3 k k hk hk]; exact hz h k hk)
end
section
attribute [local irreducible] Ex za3 exD opX opE zca zd3 zd4 Spec zaa Fr zb9 zbb zba ckK zb8 zb6 zbu faK zb4 zd1 gK fK rK zeq lpX prK
theorem zt5 (H : List (List AV)) (b : Nat) (l : List Nat) (hbl : b < H.length) (xo xi : Int) (n : Nat) (hxI : VI l.length xo n xi) (hxR : za8 l.length xo n xi) (D : AV) (hD : mx D ≤ H.length) (ml : Nat) (mo ld : Int) (hI : MI ml mo n n ld) (hG : zaz ml mo n n ld) (a : Nat → Nat → Nat) (hrd : ∀ f, ∃ l', FL (H.set b (fl (za7 l xo xi n f))) D l' ∧ l'.length = ml ∧ ∀ i j, i < n → j < n → mel l' mo ld i j = a i j) (f : Nat → Nat) (kd : Int) (hk1 : 1 ≤ kd) (hk4 : kd ≤ 4) :
    zaa Tryz.prog 156 [.int .i64 kd, mt D mo (n : Int) (n : Int) ld, .int .i64 (n : Int)] (H.set b (fl (za7 l xo xi n f))) (.int .i64 0) (H.set b (fl (za7 l xo xi n f))) := by
  obtain ⟨hm, ho1, ho2, hr1, hr2, hc1, hc2, hl1, hl2⟩ := id hI
  refine .go Tryz.call156 Tryz.func156 false [] dOk ?_
  simp only [za0, Nat.reduceAdd]
  repeat' (first
 |(refine zav ?_; (first | refine zbd ?_ | refine zao ?_ | refine m13 ?_ | refine m12 ?_ | refine m11 ?_ | (refine m10 ?_; (first | refine zcv ?_ | refine zcq ?_ | refine zcu ?_ | refine zcr ?_ | refine zct ?_ ?_ | refine zcs ?_ ?_ | refine zcp ?_ ?_ | refine zco ?_ ?_ | fail)) | (refine m09 ?_; (first | refine zcv ?_ | refine zcq ?_ | refine zcu ?_ | refine zcr ?_ | refine zct ?_ ?_ | refine zcs ?_ ?_ | refine zcp ?_ ?_ | refine zco ?_ ?_ | fail)) | refine m38 ?_ | fail))
 |(refine zaw ?_; (first | refine m14 ?_ | (refine m17 ?_; first | refine m19 ?_ | refine m18 ?_) | (refine m07 ?_; (first | refine m15 ?_ | refine m16 ?_ | fail)) | (refine m00 ?_; (first | refine m54 ?_ | refine m55 ?_ | refine zbx ?_ | refine m47 ?_ | refine m48 ?_ | refine m49 ?_ | refine m50 ?_ | refine zfn ?_ | refine zfl ?_ | refine zfm ?_ | refine v_k ?_ | refine m51 ?_ | fail)) | (refine m22 ?_; (first | refine m26 ?_ | refine m27 ?_ | fail)) | refine m42 ?_ | refine zab ?_ | refine zac ?_ | refine m08 ?_ | (refine m20 ?_; (first | refine m54 ?_ | refine m55 ?_ | refine zbx ?_ | refine m47 ?_ | refine m48 ?_ | refine m49 ?_ | refine m50 ?_ | refine zfn ?_ | refine zfl ?_ | refine zfm ?_ | refine v_k ?_ | refine m51 ?_ | fail)) | refine zaj ?_ | refine m01 ?_ | fail))
 |refine zat ?_ | refine zau ?_ | refine zas ?_
 |(refine zax ?_; (first | refine zar ?_ | refine zad ?_ | (refine m06 ?_; (first | refine c_T ?_ | refine c_F ?_ | refine c_P ?_ ?_ | refine c_B ?_ ?_ | fail)) | refine zaq ?_ | refine zah ?_ | refine zae ?_ | refine b_exit ?_ | fail))
 |refine m21 ?_
 |refine za4 ?_
 |(refine za5 ?_; (first | refine cA (z1k H b l hbl xo xi n hxI hxR D hD ml mo ld hI hG a hrd f []) ?_ | fail))
 |refine zbh ?_ | refine zbi ?_ | refine zbg ?_ | refine m57 ?_
 |refine m05 ?_
 |refine m04 ?_ | refine m02 ?_ | refine m03 ?_ | refine zai ?_
 |intro _)
  all_goals first
    | (exfalso; contradiction)
    | (exfalso; omega)
    | (refine zal (by simp) (by simp [mx, mxL, zaf, aOf, zbn]) ?_; exact rfl)
theorem zha (H : List (List AV)) (b : Nat) (l : List Nat) (hbl : b < H.length) (xo xi : Int) (n : Nat) (hxI : VI l.length xo n xi) (hxR : za8 l.length xo n xi) (D : AV) (hD : mx D ≤ H.length) (ml : Nat) (mo ld : Int) (hI : MI ml mo n n ld) (hG : zaz ml mo n n ld) (a : Nat → Nat → Nat) (hrd : ∀ f, ∃ l', FL (H.set b (fl (za7 l xo xi n f))) D l' ∧ l'.length = ml ∧ ∀ i j, i < n → j < n → mel l' mo ld i j = a i j) (f : Nat → Nat) (N : List (List AV)) (kd : Int) (hk1 : 1 ≤ kd) (hk4 : kd ≤ 4) : zaa Tryz.prog 156 [.int .i64 kd, mt D mo (n : Int) (n : Int) ld, .int .i64 (n : Int)] (H.set b (fl (za7 l xo xi n f)) ++ N) (.int .i64 0) (H.set b (fl (za7 l xo xi n f)) ++ N) := by
  have hs : ∀ X, (H ++ N).set b X = H.set b X ++ N := fun X => zdl hbl
  have h := zt5 (H ++ N) b l (by simp; omega) xo xi n hxI hxR D (by simp; omega) ml mo ld hI hG a (fun f => by obtain ⟨l', h1, h2⟩ := hrd f; rw [hs]; exact ⟨l', h1.app N, h2⟩) f kd hk1 hk4
  rwa [hs] at h
theorem z6z (H : List (List AV)) (b : Nat) (l : List Nat) (hbl : b < H.length) (xo xi : Int) (n : Nat) (hxI : VI l.length xo n xi) (hxR : za8 l.length xo n xi) (D : AV) (hD : mx D ≤ H.length) (ml : Nat) (mo ld : Int) (hI : MI ml mo n n ld) (hG : zaz ml mo n n ld) (a : Nat → Nat → Nat) (hrd : ∀ f, ∃ l', FL (H.set b (fl (za7 l xo xi n f))) D l' ∧ l'.length = ml ∧ ∀ i j, i < n → j < n → mel l' mo ld i j = a i j) (hmeet : ∀ f N, zaa Tryz.prog 142 [mt (.slm b l.length 0 l.length 1) xo 1 (n : Int) xi, mt D mo (n : Int) (n : Int) ld] (H.set b (fl (za7 l xo xi n f)) ++ N) (.bool false) (H.set b (fl (za7 l xo xi n f)) ++ N)) (f : Nat → Nat) :
    zaa Tryz.prog 105 [.int .i64 1, mt D mo (n : Int) (n : Int) ld, vt (.slm b l.length 0 l.length 1) xo (n : Int) xi] (H.set b (fl (za7 l xo xi n f))) (.int .i64 0) (H.set b (fl (za7 l xo xi n (lo1 a f n)))) := by
  obtain ⟨hm, ho1, ho2, hr1, hr2, hc1, hc2, hl1, hl2⟩ := id hI
  obtain ⟨vn, vo1, vo2, vn1, vn2, vi1, vi2⟩ := id hxI
  have hA : ∀ k, (za7 l xo xi n (zj4 a f k (k + 1 + 0))) = (za7 l xo xi n (lo1 a f k)) := fun k => zcm hxR.2.2.1 hxR.2.1 fun i hi => zp6 i
  have hB : ∀ k, k < n → (za7 l xo xi n (zj4 a f k (k + 1 + (n - (k + 1))))) = (za7 l xo xi n (lo1 a f (k + 1))) := fun k hk => (by rw [show k + 1 + (n - (k + 1)) = n by omega]; exact zcm hxR.2.2.1 hxR.2.1 fun i hi => zss i hi)
  refine .go Tryz.call105 Tryz.func105 false [] dOk ?_
  simp only [za0, Nat.reduceAdd]
  repeat' (first
 |(refine zav ?_; (first | refine zbd ?_ | refine zao ?_ | fail))
 |(refine zaw ?_; (first | refine m41 ?_ | refine zb0 ?_ | refine m14 ?_ | (refine m17 ?_; first | refine m19 ?_ | refine m18 ?_) | (refine m07 ?_; (first | refine m15 ?_ | refine m16 ?_ | fail)) | refine zc3 (by (conv => {lhs; whnf}); done) ?_ | (refine m45 ?_; (first | refine zbo ((k + 1 : Nat) : Int) (by omega) (by omega) ?_ | refine zbo ((k + 1 + t + 1 : Nat) : Int) (by omega) (by omega) ?_ | refine zb3 (by exact rfl) ?_ | refine v_k ?_ | fail)) | (refine m00 ?_; (first | refine zbo ((k + 1 : Nat) : Int) (by omega) (by omega) ?_ | refine zbo ((k + 1 + t + 1 : Nat) : Int) (by omega) (by omega) ?_ | refine m52 ?_ | refine m53 ?_ | refine zc7 ?_ | refine m54 ?_ | refine m55 ?_ | refine zbx ?_ | refine m47 ?_ | refine m48 ?_ | refine m49 ?_ | refine m50 ?_ | refine zh7 (by omega) (by omega) ?_ | refine zfn ?_ | refine zfl ?_ | refine zfm ?_ | refine v_k ?_ | refine m51 ?_ | fail)) | refine m42 ?_ | refine zab ?_ | refine zac ?_ | refine m08 ?_ | (refine m20 ?_; (first | refine zbo ((k + 1 : Nat) : Int) (by omega) (by omega) ?_ | refine zbo ((k + 1 + t + 1 : Nat) : Int) (by omega) (by omega) ?_ | refine m52 ?_ | refine m53 ?_ | refine zc7 ?_ | refine m54 ?_ | refine m55 ?_ | refine zbx ?_ | refine m47 ?_ | refine m48 ?_ | refine m49 ?_ | refine m50 ?_ | refine zh7 (by omega) (by omega) ?_ | refine zfn ?_ | refine zfl ?_ | refine zfm ?_ | refine v_k ?_ | refine m51 ?_ | fail)) | refine zaj ?_ | refine m25 ?_ | refine m01 ?_ | refine m24 ?_ | refine zc9 ?_ | fail))
 |(refine zch ?_; (first | refine m36 ?_ | refine zcf ?_ | fail))
 |(refine zcg ?_; (first | refine zev ?_ | refine zfv ?_ | refine zfw (by (conv => {lhs; whnf}); done) ?_ | refine zfx ?_ | refine zfu (by exact rfl) (by exact rfl) ?_ | refine m34 ?_ | refine m35 ?_ | refine m33 ?_ | refine zew ?_ | refine m56 ?_ | refine zci ?_ | refine zc1 (by exact rfl) ?_ | fail))
 |refine zat ?_ | refine zau ?_ | refine zas ?_
 |(refine zax ?_; (first | refine zar ?_ | refine zad ?_ | (refine m06 ?_; (first | refine c_T ?_ | refine c_F ?_ | refine c_P ?_ ?_ | refine c_B ?_ ?_ | fail)) | refine zaq ?_ | refine zah ?_ | refine zae ?_ | refine b_exit ?_ | refine zan (id := 6) [] [] [(0, .ld true), (2, .ld true), (1, .mn true), (3, .mn true), (4, .lt)] (by kernel_rfl) ?_ | refine zan (id := 10) [8] [] [(0, .ld true), (1, .ld true), (2, .lt), (3, .lt), (4, .ld true), (5, .bx), (6, .mn true), (7, .lt)] (by kernel_rfl) ?_ | refine zan (id := 19) [] [7] [(0, .ld true), (1, .lt), (2, .lt), (3, .ld true), (4, .lt), (5, .lt), (6, .mn true), (7, .mn false)] (by kernel_rfl) ?_ | refine zan (id := 25) [] [11] [(0, .ld true), (1, .lt), (5, .ld true), (6, .lt), (7, .lt), (2, .mn true), (3, .lt), (4, .ld true), (8, .mn true), (9, .lt), (10, .lt), (11, .mn false)] (by kernel_rfl) ?_ | refine zan (id := 29) [] [7] [(0, .ld true), (1, .lt), (2, .lt), (3, .ld true), (4, .lt), (5, .lt), (6, .mn true), (7, .mn false)] (by kernel_rfl) ?_ | refine zan (id := 38) [] [7] [(0, .ld true), (1, .lt), (2, .lt), (3, .ld true), (4, .lt), (5, .lt), (6, .mn true), (7, .mn false)] (by kernel_rfl) ?_ | refine zan (id := 46) [] [7] [(0, .ld true), (1, .lt), (2, .lt), (3, .ld true), (4, .lt), (5, .lt), (6, .mn true), (7, .mn false)] (by kernel_rfl) ?_ | refine zan (id := 48) [] [11] [(0, .ld true), (1, .lt), (5, .ld true), (6, .lt), (7, .lt), (2, .mn true), (3, .lt), (4, .ld true), (8, .mn true), (9, .lt), (10, .lt), (11, .mn false)] (by kernel_rfl) ?_ | (refine za1 [8, 9, 10, 11, 46, 47] (n - (k + 1)) (fun t => ⟨[(8, .loc 8 0), (9, .val (.int .i64 ((n : Nat) : Int))), (10, .val (.int .i64 ((k : Nat) : Int))), (11, .val (.int .i64 ((k + 1 + t : Nat) : Int))), (46, .val (.int .i64 ((n : Nat) : Int))), (47, .val (.int .i64 ((k : Nat) : Int)))], [(8, [D, .int .i64 mo, .int .i64 (n : Int), .int .i64 (n : Int), .int .i64 ld, (.slm b l.length 0 l.length 1), .int .i64 xo, .int .i64 (n : Int), .int .i64 xi])], H.set b (fl (za7 l xo xi n (zj4 a f k (k + 1 + t)))) ++ []⟩) (by simp only [hA]; exact rfl) ?_ ?_ <;> (first | intro t ht K hK | intro K) <;> (try dsimp only at *)) | (refine za1 [8, 9, 46, 47] n (fun k => ⟨[(8, .loc 8 0), (9, .val (.int .i64 ((n : Nat) : Int))), (46, .val (.int .i64 ((n : Nat) : Int))), (47, .val (.int .i64 ((k : Nat) : Int)))], [(8, [D, .int .i64 mo, .int .i64 (n : Int), .int .i64 (n : Int), .int .i64 ld, (.slm b l.length 0 l.length 1), .int .i64 xo, .int .i64 (n : Int), .int .i64 xi])], H.set b (fl (za7 l xo xi n (lo1 a f k))) ++ []⟩) (by exact rfl) ?_ ?_ <;> (first | intro k hk K hK | intro K) <;> (try dsimp only at *)) | fail))
 |refine m21 ?_
 |refine za4 ?_
 |(refine za5 ?_; (first | refine cA (zin H b l hbl xo xi n hxI hxR D hD ml mo ld hI hG a hrd f []) ?_ | refine cA (zha H b l hbl xo xi n hxI hxR D hD ml mo ld hI hG a hrd f [] 1 (by omega) (by omega)) ?_ | refine cA (zpa H b l hbl xo xi n hxI hxR D hD ml mo ld hI hG a hrd f []) ?_ | refine cA (hmeet f []) ?_ | refine cA (zle H b l hbl xo xi n hxI hxR D hD ml mo ld hI hG a hrd f [] 1 (fun h => absurd h (by omega))) ?_ | refine cA (zqk H b l hbl xo xi n hxI hxR D hD ml mo ld hI hG a hrd _ [] (k + 1 + t) (k) (by omega) (by omega) _ _ (by omega) (by omega)) ?_ | refine c_call (zla H b l hbl xo xi n hxI hxR D hD ml mo ld hI hG a hrd (zj4 a f k (k + 1 + t)) (zj4 a f k (k + 1 + t + 1)) [] (k + 1 + t) (k) (by omega) (by omega) _ _ (by omega) (by omega) _ (fun t' ht' => zst (by omega) t')) (zbk.set2 hbl (by simp) (by rw [zak]; omega)) ?_ | fail))
 |refine m58 ?_
 |refine zd8 ?_
 |refine zbh ?_ | refine zbi ?_ | refine zbg ?_ | refine m57 ?_
 |refine zdp ?_ | refine zdq ?_ | refine zdo ?_
 |(refine zdr (by exact rfl) ?_; first | exact hK | (rw [hB k (by omega)]; exact hK) | (exfalso; first | omega | (simp_all; done) | (simp_all; omega)))
 |refine m05 ?_
 |refine m04 ?_ | refine m02 ?_ | refine m03 ?_ | refine zai ?_
 |intro _)
  all_goals first
    | (exfalso; contradiction)
    | (exfalso; omega)
    | (refine zal (by simp) (by simp [mx, mxL, zaf, aOf, zbn]) ?_; exact rfl)
theorem z7a (H : List (List AV)) (b : Nat) (l : List Nat) (hbl : b < H.length) (xo xi : Int) (n : Nat) (hxI : VI l.length xo n xi) (hxR : za8 l.length xo n xi) (D : AV) (hD : mx D ≤ H.length) (ml : Nat) (mo ld : Int) (hI : MI ml mo n n ld) (hG : zaz ml mo n n ld) (a : Nat → Nat → Nat) (hrd : ∀ f, ∃ l', FL (H.set b (fl (za7 l xo xi n f))) D l' ∧ l'.length = ml ∧ ∀ i j, i < n → j < n → mel l' mo ld i j = a i j) (hmeet : ∀ f N, zaa Tryz.prog 142 [mt (.slm b l.length 0 l.length 1) xo 1 (n : Int) xi, mt D mo (n : Int) (n : Int) ld] (H.set b (fl (za7 l xo xi n f)) ++ N) (.bool false) (H.set b (fl (za7 l xo xi n f)) ++ N)) (f : Nat → Nat) (hz : ∀ k, k < n → feq (a k k) 0 = false) :
    zaa Tryz.prog 105 [.int .i64 2, mt D mo (n : Int) (n : Int) ld, vt (.slm b l.length 0 l.length 1) xo (n : Int) xi] (H.set b (fl (za7 l xo xi n f))) (.int .i64 0) (H.set b (fl (za7 l xo xi n (up2 a f n n)))) := by
  obtain ⟨hm, ho1, ho2, hr1, hr2, hc1, hc2, hl1, hl2⟩ := id hI
  obtain ⟨vn, vo1, vo2, vn1, vn2, vi1, vi2⟩ := id hxI
  have hA : ∀ k, k < n → (za7 l xo xi n (up2 a f n k)).set (0 + pos xo xi 0 (n - 1 - k)) (fdiv (up2 a f n k (n - 1 - k)) (a (n - 1 - k) (n - 1 - k))) = (za7 l xo xi n (zjv a f n k 0)) := fun k hk => (by rw [Nat.zero_add, zep hxR (by omega)]; exact zcm hxR.2.2.1 hxR.2.1 fun i hi => zqp i)
  have hB : ∀ k, (za7 l xo xi n (zjv a f n k (n - 1 - k))) = (za7 l xo xi n (up2 a f n (k + 1))) := fun k => zcm hxR.2.2.1 hxR.2.1 fun i hi => zuf i
  refine .go Tryz.call105 Tryz.func105 false [] dOk ?_
  simp only [za0, Nat.reduceAdd]
  repeat' (first
 |(refine zav ?_; (first | refine zbd ?_ | refine zao ?_ | fail))
 |(refine zaw ?_; (first | refine m41 ?_ | refine zb0 ?_ | refine m14 ?_ | (refine m17 ?_; first | refine m19 ?_ | refine m18 ?_) | (refine m07 ?_; (first | refine m15 ?_ | refine m16 ?_ | refine zx0 hbl hxR (show n - 1 - k < n by omega) ?_ | fail)) | refine zc3 (by (conv => {lhs; whnf}); done) ?_ | refine zln (X' := (za7 l xo xi n (zjv a f n k 0))) (by (conv => {lhs; whnf}); done) (by (conv => {lhs; whnf}); done) hbl (by simp) (by simp; exact zdb hxR (by omega)) (by exact hA k (by omega)) ?_ | (refine m45 ?_; (first | refine zbo ((t + 1 : Nat) : Int) (by omega) (by omega) ?_ | refine zbo ((n : Int) - 1 - ((k + 1 : Nat) : Int)) (by omega) (by omega) ?_ | refine zbo ((n : Int) - 1 - ((0 : Nat) : Int)) (by omega) (by omega) ?_ | refine zb3 (by exact rfl) ?_ | refine v_k ?_ | fail)) | (refine m00 ?_; (first | refine zbo ((t + 1 : Nat) : Int) (by omega) (by omega) ?_ | refine zbo ((n : Int) - 1 - ((k + 1 : Nat) : Int)) (by omega) (by omega) ?_ | refine zbo ((n : Int) - 1 - ((0 : Nat) : Int)) (by omega) (by omega) ?_ | refine m52 ?_ | refine m53 ?_ | refine zc7 ?_ | refine m54 ?_ | refine m55 ?_ | refine zbx ?_ | refine m47 ?_ | refine m48 ?_ | refine m49 ?_ | refine m50 ?_ | refine zh7 (by omega) (by omega) ?_ | refine zfn ?_ | refine zfl ?_ | refine zfm ?_ | refine v_k ?_ | refine m51 ?_ | fail)) | refine m42 ?_ | refine zab ?_ | refine zac ?_ | refine m08 ?_ | (refine m20 ?_; (first | refine zbo ((t + 1 : Nat) : Int) (by omega) (by omega) ?_ | refine zbo ((n : Int) - 1 - ((k + 1 : Nat) : Int)) (by omega) (by omega) ?_ | refine zbo ((n : Int) - 1 - ((0 : Nat) : Int)) (by omega) (by omega) ?_ | refine m52 ?_ | refine m53 ?_ | refine zc7 ?_ | refine m54 ?_ | refine m55 ?_ | refine zbx ?_ | refine m47 ?_ | refine m48 ?_ | refine m49 ?_ | refine m50 ?_ | refine zh7 (by omega) (by omega) ?_ | refine zfn ?_ | refine zfl ?_ | refine zfm ?_ | refine v_k ?_ | refine m51 ?_ | fail)) | refine zaj ?_ | refine m25 ?_ | refine m01 ?_ | refine m24 ?_ | refine zc9 ?_ | fail))
 |(refine zch ?_; (first | refine m36 ?_ | refine zcf ?_ | fail))
 |(refine zcg ?_; (first | refine zev ?_ | refine zfv ?_ | refine zfw (by (conv => {lhs; whnf}); done) ?_ | refine zfx ?_ | refine zfu (by exact rfl) (by exact rfl) ?_ | refine m34 ?_ | refine m35 ?_ | refine m33 ?_ | refine zew ?_ | refine m56 ?_ | refine zci ?_ | refine zc1 (by exact rfl) ?_ | fail))
 |refine zat ?_ | refine zau ?_ | refine zas ?_
 |(refine zax ?_; (first | refine zar ?_ | refine zad ?_ | (refine m06 ?_; (first | refine c_T ?_ | refine c_F ?_ | refine c_P ?_ ?_ | refine c_B ?_ ?_ | fail)) | refine zaq ?_ | refine zah ?_ | refine zae ?_ | refine b_exit ?_ | refine zan (id := 6) [] [] [(0, .ld true), (2, .ld true), (1, .mn true), (3, .mn true), (4, .lt)] (by kernel_rfl) ?_ | refine zan (id := 10) [8] [] [(0, .ld true), (1, .ld true), (2, .lt), (3, .lt), (4, .ld true), (5, .bx), (6, .mn true), (7, .lt)] (by kernel_rfl) ?_ | refine zan (id := 19) [] [7] [(0, .ld true), (1, .lt), (2, .lt), (3, .ld true), (4, .lt), (5, .lt), (6, .mn true), (7, .mn false)] (by kernel_rfl) ?_ | refine zan (id := 25) [] [11] [(0, .ld true), (1, .lt), (5, .ld true), (6, .lt), (7, .lt), (2, .mn true), (3, .lt), (4, .ld true), (8, .mn true), (9, .lt), (10, .lt), (11, .mn false)] (by kernel_rfl) ?_ | refine zan (id := 29) [] [7] [(0, .ld true), (1, .lt), (2, .lt), (3, .ld true), (4, .lt), (5, .lt), (6, .mn true), (7, .mn false)] (by kernel_rfl) ?_ | refine zan (id := 38) [] [7] [(0, .ld true), (1, .lt), (2, .lt), (3, .ld true), (4, .lt), (5, .lt), (6, .mn true), (7, .mn false)] (by kernel_rfl) ?_ | refine zan (id := 46) [] [7] [(0, .ld true), (1, .lt), (2, .lt), (3, .ld true), (4, .lt), (5, .lt), (6, .mn true), (7, .mn false)] (by kernel_rfl) ?_ | refine zan (id := 48) [] [11] [(0, .ld true), (1, .lt), (5, .ld true), (6, .lt), (7, .lt), (2, .mn true), (3, .lt), (4, .ld true), (8, .mn true), (9, .lt), (10, .lt), (11, .mn false)] (by kernel_rfl) ?_ | (refine za1 [8, 12, 85, 86] (n - 1 - k) (fun t => ⟨[(8, .loc 8 0), (12, .val (.int .i64 ((n : Int) - 1 - (k : Int)))), (85, .val (.int .i64 ((n : Int) - 1 - (k : Int)))), (86, .val (.int .i64 ((t : Nat) : Int)))], [(8, [D, .int .i64 mo, .int .i64 (n : Int), .int .i64 (n : Int), .int .i64 ld, (.slm b l.length 0 l.length 1), .int .i64 xo, .int .i64 (n : Int), .int .i64 xi])], H.set b (fl (za7 l xo xi n (zjv a f n k t))) ++ []⟩) (by exact rfl) ?_ ?_ <;> (first | intro t ht K hK | intro K) <;> (try dsimp only at *)) | (refine za1 [8, 12] n (fun k => ⟨[(8, .loc 8 0), (12, .val (.int .i64 ((n : Int) - 1 - (k : Int))))], [(8, [D, .int .i64 mo, .int .i64 (n : Int), .int .i64 (n : Int), .int .i64 ld, (.slm b l.length 0 l.length 1), .int .i64 xo, .int .i64 (n : Int), .int .i64 xi])], H.set b (fl (za7 l xo xi n (up2 a f n k))) ++ []⟩) (by exact rfl) ?_ ?_ <;> (first | intro k hk K hK | intro K) <;> (try dsimp only at *)) | fail))
 |refine m21 ?_
 |refine za4 ?_
 |(refine za5 ?_; (first | refine cA (zin H b l hbl xo xi n hxI hxR D hD ml mo ld hI hG a hrd f []) ?_ | refine cA (zha H b l hbl xo xi n hxI hxR D hD ml mo ld hI hG a hrd f [] 2 (by omega) (by omega)) ?_ | refine cA (zpa H b l hbl xo xi n hxI hxR D hD ml mo ld hI hG a hrd f []) ?_ | refine cA (hmeet f []) ?_ | refine cA (zle H b l hbl xo xi n hxI hxR D hD ml mo ld hI hG a hrd f [] 2 (fun _ => hz)) ?_ | refine cA (zyk H b l hbl xo xi n hxI hxR D hD ml mo ld hI hG a hrd _ [] ((n - 1 - k)) (by omega) _ (by omega)) ?_ | refine cA (zqk H b l hbl xo xi n hxI hxR D hD ml mo ld hI hG a hrd _ [] ((n - 1 - k)) ((n - 1 - k)) (by omega) (by omega) _ _ (by omega) (by omega)) ?_ | refine cA (zqk H b l hbl xo xi n hxI hxR D hD ml mo ld hI hG a hrd _ [] (t) ((n - 1 - k)) (by omega) (by omega) _ _ (by omega) (by omega)) ?_ | refine c_call (zla H b l hbl xo xi n hxI hxR D hD ml mo ld hI hG a hrd (zjv a f n k t) (zjv a f n k (t + 1)) [] (t) ((n - 1 - k)) (by omega) (by omega) _ _ (by omega) (by omega) _ (fun t' ht' => zug (by omega) t')) (zbk.set2 hbl (by simp) (by rw [zak]; omega)) ?_ | fail))
 |refine m58 ?_
 |refine zd8 ?_
 |refine zbh ?_ | refine zbi ?_ | refine zbg ?_ | refine m57 ?_
 |refine zdp ?_ | refine zdq ?_ | refine zdo ?_
 |(refine zdr (by exact rfl) ?_; first | exact hK | (rw [hB]; exact hK) | (exfalso; first | omega | (simp_all; done) | (simp_all; omega)))
 |refine m05 ?_
 |refine m04 ?_ | refine m02 ?_ | refine m03 ?_ | refine zai ?_
 |intro _)
  all_goals first
    | (exfalso; contradiction)
    | (exfalso; omega)
    | (refine zal (by simp) (by simp [mx, mxL, zaf, aOf, zbn]) ?_; exact rfl)
theorem z7b (H : List (List AV)) (b : Nat) (l : List Nat) (hbl : b < H.length) (xo xi : Int) (n : Nat) (hxI : VI l.length xo n xi) (hxR : za8 l.length xo n xi) (D : AV) (hD : mx D ≤ H.length) (ml : Nat) (mo ld : Int) (hI : MI ml mo n n ld) (hG : zaz ml mo n n ld) (a : Nat → Nat → Nat) (hrd : ∀ f, ∃ l', FL (H.set b (fl (za7 l xo xi n f))) D l' ∧ l'.length = ml ∧ ∀ i j, i < n → j < n → mel l' mo ld i j = a i j) (hmeet : ∀ f N, zaa Tryz.prog 142 [mt (.slm b l.length 0 l.length 1) xo 1 (n : Int) xi, mt D mo (n : Int) (n : Int) ld] (H.set b (fl (za7 l xo xi n f)) ++ N) (.bool false) (H.set b (fl (za7 l xo xi n f)) ++ N)) (f : Nat → Nat) :
    zaa Tryz.prog 105 [.int .i64 3, mt D mo (n : Int) (n : Int) ld, vt (.slm b l.length 0 l.length 1) xo (n : Int) xi] (H.set b (fl (za7 l xo xi n f))) (.int .i64 0) (H.set b (fl (za7 l xo xi n (lt3 a f n n)))) := by
  obtain ⟨hm, ho1, ho2, hr1, hr2, hc1, hc2, hl1, hl2⟩ := id hI
  obtain ⟨vn, vo1, vo2, vn1, vn2, vi1, vi2⟩ := id hxI
  have hA : ∀ k, (za7 l xo xi n (zcj (lt3 a f n k) (n - 1 - k) (in3 a (lt3 a f n k) (n - 1 - k) 0))) = (za7 l xo xi n (lt3 a f n k)) := fun k => zcm hxR.2.2.1 hxR.2.1 fun i hi => zl5 i
  have hB : ∀ k, (za7 l xo xi n (zcj (lt3 a f n k) (n - 1 - k) (in3 a (lt3 a f n k) (n - 1 - k) k))) = (za7 l xo xi n (lt3 a f n (k + 1))) := fun k => rfl
  refine .go Tryz.call105 Tryz.func105 false [] dOk ?_
  simp only [za0, Nat.reduceAdd]
  repeat' (first
 |(refine zav ?_; (first | refine zbd ?_ | refine zao ?_ | fail))
 |(refine zaw ?_; (first | refine m41 ?_ | refine zb0 ?_ | refine m14 ?_ | (refine m17 ?_; first | refine m19 ?_ | refine m18 ?_) | (refine m07 ?_; (first | refine m15 ?_ | refine m16 ?_ | fail)) | refine zc3 (by (conv => {lhs; whnf}); done) ?_ | (refine m45 ?_; (first | refine zbo ((n - 1 - k + 1 + t + 1 : Nat) : Int) (by omega) (by omega) ?_ | refine zbo ((n - 1 - k + 1 : Nat) : Int) (by omega) (by omega) ?_ | refine zbo ((n : Int) - 1 - ((k + 1 : Nat) : Int)) (by omega) (by omega) ?_ | refine zbo ((n : Int) - 1 - ((0 : Nat) : Int)) (by omega) (by omega) ?_ | refine zb3 (by exact rfl) ?_ | refine v_k ?_ | fail)) | (refine m00 ?_; (first | refine zbo ((n - 1 - k + 1 + t + 1 : Nat) : Int) (by omega) (by omega) ?_ | refine zbo ((n - 1 - k + 1 : Nat) : Int) (by omega) (by omega) ?_ | refine zbo ((n : Int) - 1 - ((k + 1 : Nat) : Int)) (by omega) (by omega) ?_ | refine zbo ((n : Int) - 1 - ((0 : Nat) : Int)) (by omega) (by omega) ?_ | refine m52 ?_ | refine m53 ?_ | refine zc7 ?_ | refine m54 ?_ | refine m55 ?_ | refine zbx ?_ | refine m47 ?_ | refine m48 ?_ | refine m49 ?_ | refine m50 ?_ | refine zh7 (by omega) (by omega) ?_ | refine zfn ?_ | refine zfl ?_ | refine zfm ?_ | refine v_k ?_ | refine m51 ?_ | fail)) | refine m42 ?_ | refine zab ?_ | refine zac ?_ | refine m08 ?_ | (refine m20 ?_; (first | refine zbo ((n - 1 - k + 1 + t + 1 : Nat) : Int) (by omega) (by omega) ?_ | refine zbo ((n - 1 - k + 1 : Nat) : Int) (by omega) (by omega) ?_ | refine zbo ((n : Int) - 1 - ((k + 1 : Nat) : Int)) (by omega) (by omega) ?_ | refine zbo ((n : Int) - 1 - ((0 : Nat) : Int)) (by omega) (by omega) ?_ | refine m52 ?_ | refine m53 ?_ | refine zc7 ?_ | refine m54 ?_ | refine m55 ?_ | refine zbx ?_ | refine m47 ?_ | refine m48 ?_ | refine m49 ?_ | refine m50 ?_ | refine zh7 (by omega) (by omega) ?_ | refine zfn ?_ | refine zfl ?_ | refine zfm ?_ | refine v_k ?_ | refine m51 ?_ | fail)) | refine zaj ?_ | refine m25 ?_ | refine m01 ?_ | refine m24 ?_ | refine zc9 ?_ | fail))
 |(refine zch ?_; (first | refine m36 ?_ | refine zcf ?_ | fail))
 |(refine zcg ?_; (first | refine zev ?_ | refine zfv ?_ | refine zfw (by (conv => {lhs; whnf}); done) ?_ | refine zfx ?_ | refine zfu (by exact rfl) (by exact rfl) ?_ | refine m34 ?_ | refine m35 ?_ | refine m33 ?_ | refine zew ?_ | refine m56 ?_ | refine zci ?_ | refine zc1 (by exact rfl) ?_ | fail))
 |refine zat ?_ | refine zau ?_ | refine zas ?_
 |(refine zax ?_; (first | refine zar ?_ | refine zad ?_ | (refine m06 ?_; (first | refine c_T ?_ | refine c_F ?_ | refine c_P ?_ ?_ | refine c_B ?_ ?_ | fail)) | refine zaq ?_ | refine zah ?_ | refine zae ?_ | refine b_exit ?_ | refine zan (id := 6) [] [] [(0, .ld true), (2, .ld true), (1, .mn true), (3, .mn true), (4, .lt)] (by kernel_rfl) ?_ | refine zan (id := 10) [8] [] [(0, .ld true), (1, .ld true), (2, .lt), (3, .lt), (4, .ld true), (5, .bx), (6, .mn true), (7, .lt)] (by kernel_rfl) ?_ | refine zan (id := 19) [] [7] [(0, .ld true), (1, .lt), (2, .lt), (3, .ld true), (4, .lt), (5, .lt), (6, .mn true), (7, .mn false)] (by kernel_rfl) ?_ | refine zan (id := 25) [] [11] [(0, .ld true), (1, .lt), (5, .ld true), (6, .lt), (7, .lt), (2, .mn true), (3, .lt), (4, .ld true), (8, .mn true), (9, .lt), (10, .lt), (11, .mn false)] (by kernel_rfl) ?_ | refine zan (id := 29) [] [7] [(0, .ld true), (1, .lt), (2, .lt), (3, .ld true), (4, .lt), (5, .lt), (6, .mn true), (7, .mn false)] (by kernel_rfl) ?_ | refine zan (id := 38) [] [7] [(0, .ld true), (1, .lt), (2, .lt), (3, .ld true), (4, .lt), (5, .lt), (6, .mn true), (7, .mn false)] (by kernel_rfl) ?_ | refine zan (id := 46) [] [7] [(0, .ld true), (1, .lt), (2, .lt), (3, .ld true), (4, .lt), (5, .lt), (6, .mn true), (7, .mn false)] (by kernel_rfl) ?_ | refine zan (id := 48) [] [11] [(0, .ld true), (1, .lt), (5, .ld true), (6, .lt), (7, .lt), (2, .mn true), (3, .lt), (4, .ld true), (8, .mn true), (9, .lt), (10, .lt), (11, .mn false)] (by kernel_rfl) ?_ | (refine za1 [8, 9, 14, 15] k (fun t => ⟨[(8, .loc 8 0), (9, .val (.int .i64 ((n : Nat) : Int))), (14, .val (.int .i64 ((n : Int) - 1 - (k : Int)))), (15, .val (.int .i64 ((n - 1 - k + 1 + t : Nat) : Int)))], [(8, [D, .int .i64 mo, .int .i64 (n : Int), .int .i64 (n : Int), .int .i64 ld, (.slm b l.length 0 l.length 1), .int .i64 xo, .int .i64 (n : Int), .int .i64 xi])], H.set b (fl (za7 l xo xi n (zcj (lt3 a f n k) (n - 1 - k) (in3 a (lt3 a f n k) (n - 1 - k) t)))) ++ []⟩) (by simp only [hA]; exact rfl) ?_ ?_ <;> (first | intro t ht K hK | intro K) <;> (try dsimp only at *)) | (refine za1 [8, 9, 14] n (fun k => ⟨[(8, .loc 8 0), (9, .val (.int .i64 ((n : Nat) : Int))), (14, .val (.int .i64 ((n : Int) - 1 - (k : Int))))], [(8, [D, .int .i64 mo, .int .i64 (n : Int), .int .i64 (n : Int), .int .i64 ld, (.slm b l.length 0 l.length 1), .int .i64 xo, .int .i64 (n : Int), .int .i64 xi])], H.set b (fl (za7 l xo xi n (lt3 a f n k))) ++ []⟩) (by exact rfl) ?_ ?_ <;> (first | intro k hk K hK | intro K) <;> (try dsimp only at *)) | fail))
 |refine m21 ?_
 |refine za4 ?_
 |(refine za5 ?_; (first | refine cA (zin H b l hbl xo xi n hxI hxR D hD ml mo ld hI hG a hrd f []) ?_ | refine cA (zha H b l hbl xo xi n hxI hxR D hD ml mo ld hI hG a hrd f [] 3 (by omega) (by omega)) ?_ | refine cA (zpa H b l hbl xo xi n hxI hxR D hD ml mo ld hI hG a hrd f []) ?_ | refine cA (hmeet f []) ?_ | refine cA (zle H b l hbl xo xi n hxI hxR D hD ml mo ld hI hG a hrd f [] 3 (fun h => absurd h (by omega))) ?_ | refine cA (zqk H b l hbl xo xi n hxI hxR D hD ml mo ld hI hG a hrd _ [] ((n - 1 - k) + 1 + t) ((n - 1 - k)) (by omega) (by omega) _ _ (by omega) (by omega)) ?_ | refine c_call (zla H b l hbl xo xi n hxI hxR D hD ml mo ld hI hG a hrd (zcj (lt3 a f n k) (n - 1 - k) (in3 a (lt3 a f n k) (n - 1 - k) t)) (zcj (lt3 a f n k) (n - 1 - k) (in3 a (lt3 a f n k) (n - 1 - k) (t + 1))) [] ((n - 1 - k)) ((n - 1 - k) + 1 + t) (by omega) (by omega) _ _ (by omega) (by omega) _ (fun t' ht' => zog t')) (zbk.set2 hbl (by simp) (by rw [zak]; omega)) ?_ | fail))
 |refine m58 ?_
 |refine zd8 ?_
 |refine zbh ?_ | refine zbi ?_ | refine zbg ?_ | refine m57 ?_
 |refine zdp ?_ | refine zdq ?_ | refine zdo ?_
 |(refine zdr (by exact rfl) ?_; first | exact hK | (rw [hB]; exact hK) | (exfalso; first | omega | (simp_all; done) | (simp_all; omega)))
 |refine m05 ?_
 |refine m04 ?_ | refine m02 ?_ | refine m03 ?_ | refine zai ?_
 |intro _)
  all_goals first
    | (exfalso; contradiction)
    | (exfalso; omega)
    | (refine zal (by simp) (by simp [mx, mxL, zaf, aOf, zbn]) ?_; exact rfl)
theorem z7c (H : List (List AV)) (b : Nat) (l : List Nat) (hbl : b < H.length) (xo xi : Int) (n : Nat) (hxI : VI l.length xo n xi) (hxR : za8 l.length xo n xi) (D : AV) (hD : mx D ≤ H.length) (ml : Nat) (mo ld : Int) (hI : MI ml mo n n ld) (hG : zaz ml mo n n ld) (a : Nat → Nat → Nat) (hrd : ∀ f, ∃ l', FL (H.set b (fl (za7 l xo xi n f))) D l' ∧ l'.length = ml ∧ ∀ i j, i < n → j < n → mel l' mo ld i j = a i j) (hmeet : ∀ f N, zaa Tryz.prog 142 [mt (.slm b l.length 0 l.length 1) xo 1 (n : Int) xi, mt D mo (n : Int) (n : Int) ld] (H.set b (fl (za7 l xo xi n f)) ++ N) (.bool false) (H.set b (fl (za7 l xo xi n f)) ++ N)) (f : Nat → Nat) (hz : ∀ k, k < n → feq (a k k) 0 = false) :
    zaa Tryz.prog 105 [.int .i64 4, mt D mo (n : Int) (n : Int) ld, vt (.slm b l.length 0 l.length 1) xo (n : Int) xi] (H.set b (fl (za7 l xo xi n f))) (.int .i64 0) (H.set b (fl (za7 l xo xi n (ut4 a f n)))) := by
  obtain ⟨hm, ho1, ho2, hr1, hr2, hc1, hc2, hl1, hl2⟩ := id hI
  obtain ⟨vn, vo1, vo2, vn1, vn2, vi1, vi2⟩ := id hxI
  have hA : ∀ k, (za7 l xo xi n (zcj (ut4 a f k) k (in4 a (ut4 a f k) k 0))) = (za7 l xo xi n (ut4 a f k)) := fun k => zcm hxR.2.2.1 hxR.2.1 fun i hi => zl6 i
  have hB : ∀ k, k < n → (za7 l xo xi n (zcj (ut4 a f k) k (in4 a (ut4 a f k) k k))).set (0 + pos xo xi 0 k) (fdiv ((zcj (ut4 a f k) k (in4 a (ut4 a f k) k k)) k) (a k k)) = (za7 l xo xi n (ut4 a f (k + 1))) := fun k hk => (by rw [Nat.zero_add, zep hxR (by omega)]; exact zcm hxR.2.2.1 hxR.2.1 fun i hi => zsh i)
  refine .go Tryz.call105 Tryz.func105 false [] dOk ?_
  simp only [za0, Nat.reduceAdd]
  repeat' (first
 |(refine zav ?_; (first | refine zbd ?_ | refine zao ?_ | fail))
 |(refine zaw ?_; (first | refine m41 ?_ | refine zb0 ?_ | refine m14 ?_ | (refine m17 ?_; first | refine m19 ?_ | refine m18 ?_) | (refine m07 ?_; (first | refine m15 ?_ | refine m16 ?_ | refine zx0 hbl hxR (show k < n by omega) ?_ | fail)) | refine zc3 (by (conv => {lhs; whnf}); done) ?_ | refine zln (X' := (za7 l xo xi n (ut4 a f (k + 1)))) (by (conv => {lhs; whnf}); done) (by (conv => {lhs; whnf}); done) hbl (by simp) (by simp; exact zdb hxR (by omega)) (by exact hB k (by omega)) ?_ | (refine m45 ?_; (first | refine zbo ((t + 1 : Nat) : Int) (by omega) (by omega) ?_ | refine zbo ((k + 1 : Nat) : Int) (by omega) (by omega) ?_ | refine zb3 (by exact rfl) ?_ | refine v_k ?_ | fail)) | (refine m00 ?_; (first | refine zbo ((t + 1 : Nat) : Int) (by omega) (by omega) ?_ | refine zbo ((k + 1 : Nat) : Int) (by omega) (by omega) ?_ | refine m52 ?_ | refine m53 ?_ | refine zc7 ?_ | refine m54 ?_ | refine m55 ?_ | refine zbx ?_ | refine m47 ?_ | refine m48 ?_ | refine m49 ?_ | refine m50 ?_ | refine zh7 (by omega) (by omega) ?_ | refine zfn ?_ | refine zfl ?_ | refine zfm ?_ | refine v_k ?_ | refine m51 ?_ | fail)) | refine m42 ?_ | refine zab ?_ | refine zac ?_ | refine m08 ?_ | (refine m20 ?_; (first | refine zbo ((t + 1 : Nat) : Int) (by omega) (by omega) ?_ | refine zbo ((k + 1 : Nat) : Int) (by omega) (by omega) ?_ | refine m52 ?_ | refine m53 ?_ | refine zc7 ?_ | refine m54 ?_ | refine m55 ?_ | refine zbx ?_ | refine m47 ?_ | refine m48 ?_ | refine m49 ?_ | refine m50 ?_ | refine zh7 (by omega) (by omega) ?_ | refine zfn ?_ | refine zfl ?_ | refine zfm ?_ | refine v_k ?_ | refine m51 ?_ | fail)) | refine zaj ?_ | refine m25 ?_ | refine m01 ?_ | refine m24 ?_ | refine zc9 ?_ | fail))
 |(refine zch ?_; (first | refine m36 ?_ | refine zcf ?_ | fail))
 |(refine zcg ?_; (first | refine zev ?_ | refine zfv ?_ | refine zfw (by (conv => {lhs; whnf}); done) ?_ | refine zfx ?_ | refine zfu (by exact rfl) (by exact rfl) ?_ | refine m34 ?_ | refine m35 ?_ | refine m33 ?_ | refine zew ?_ | refine m56 ?_ | refine zci ?_ | refine zc1 (by exact rfl) ?_ | fail))
 |refine zat ?_ | refine zau ?_ | refine zas ?_
 |(refine zax ?_; (first | refine zar ?_ | refine zad ?_ | (refine m06 ?_; (first | refine c_T ?_ | refine c_F ?_ | refine c_P ?_ ?_ | refine c_B ?_ ?_ | fail)) | refine zaq ?_ | refine zah ?_ | refine zae ?_ | refine b_exit ?_ | refine zan (id := 6) [] [] [(0, .ld true), (2, .ld true), (1, .mn true), (3, .mn true), (4, .lt)] (by kernel_rfl) ?_ | refine zan (id := 10) [8] [] [(0, .ld true), (1, .ld true), (2, .lt), (3, .lt), (4, .ld true), (5, .bx), (6, .mn true), (7, .lt)] (by kernel_rfl) ?_ | refine zan (id := 19) [] [7] [(0, .ld true), (1, .lt), (2, .lt), (3, .ld true), (4, .lt), (5, .lt), (6, .mn true), (7, .mn false)] (by kernel_rfl) ?_ | refine zan (id := 25) [] [11] [(0, .ld true), (1, .lt), (5, .ld true), (6, .lt), (7, .lt), (2, .mn true), (3, .lt), (4, .ld true), (8, .mn true), (9, .lt), (10, .lt), (11, .mn false)] (by kernel_rfl) ?_ | refine zan (id := 29) [] [7] [(0, .ld true), (1, .lt), (2, .lt), (3, .ld true), (4, .lt), (5, .lt), (6, .mn true), (7, .mn false)] (by kernel_rfl) ?_ | refine zan (id := 38) [] [7] [(0, .ld true), (1, .lt), (2, .lt), (3, .ld true), (4, .lt), (5, .lt), (6, .mn true), (7, .mn false)] (by kernel_rfl) ?_ | refine zan (id := 46) [] [7] [(0, .ld true), (1, .lt), (2, .lt), (3, .ld true), (4, .lt), (5, .lt), (6, .mn true), (7, .mn false)] (by kernel_rfl) ?_ | refine zan (id := 48) [] [11] [(0, .ld true), (1, .lt), (5, .ld true), (6, .lt), (7, .lt), (2, .mn true), (3, .lt), (4, .ld true), (8, .mn true), (9, .lt), (10, .lt), (11, .mn false)] (by kernel_rfl) ?_ | (refine za1 [8, 16, 123, 124, 127, 128] k (fun t => ⟨[(8, .loc 8 0), (16, .val (.int .i64 ((k : Nat) : Int))), (123, .val (.int .i64 ((n : Nat) : Int))), (124, .val (.int .i64 ((k : Nat) : Int))), (127, .val (.int .i64 ((k : Nat) : Int))), (128, .val (.int .i64 ((t : Nat) : Int)))], [(8, [D, .int .i64 mo, .int .i64 (n : Int), .int .i64 (n : Int), .int .i64 ld, (.slm b l.length 0 l.length 1), .int .i64 xo, .int .i64 (n : Int), .int .i64 xi])], H.set b (fl (za7 l xo xi n (zcj (ut4 a f k) k (in4 a (ut4 a f k) k t)))) ++ []⟩) (by simp only [hA]; exact rfl) ?_ ?_ <;> (first | intro t ht K hK | intro K) <;> (try dsimp only at *)) | (refine za1 [8, 123, 124] n (fun k => ⟨[(8, .loc 8 0), (123, .val (.int .i64 ((n : Nat) : Int))), (124, .val (.int .i64 ((k : Nat) : Int)))], [(8, [D, .int .i64 mo, .int .i64 (n : Int), .int .i64 (n : Int), .int .i64 ld, (.slm b l.length 0 l.length 1), .int .i64 xo, .int .i64 (n : Int), .int .i64 xi])], H.set b (fl (za7 l xo xi n (ut4 a f k))) ++ []⟩) (by exact rfl) ?_ ?_ <;> (first | intro k hk K hK | intro K) <;> (try dsimp only at *)) | fail))
 |refine m21 ?_
 |refine za4 ?_
 |(refine za5 ?_; (first | refine cA (zin H b l hbl xo xi n hxI hxR D hD ml mo ld hI hG a hrd f []) ?_ | refine cA (zha H b l hbl xo xi n hxI hxR D hD ml mo ld hI hG a hrd f [] 4 (by omega) (by omega)) ?_ | refine cA (zpa H b l hbl xo xi n hxI hxR D hD ml mo ld hI hG a hrd f []) ?_ | refine cA (hmeet f []) ?_ | refine cA (zle H b l hbl xo xi n hxI hxR D hD ml mo ld hI hG a hrd f [] 4 (fun _ => hz)) ?_ | refine cA (zyk H b l hbl xo xi n hxI hxR D hD ml mo ld hI hG a hrd _ [] (k) (by omega) _ (by omega)) ?_ | refine cA (zqk H b l hbl xo xi n hxI hxR D hD ml mo ld hI hG a hrd _ [] (k) (k) (by omega) (by omega) _ _ (by omega) (by omega)) ?_ | refine cA (zqk H b l hbl xo xi n hxI hxR D hD ml mo ld hI hG a hrd _ [] (t) (k) (by omega) (by omega) _ _ (by omega) (by omega)) ?_ | refine c_call (zla H b l hbl xo xi n hxI hxR D hD ml mo ld hI hG a hrd (zcj (ut4 a f k) k (in4 a (ut4 a f k) k t)) (zcj (ut4 a f k) k (in4 a (ut4 a f k) k (t + 1))) [] (k) (t) (by omega) (by omega) _ _ (by omega) (by omega) _ (fun t' ht' => zoh (by omega) t')) (zbk.set2 hbl (by simp) (by rw [zak]; omega)) ?_ | fail))
 |refine m58 ?_
 |refine zd8 ?_
 |refine zbh ?_ | refine zbi ?_ | refine zbg ?_ | refine m57 ?_
 |refine zdp ?_ | refine zdq ?_ | refine zdo ?_
 |(refine zdr (by exact rfl) ?_; first | exact hK | fail | (exfalso; first | omega | (simp_all; done) | (simp_all; omega)))
 |refine m05 ?_
 |refine m04 ?_ | refine m02 ?_ | refine m03 ?_ | refine zai ?_
 |intro _)
  all_goals first
    | (exfalso; contradiction)
    | (exfalso; omega)
    | (refine zal (by simp) (by simp [mx, mxL, zaf, aOf, zbn]) ?_; exact rfl)
theorem z6w (H : List (List AV)) (b : Nat) (l : List Nat) (hbl : b < H.length) (xo xi : Int) (n : Nat) (hxI : VI l.length xo n xi) (hxR : za8 l.length xo n xi) (P : AV) (p : List Int) (hpl : p.length = n) (hn9 : n ≤ 2 ^ 30) (hpv : zdx p) (hIL : ∀ X N, IL (H.set b X ++ N) P p) (f : Nat → Nat) :
    zaa Tryz.prog 104 [vt (.slm b l.length 0 l.length 1) xo (n : Int) xi, P, .bool false] (H.set b (fl (za7 l xo xi n f))) (.tup []) (H.set b (fl (za7 l xo xi n (tkF p f n)))) := by
  obtain ⟨vn, vo1, vo2, vn1, vn2, vi1, vi2⟩ := id hxI
  have hPl : slen P = some n := (by rw [← hpl]; exact (hIL [] []).len)
  have hq : ∀ t, t < n → 0 ≤ p.getD t 0 ∧ p.getD t 0 < n := fun t ht => by have := hpv t (by omega); omega
  have hqn : ∀ t, t < n → (p.getD t 0).toNat < n := fun t ht => by have := hq t ht; omega
  have hqe : ∀ t, t < n → xo + p.getD t 0 * xi = ((pos xo xi 0 (p.getD t 0).toNat : Nat) : Int) := fun t ht => by have h1 := zho hxR (hqn t ht); rw [show ((p.getD t 0).toNat : Int) = p.getD t 0 by have := hq t ht; omega] at h1; exact h1
  have hA : ∀ k, k < n → (za7 l xo xi n (tkF p f k)).set (0 + pos xo xi 0 (k)) (tkF p f k (p.getD (k) 0).toNat) = (za7 l xo xi n (zcj (tkF p f k) (k) (tkF p f k (p.getD (k) 0).toNat))) := fun k hk => (by rw [Nat.zero_add, zep hxR (by omega)])
  have hB : ∀ k, k < n → (za7 l xo xi n (zcj (tkF p f k) (k) (tkF p f k (p.getD (k) 0).toNat))).set (0 + pos xo xi 0 (p.getD (k) 0).toNat) (tkF p f k (k)) = (za7 l xo xi n (tkF p f (k + 1))) := fun k hk => (by rw [Nat.zero_add, zep hxR (hqn _ (by omega))]; exact zcm hxR.2.2.1 hxR.2.1 fun i hi => (zpb i))
  refine .go Tryz.call104 Tryz.func104 false [] dOk ?_
  simp only [za0, Nat.reduceAdd]
  repeat' (first
 |(refine zav ?_; (first | refine zbd ?_ | refine zao ?_ | fail))
 |(refine zaw ?_; (first | refine m41 ?_ | refine zb0 ?_ | refine m14 ?_ | (refine m17 ?_; first | refine m19 ?_ | refine m18 ?_) | (refine m07 ?_; (first | refine m15 ?_ | refine m16 ?_ | refine zxy (hIL _ _) (by omega) ?_ | refine zx0 hbl hxR (show k < n by omega) ?_ | refine zx0 hbl hxR (hqn (k) (by omega)) ?_ | fail)) | refine zc3 (by (conv => {lhs; whnf}); done) ?_ | refine zam (by (conv => {lhs; whnf}); done) (by exact hPl) ?_ | refine zbz (by (conv => {lhs; whnf}); done) (by (conv => {lhs; whnf}); done) (by exact hPl) (by omega) ?_ | refine zec (m := pos xo xi 0 (k)) (by (conv => {lhs; whnf}); done) (by (conv => {lhs; whnf}); done) (by exact rfl) (by exact zho hxR (by omega)) (by exact zdb hxR (by omega)) ?_ | refine zec (m := pos xo xi 0 (p.getD (k) 0).toNat) (by (conv => {lhs; whnf}); done) (by (conv => {lhs; whnf}); done) (by exact rfl) (by exact hqe _ (by omega)) (by exact zdb hxR (hqn _ (by omega))) ?_ | refine zln (X' := (za7 l xo xi n (zcj (tkF p f k) (k) (tkF p f k (p.getD (k) 0).toNat)))) (by (conv => {lhs; whnf}); done) (by (conv => {lhs; whnf}); done) hbl (by simp) (by simp; exact zdb hxR (by omega)) (by exact hA k (by omega)) ?_ | refine zln (X' := (za7 l xo xi n (tkF p f (k + 1)))) (by (conv => {lhs; whnf}); done) (by (conv => {lhs; whnf}); done) hbl (by simp) (by simp; exact zdb hxR (hqn _ (by omega))) (by exact hB k (by omega)) ?_ | (refine m00 ?_; (first | refine zbo ((k + 1 : Nat) : Int) (by omega) (by omega) ?_ | refine zbo (((k : Nat) : Int)) (by omega) (by omega) ?_ | refine v_w (by first | omega | (have h1 := zen hxR (i := (((k) : Nat) : Int)) (by omega) (by omega); have h2 := zen hxR (i := (p.getD (k) 0)) (by have := hq (k) (by omega); omega) (by have := hq (k) (by omega); omega); omega) | fail) ?_ | refine m47 ?_ | refine m48 ?_ | refine m49 ?_ | refine m50 ?_ | refine v_k ?_ | refine m51 ?_ | fail)) | refine m08 ?_ | refine zam (by (conv => {lhs; whnf}); done) (by first | rfl | assumption) ?_ | refine m25 ?_ | refine m01 ?_ | fail))
 |(refine zch ?_; (first | refine m36 ?_ | refine zcf ?_ | fail))
 |(refine zcg ?_; (first | refine zev ?_ | refine zfv ?_ | refine zfw (by (conv => {lhs; whnf}); done) ?_ | refine zfx ?_ | refine zfu (by exact rfl) (by exact rfl) ?_ | refine m34 ?_ | refine m35 ?_ | refine m33 ?_ | refine zew ?_ | refine m56 ?_ | refine zci ?_ | refine zc1 (by exact rfl) ?_ | fail))
 |refine zat ?_ | refine zau ?_ | refine zas ?_
 |(refine zax ?_; (first | refine zar ?_ | refine zad ?_ | (refine m06 ?_; (first | refine c_T ?_ | refine c_F ?_ | refine c_P ?_ ?_ | refine c_B ?_ ?_ | fail)) | refine zaq ?_ | refine zah ?_ | refine zae ?_ | refine b_exit ?_ | refine zan (id := 7) [] [] [(0, .lt), (1, .ld true), (2, .lt), (3, .ld true), (4, .lt), (5, .lt), (6, .ld true), (7, .lt), (8, .lt), (9, .lt), (10, .lt), (11, .ld true), (12, .lt), (13, .ld true), (14, .lt), (15, .lt), (16, .lt), (17, .ld true), (18, .lt), (19, .ld true), (20, .lt), (21, .lt), (22, .lt), (23, .lt), (24, .lt)] (by kernel_rfl) ?_ | refine zan (id := 8) [] [9, 11] [(0, .lt), (1, .lt), (2, .lt), (3, .lt), (4, .ld true), (5, .lt), (6, .lt), (7, .ld true), (8, .lt), (9, .mn false), (10, .lt), (11, .mn false)] (by kernel_rfl) ?_ | (refine za1 [1, 2, 3, 11, 12] n (fun k => ⟨[(1, .val P), (2, .val (.bool false)), (3, .loc 3 0), (11, .val (.int .i64 ((n : Nat) : Int))), (12, .val (.int .i64 ((k : Nat) : Int)))], [(3, [(.slm b l.length 0 l.length 1), .int .i64 xo, .int .i64 (n : Int), .int .i64 xi])], H.set b (fl (za7 l xo xi n (tkF p f k))) ++ []⟩) (by exact rfl) ?_ ?_ <;> (first | intro k hk K hK | intro K) <;> (try dsimp only at *)) | fail))
 |refine zbh ?_ | refine zbi ?_ | refine zbg ?_ | refine m57 ?_
 |refine zdp ?_ | refine zdq ?_ | refine zdo ?_
 |(refine zdr (by exact rfl) ?_; first | exact hK | fail | (exfalso; first | omega | (simp_all; done) | (simp_all; omega)))
 |refine m05 ?_
 |refine m04 ?_ | refine m02 ?_ | refine m03 ?_ | refine zai ?_
 |intro _)
  all_goals first
    | (exfalso; contradiction)
    | (exfalso; omega)
    | (refine zal (by simp) (by simp [mx, mxL, zaf, aOf, zbn]) ?_; exact rfl)
theorem z6v (H : List (List AV)) (b : Nat) (l : List Nat) (hbl : b < H.length) (xo xi : Int) (n : Nat) (hxI : VI l.length xo n xi) (hxR : za8 l.length xo n xi) (P : AV) (p : List Int) (hpl : p.length = n) (hn9 : n ≤ 2 ^ 30) (hpv : zdx p) (hIL : ∀ X N, IL (H.set b X ++ N) P p) (f : Nat → Nat) :
    zaa Tryz.prog 104 [vt (.slm b l.length 0 l.length 1) xo (n : Int) xi, P, .bool true] (H.set b (fl (za7 l xo xi n f))) (.tup []) (H.set b (fl (za7 l xo xi n (tkB p f n)))) := by
  obtain ⟨vn, vo1, vo2, vn1, vn2, vi1, vi2⟩ := id hxI
  have hPl : slen P = some n := (by rw [← hpl]; exact (hIL [] []).len)
  have hq : ∀ t, t < n → 0 ≤ p.getD t 0 ∧ p.getD t 0 < n := fun t ht => by have := hpv t (by omega); omega
  have hqn : ∀ t, t < n → (p.getD t 0).toNat < n := fun t ht => by have := hq t ht; omega
  have hqe : ∀ t, t < n → xo + p.getD t 0 * xi = ((pos xo xi 0 (p.getD t 0).toNat : Nat) : Int) := fun t ht => by have h1 := zho hxR (hqn t ht); rw [show ((p.getD t 0).toNat : Int) = p.getD t 0 by have := hq t ht; omega] at h1; exact h1
  have hA : ∀ k, k < n → (za7 l xo xi n (tkB p f k)).set (0 + pos xo xi 0 (n - 1 - k)) (tkB p f k (p.getD (n - 1 - k) 0).toNat) = (za7 l xo xi n (zcj (tkB p f k) (n - 1 - k) (tkB p f k (p.getD (n - 1 - k) 0).toNat))) := fun k hk => (by rw [Nat.zero_add, zep hxR (by omega)])
  have hB : ∀ k, k < n → (za7 l xo xi n (zcj (tkB p f k) (n - 1 - k) (tkB p f k (p.getD (n - 1 - k) 0).toNat))).set (0 + pos xo xi 0 (p.getD (n - 1 - k) 0).toNat) (tkB p f k (n - 1 - k)) = (za7 l xo xi n (tkB p f (k + 1))) := fun k hk => (by rw [Nat.zero_add, zep hxR (hqn _ (by omega))]; exact zcm hxR.2.2.1 hxR.2.1 fun i hi => (zpb i).trans (by rw [← hpl]; rfl))
  refine .go Tryz.call104 Tryz.func104 false [] dOk ?_
  simp only [za0, Nat.reduceAdd]
  repeat' (first
 |(refine zav ?_; (first | refine zbd ?_ | refine zao ?_ | fail))
 |(refine zaw ?_; (first | refine m41 ?_ | refine zb0 ?_ | refine m14 ?_ | (refine m17 ?_; first | refine m19 ?_ | refine m18 ?_) | (refine m07 ?_; (first | refine m15 ?_ | refine m16 ?_ | refine zxy (hIL _ _) (by omega) ?_ | refine zx0 hbl hxR (show n - 1 - k < n by omega) ?_ | refine zx0 hbl hxR (hqn (n - 1 - k) (by omega)) ?_ | fail)) | refine zc3 (by (conv => {lhs; whnf}); done) ?_ | refine zam (by (conv => {lhs; whnf}); done) (by exact hPl) ?_ | refine zbz (by (conv => {lhs; whnf}); done) (by (conv => {lhs; whnf}); done) (by exact hPl) (by omega) ?_ | refine zec (m := pos xo xi 0 (n - 1 - k)) (by (conv => {lhs; whnf}); done) (by (conv => {lhs; whnf}); done) (by exact rfl) (by exact zho hxR (by omega)) (by exact zdb hxR (by omega)) ?_ | refine zec (m := pos xo xi 0 (p.getD (n - 1 - k) 0).toNat) (by (conv => {lhs; whnf}); done) (by (conv => {lhs; whnf}); done) (by exact rfl) (by exact hqe _ (by omega)) (by exact zdb hxR (hqn _ (by omega))) ?_ | refine zln (X' := (za7 l xo xi n (zcj (tkB p f k) (n - 1 - k) (tkB p f k (p.getD (n - 1 - k) 0).toNat)))) (by (conv => {lhs; whnf}); done) (by (conv => {lhs; whnf}); done) hbl (by simp) (by simp; exact zdb hxR (by omega)) (by exact hA k (by omega)) ?_ | refine zln (X' := (za7 l xo xi n (tkB p f (k + 1)))) (by (conv => {lhs; whnf}); done) (by (conv => {lhs; whnf}); done) hbl (by simp) (by simp; exact zdb hxR (hqn _ (by omega))) (by exact hB k (by omega)) ?_ | (refine m00 ?_; (first | refine zbo ((k + 1 : Nat) : Int) (by omega) (by omega) ?_ | refine zbo (((n - 1 - k : Nat) : Int)) (by omega) (by omega) ?_ | refine v_w (by first | omega | (have h1 := zen hxR (i := (((n - 1 - k) : Nat) : Int)) (by omega) (by omega); have h2 := zen hxR (i := (p.getD (n - 1 - k) 0)) (by have := hq (n - 1 - k) (by omega); omega) (by have := hq (n - 1 - k) (by omega); omega); omega) | fail) ?_ | refine m47 ?_ | refine m48 ?_ | refine m49 ?_ | refine m50 ?_ | refine v_k ?_ | refine m51 ?_ | fail)) | refine m08 ?_ | refine zam (by (conv => {lhs; whnf}); done) (by first | rfl | assumption) ?_ | refine m25 ?_ | refine m01 ?_ | fail))
 |(refine zch ?_; (first | refine m36 ?_ | refine zcf ?_ | fail))
 |(refine zcg ?_; (first | refine zev ?_ | refine zfv ?_ | refine zfw (by (conv => {lhs; whnf}); done) ?_ | refine zfx ?_ | refine zfu (by exact rfl) (by exact rfl) ?_ | refine m34 ?_ | refine m35 ?_ | refine m33 ?_ | refine zew ?_ | refine m56 ?_ | refine zci ?_ | refine zc1 (by exact rfl) ?_ | fail))
 |refine zat ?_ | refine zau ?_ | refine zas ?_
 |(refine zax ?_; (first | refine zar ?_ | refine zad ?_ | (refine m06 ?_; (first | refine c_T ?_ | refine c_F ?_ | refine c_P ?_ ?_ | refine c_B ?_ ?_ | fail)) | refine zaq ?_ | refine zah ?_ | refine zae ?_ | refine b_exit ?_ | refine zan (id := 7) [] [] [(0, .lt), (1, .ld true), (2, .lt), (3, .ld true), (4, .lt), (5, .lt), (6, .ld true), (7, .lt), (8, .lt), (9, .lt), (10, .lt), (11, .ld true), (12, .lt), (13, .ld true), (14, .lt), (15, .lt), (16, .lt), (17, .ld true), (18, .lt), (19, .ld true), (20, .lt), (21, .lt), (22, .lt), (23, .lt), (24, .lt)] (by kernel_rfl) ?_ | refine zan (id := 8) [] [9, 11] [(0, .lt), (1, .lt), (2, .lt), (3, .lt), (4, .ld true), (5, .lt), (6, .lt), (7, .ld true), (8, .lt), (9, .mn false), (10, .lt), (11, .mn false)] (by kernel_rfl) ?_ | (refine za1 [1, 2, 3, 11, 12] n (fun k => ⟨[(1, .val P), (2, .val (.bool true)), (3, .loc 3 0), (11, .val (.int .i64 ((n : Nat) : Int))), (12, .val (.int .i64 ((k : Nat) : Int)))], [(3, [(.slm b l.length 0 l.length 1), .int .i64 xo, .int .i64 (n : Int), .int .i64 xi])], H.set b (fl (za7 l xo xi n (tkB p f k))) ++ []⟩) (by exact rfl) ?_ ?_ <;> (first | intro k hk K hK | intro K) <;> (try dsimp only at *)) | fail))
 |refine zbh ?_ | refine zbi ?_ | refine zbg ?_ | refine m57 ?_
 |refine zdp ?_ | refine zdq ?_ | refine zdo ?_
 |(refine zdr (by exact rfl) ?_; first | exact hK | fail | (exfalso; first | omega | (simp_all; done) | (simp_all; omega)))
 |refine m05 ?_
 |refine m04 ?_ | refine m02 ?_ | refine m03 ?_ | refine zai ?_
 |intro _)
  all_goals first
    | (exfalso; contradiction)
    | (exfalso; omega)
    | (refine zal (by simp) (by simp [mx, mxL, zaf, aOf, zbn]) ?_; exact rfl)
theorem zo4 (H : List (List AV)) (x y z : Nat) :
    zaa Tryz.prog 163 [.flt x, .flt y, .flt z] H (.flt (ziz x (zeu y z))) H := by
  refine .go Tryz.call163 Tryz.func163 false [] dOk ?_
  simp only [za0, Nat.reduceAdd]
  repeat' (first
 |(refine zav ?_; (first | refine zbd ?_ | refine zao ?_ | fail))
 |(refine zaw ?_; (first | refine m14 ?_ | refine m42 ?_ | refine zab ?_ | refine zac ?_ | refine m08 ?_ | refine zaj ?_ | fail))
 |refine zat ?_ | refine zau ?_ | refine zas ?_
 |(refine zax ?_; (first | refine zar ?_ | refine zad ?_ | (refine m06 ?_; (first | refine c_T ?_ | refine c_F ?_ | refine c_P ?_ ?_ | refine c_B ?_ ?_ | fail)) | refine zaq ?_ | refine zah ?_ | refine zae ?_ | refine b_exit ?_ | fail))
 |refine m21 ?_
 |refine za4 ?_
 |(refine za5 ?_; (first | refine cA (zjj _ _ _) ?_ | refine cA (zsr _ _ _) ?_ | fail))
 |refine m05 ?_
 |refine m04 ?_ | refine m02 ?_ | refine m03 ?_ | refine zai ?_
 |intro _)
  all_goals first | refine zal rfl (by simp [mx, mxL, aOf, zbn, zaf]) ?_ | (trace_state; fail)
  all_goals exact rfl
end
theorem zhk {A N : List (List AV)} {D : AV} {f : Nat → Nat} {n : Nat} (h : FL A D (rml f n)) : zkc (A ++ N) 1 D = some (n, fl (rml f n)) := by
  have := zjh (N := N) h
  rwa [zbr] at this
section
attribute [local irreducible] Ex za3 exD opX opE zca zd3 zd4 Spec zaa Fr zb9 zbb zba ckK zb8 zb6 zbu faK zb4 zd1 gK fK rK zeq lpX prK
theorem z08 (H : List (List AV)) (X : AV) (f : Nat → Nat) (n : Nat) (hX : FL H X (rml f n)) (hn : n ≤ 1000) (P : AV) (p : List Int) (hP : IL H P p) (hpl : p.length = n) (hpv : zdx p) :
    zaa Tryz.prog 118 [X, P, .bool false] H (.sl none n (fl (rml (tkF p f n) n))) H := by
  have hPl : slen P = some n := (by rw [← hpl]; exact hP.len)
  have hq : ∀ t, t < n → 0 ≤ p.getD t 0 ∧ p.getD t 0 < n := fun t ht => by have := hpv t (by omega); omega
  have hqn : ∀ t, t < n → (p.getD t 0).toNat < n := fun t ht => by have := hq t ht; omega
  have hqe : ∀ t, t < n → p.getD t 0 = (((p.getD t 0).toNat : Nat) : Int) := fun t ht => by have := hq t ht; omega
  have hA : ∀ k, k < n → (rml (tkF p f k) n).set (k) ((rml (tkF p f k) n).getD (p.getD (k) 0).toNat 0) = (rml (zcj (tkF p f k) (k) (tkF p f k (p.getD (k) 0).toNat)) n) := fun k hk => (by rw [zcz (hqn _ (by omega)), zni (by omega)])
  have hB : ∀ k, k < n → (rml (zcj (tkF p f k) (k) (tkF p f k (p.getD (k) 0).toNat)) n).set (p.getD (k) 0).toNat ((rml (tkF p f k) n).getD (k) 0) = (rml (tkF p f (k + 1)) n) := fun k hk => (by rw [zcz (by omega)]; exact zim (hqn _ (by omega)) fun i hi => (zpb i))
  refine .go Tryz.call118 Tryz.func118 false [] dOk ?_
  simp only [za0, Nat.reduceAdd]
  repeat' (first
 |(refine zav ?_; (first | refine zbd ?_ | refine zao ?_ | fail))
 |(refine zaw ?_; (first | refine m14 ?_ | (refine m07 ?_; (first | refine m15 ?_ | refine m16 ?_ | refine zxy (hP.app _) (by omega) ?_ | refine zdy (FL.blk (by exact rfl) (by exact rfl) (by simp) (by simp)) (by simp; first | omega | exact hqn _ (by omega)) ?_ | fail)) | refine zgs (by exact rfl) (by exact rfl) (by decide) (by exact rfl) (by (conv => {lhs; whnf}); done) ?_ | refine zfp (by (conv => {lhs; whnf}); done) (by (conv => {lhs; whnf}); done) (by exact rfl) (by exact rfl) (by exact (zhk hX)) (by simp) (by exact rfl) (by simp; omega) (.inl (Nat.le_refl _)) (by exact rfl) (by (conv => {lhs; simp only [List.nil_append, zfr, zg2, zbr]}); done) (by (conv => {lhs; simp only [List.set_cons_zero, List.set_cons_succ]}); done) (by (conv => {lhs; simp only [zd9, zgi, List.length_append, List.length_nil, Nat.zero_add, zbr]}); done) (by (conv => {lhs; simp only [Nat.zero_add, zbr]}); done) ?_ | refine zam (by (conv => {lhs; whnf}); done) (by exact hPl) ?_ | refine zbz (by (conv => {lhs; whnf}); done) (by (conv => {lhs; whnf}); done) (by exact hPl) (by omega) ?_ | refine zec (m := k) (by (conv => {lhs; whnf}); done) (by (conv => {lhs; whnf}); done) (by exact rfl) (by omega) (by omega) ?_ | refine zec (m := (p.getD (k) 0).toNat) (by (conv => {lhs; whnf}); done) (by (conv => {lhs; whnf}); done) (by exact rfl) (by exact hqe _ (by omega)) (by exact hqn _ (by omega)) ?_ | refine zh4 (i := 0) (m' := (rml (zcj (tkF p f k) (k) (tkF p f k (p.getD (k) 0).toNat)) n)) (by (conv => {lhs; whnf}); done) (by (conv => {lhs; whnf}); done) (by exact rfl) (by exact rfl) (by simp) (by simp; omega) (by rw [Nat.zero_add]; exact hA k (by omega)) (by exact rfl) ?_ | refine zh4 (i := 0) (m' := (rml (tkF p f (k + 1)) n)) (by (conv => {lhs; whnf}); done) (by (conv => {lhs; whnf}); done) (by exact rfl) (by exact rfl) (by simp) (by simp; exact hqn _ (by omega)) (by rw [Nat.zero_add]; exact hB k (by omega)) (by exact rfl) ?_ | (refine m00 ?_; (first | refine zbo ((k + 1 : Nat) : Int) (by omega) (by omega) ?_ | refine zbo (((k : Nat) : Int)) (by omega) (by omega) ?_ | refine m47 ?_ | refine m48 ?_ | refine m49 ?_ | refine m50 ?_ | refine v_k ?_ | refine m51 ?_ | fail)) | refine m42 ?_ | refine zab ?_ | refine zac ?_ | refine m08 ?_ | refine zam (by (conv => {lhs; whnf}); done) (by first | rfl | assumption) ?_ | refine m25 ?_ | refine zc2 (by exact rfl) (by exact rfl) (by decide) ?_ | fail))
 |(refine zch ?_; (first | refine m36 ?_ | refine zcf ?_ | fail))
 |(refine zcg ?_; (first | refine zev ?_ | refine zfv ?_ | refine zfw (by (conv => {lhs; whnf}); done) ?_ | refine zfx ?_ | refine zfu (by exact rfl) (by exact rfl) ?_ | refine m34 ?_ | refine m35 ?_ | refine m33 ?_ | refine zew ?_ | refine m56 ?_ | refine zci ?_ | refine zc1 (by exact rfl) ?_ | fail))
 |refine zat ?_ | refine zau ?_ | refine zas ?_
 |(refine zax ?_; (first | refine zar ?_ | refine zad ?_ | (refine m06 ?_; (first | refine c_T ?_ | refine c_F ?_ | refine c_P ?_ ?_ | refine c_B ?_ ?_ | fail)) | refine zaq ?_ | refine zah ?_ | refine zae ?_ | refine b_exit ?_ | refine zan (id := 8) [] [] [(0, .lt), (1, .lt), (2, .lt), (3, .ld true), (4, .lt), (5, .lt), (6, .lt), (7, .lt), (8, .ld true), (9, .lt), (10, .ld true), (11, .lt), (12, .lt)] (by kernel_rfl) ?_ | (refine za1 [1, 2, 7, 8] n (fun k => ⟨[(1, .val P), (2, .val (.bool false)), (7, .val (.slm (H.length + 0) n 0 n 1)), (8, .val (.int .i64 ((k : Nat) : Int)))], [], H ++ [fl (rml (tkF p f k) n)]⟩) (by exact rfl) ?_ ?_ <;> (first | intro k hk K hK | intro K) <;> (try dsimp only at *)) | fail))
 |refine m44 ?_
 |refine m40 ?_
 |(refine zbc (by (conv => {lhs; simp only [List.nil_append, List.cons_append]}); done) ?_; first | refine ⟨by exact rfl, ?_⟩ | skip)
 |refine zbt ?_
 |(intro N' hN'; simp only [List.nil_append, List.cons_append] at hN'; subst hN')
 |refine zbh ?_ | refine zbi ?_ | refine zbg ?_ | refine m57 ?_
 |refine zdp ?_ | refine zdq ?_ | refine zdo ?_
 |(refine zdr (by exact rfl) ?_; first | exact hK | fail | (exfalso; first | omega | (simp_all; done) | (simp_all; omega)))
 |refine m05 ?_
 |refine m04 ?_ | refine m02 ?_ | refine m03 ?_ | refine zai ?_
 |(refine ⟨by simp [zm9], fun N' hN' => ?_⟩; simp only [List.nil_append, List.cons_append] at hN'; subst hN')
 |intro _)
  all_goals first
    | (exfalso; contradiction)
    | (exfalso; omega)
    | (refine zb5 rfl ?_; exact (Fr.fz (by omega) (by simp) (za9 rfl rfl) (by simp) (ze9 _ (by simp)) (Frs.old (by rw [zak]; exact Nat.zero_le _))))
theorem z07 (H : List (List AV)) (X : AV) (f : Nat → Nat) (n : Nat) (hX : FL H X (rml f n)) (hn : n ≤ 1000) (P : AV) (p : List Int) (hP : IL H P p) (hpl : p.length = n) (hpv : zdx p) :
    zaa Tryz.prog 118 [X, P, .bool true] H (.sl none n (fl (rml (tkB p f n) n))) H := by
  have hPl : slen P = some n := (by rw [← hpl]; exact hP.len)
  have hq : ∀ t, t < n → 0 ≤ p.getD t 0 ∧ p.getD t 0 < n := fun t ht => by have := hpv t (by omega); omega
  have hqn : ∀ t, t < n → (p.getD t 0).toNat < n := fun t ht => by have := hq t ht; omega
  have hqe : ∀ t, t < n → p.getD t 0 = (((p.getD t 0).toNat : Nat) : Int) := fun t ht => by have := hq t ht; omega
  have hA : ∀ k, k < n → (rml (tkB p f k) n).set (n - 1 - k) ((rml (tkB p f k) n).getD (p.getD (n - 1 - k) 0).toNat 0) = (rml (zcj (tkB p f k) (n - 1 - k) (tkB p f k (p.getD (n - 1 - k) 0).toNat)) n) := fun k hk => (by rw [zcz (hqn _ (by omega)), zni (by omega)])
  have hB : ∀ k, k < n → (rml (zcj (tkB p f k) (n - 1 - k) (tkB p f k (p.getD (n - 1 - k) 0).toNat)) n).set (p.getD (n - 1 - k) 0).toNat ((rml (tkB p f k) n).getD (n - 1 - k) 0) = (rml (tkB p f (k + 1)) n) := fun k hk => (by rw [zcz (by omega)]; exact zim (hqn _ (by omega)) fun i hi => (zpb i).trans (by rw [← hpl]; rfl))
  refine .go Tryz.call118 Tryz.func118 false [] dOk ?_
  simp only [za0, Nat.reduceAdd]
  repeat' (first
 |(refine zav ?_; (first | refine zbd ?_ | refine zao ?_ | fail))
 |(refine zaw ?_; (first | refine m14 ?_ | (refine m07 ?_; (first | refine m15 ?_ | refine m16 ?_ | refine zxy (hP.app _) (by omega) ?_ | refine zdy (FL.blk (by exact rfl) (by exact rfl) (by simp) (by simp)) (by simp; first | omega | exact hqn _ (by omega)) ?_ | fail)) | refine zgs (by exact rfl) (by exact rfl) (by decide) (by exact rfl) (by (conv => {lhs; whnf}); done) ?_ | refine zfp (by (conv => {lhs; whnf}); done) (by (conv => {lhs; whnf}); done) (by exact rfl) (by exact rfl) (by exact (zhk hX)) (by simp) (by exact rfl) (by simp; omega) (.inl (Nat.le_refl _)) (by exact rfl) (by (conv => {lhs; simp only [List.nil_append, zfr, zg2, zbr]}); done) (by (conv => {lhs; simp only [List.set_cons_zero, List.set_cons_succ]}); done) (by (conv => {lhs; simp only [zd9, zgi, List.length_append, List.length_nil, Nat.zero_add, zbr]}); done) (by (conv => {lhs; simp only [Nat.zero_add, zbr]}); done) ?_ | refine zam (by (conv => {lhs; whnf}); done) (by exact hPl) ?_ | refine zbz (by (conv => {lhs; whnf}); done) (by (conv => {lhs; whnf}); done) (by exact hPl) (by omega) ?_ | refine zec (m := n - 1 - k) (by (conv => {lhs; whnf}); done) (by (conv => {lhs; whnf}); done) (by exact rfl) (by omega) (by omega) ?_ | refine zec (m := (p.getD (n - 1 - k) 0).toNat) (by (conv => {lhs; whnf}); done) (by (conv => {lhs; whnf}); done) (by exact rfl) (by exact hqe _ (by omega)) (by exact hqn _ (by omega)) ?_ | refine zh4 (i := 0) (m' := (rml (zcj (tkB p f k) (n - 1 - k) (tkB p f k (p.getD (n - 1 - k) 0).toNat)) n)) (by (conv => {lhs; whnf}); done) (by (conv => {lhs; whnf}); done) (by exact rfl) (by exact rfl) (by simp) (by simp; omega) (by rw [Nat.zero_add]; exact hA k (by omega)) (by exact rfl) ?_ | refine zh4 (i := 0) (m' := (rml (tkB p f (k + 1)) n)) (by (conv => {lhs; whnf}); done) (by (conv => {lhs; whnf}); done) (by exact rfl) (by exact rfl) (by simp) (by simp; exact hqn _ (by omega)) (by rw [Nat.zero_add]; exact hB k (by omega)) (by exact rfl) ?_ | (refine m00 ?_; (first | refine zbo ((k + 1 : Nat) : Int) (by omega) (by omega) ?_ | refine zbo (((n - 1 - k : Nat) : Int)) (by omega) (by omega) ?_ | refine m47 ?_ | refine m48 ?_ | refine m49 ?_ | refine m50 ?_ | refine v_k ?_ | refine m51 ?_ | fail)) | refine m42 ?_ | refine zab ?_ | refine zac ?_ | refine m08 ?_ | refine zam (by (conv => {lhs; whnf}); done) (by first | rfl | assumption) ?_ | refine m25 ?_ | refine zc2 (by exact rfl) (by exact rfl) (by decide) ?_ | fail))
 |(refine zch ?_; (first | refine m36 ?_ | refine zcf ?_ | fail))
 |(refine zcg ?_; (first | refine zev ?_ | refine zfv ?_ | refine zfw (by (conv => {lhs; whnf}); done) ?_ | refine zfx ?_ | refine zfu (by exact rfl) (by exact rfl) ?_ | refine m34 ?_ | refine m35 ?_ | refine m33 ?_ | refine zew ?_ | refine m56 ?_ | refine zci ?_ | refine zc1 (by exact rfl) ?_ | fail))
 |refine zat ?_ | refine zau ?_ | refine zas ?_
 |(refine zax ?_; (first | refine zar ?_ | refine zad ?_ | (refine m06 ?_; (first | refine c_T ?_ | refine c_F ?_ | refine c_P ?_ ?_ | refine c_B ?_ ?_ | fail)) | refine zaq ?_ | refine zah ?_ | refine zae ?_ | refine b_exit ?_ | refine zan (id := 8) [] [] [(0, .lt), (1, .lt), (2, .lt), (3, .ld true), (4, .lt), (5, .lt), (6, .lt), (7, .lt), (8, .ld true), (9, .lt), (10, .ld true), (11, .lt), (12, .lt)] (by kernel_rfl) ?_ | (refine za1 [1, 2, 7, 8] n (fun k => ⟨[(1, .val P), (2, .val (.bool true)), (7, .val (.slm (H.length + 0) n 0 n 1)), (8, .val (.int .i64 ((k : Nat) : Int)))], [], H ++ [fl (rml (tkB p f k) n)]⟩) (by exact rfl) ?_ ?_ <;> (first | intro k hk K hK | intro K) <;> (try dsimp only at *)) | fail))
 |refine m44 ?_
 |refine m40 ?_
 |(refine zbc (by (conv => {lhs; simp only [List.nil_append, List.cons_append]}); done) ?_; first | refine ⟨by exact rfl, ?_⟩ | skip)
 |refine zbt ?_
 |(intro N' hN'; simp only [List.nil_append, List.cons_append] at hN'; subst hN')
 |refine zbh ?_ | refine zbi ?_ | refine zbg ?_ | refine m57 ?_
 |refine zdp ?_ | refine zdq ?_ | refine zdo ?_
 |(refine zdr (by exact rfl) ?_; first | exact hK | fail | (exfalso; first | omega | (simp_all; done) | (simp_all; omega)))
 |refine m05 ?_
 |refine m04 ?_ | refine m02 ?_ | refine m03 ?_ | refine zai ?_
 |(refine ⟨by simp [zm9], fun N' hN' => ?_⟩; simp only [List.nil_append, List.cons_append] at hN'; subst hN')
 |intro _)
  all_goals first
    | (exfalso; contradiction)
    | (exfalso; omega)
    | (refine zb5 rfl ?_; exact (Fr.fz (by omega) (by simp) (za9 rfl rfl) (by simp) (ze9 _ (by simp)) (Frs.old (by rw [zak]; exact Nat.zero_le _))))
theorem zns (H : List (List AV)) (A : AV) (a : Nat → Nat → Nat) (n : Nat) (hA : FL H A (rmA a n n)) (hn : n ≤ 1000) (i j : Nat) (hi : i < n) (hj : j < n) (ii jj : Int) (hii : ii = (i : Int)) (hjj : jj = (j : Int)) :
    zaa Tryz.prog 32 [mM A n n, .int .i64 ii, .int .i64 jj] H (.flt (a i j)) H := by
  subst hii hjj
  exact zqn H A a n n hA hn hn i j hi hj
theorem zk6 {f g : Nat → Nat} {n i j x : Nat} (hi : i < n) (hj : j < n) (h : ∀ t, t < n → zcj f i (ziz (f i) (zeu x (f j))) t = g t) : (rml f n).set i (ziz ((rml f n).getD i 0) (zeu x ((rml f n).getD j 0))) = rml g n := by
  rw [zcz hi, zcz hj]; exact zim hi h
theorem ztu {f g : Nat → Nat} {n i x : Nat} (hi : i < n) (h : ∀ t, t < n → zcj f i (fdiv (f i) x) t = g t) : (rml f n).set i (fdiv ((rml f n).getD i 0) x) = rml g n := by
  rw [zcz hi]; exact zim hi h
theorem z6b (H : List (List AV)) (X : AV) (f : Nat → Nat) (n : Nat) (hX : FL H X (rml f n)) (hn : n ≤ 1000) (A : AV) (a : Nat → Nat → Nat) (hA : FL H A (rmA a n n)) :
    zaa Tryz.prog 117 [.int .i64 1, mM A n n, X] H (.tup [.sl none n (fl (rml (lo1 a f n) n)), .bool true]) H := by
  have hnn : n * n ≤ 1000000 := (by have := Nat.mul_le_mul hn hn; omega)
  have hS0 : (rml f n) = (rml (zh6 a f 0 0) n) := zbw fun i hi => (zp7 i).symm
  have hS9 : (rml (zh6 a f n 0) n) = (rml (lo1 a f n) n) := zbw fun i hi => zsu i hi
  have hrow : ∀ k, (rml (zh6 a f k k) n) = (rml (zh6 a f (k + 1) 0) n) := fun k => zbw fun i hi => zvy i
  rw [← hS9]
  refine .go Tryz.call117 Tryz.func117 false [] dOk ?_
  simp only [za0, Nat.reduceAdd]
  repeat' (first
 |(refine zav ?_; (first | refine zbd ?_ | refine zao ?_ | refine m13 ?_ | refine m12 ?_ | refine m11 ?_ | (refine m10 ?_; (first | refine zcv ?_ | refine zcq ?_ | refine zcu ?_ | refine zcr ?_ | refine zct ?_ ?_ | refine zcs ?_ ?_ | refine zcp ?_ ?_ | refine zco ?_ ?_ | fail)) | (refine m09 ?_; (first | refine zcv ?_ | refine zcq ?_ | refine zcu ?_ | refine zcr ?_ | refine zct ?_ ?_ | refine zcs ?_ ?_ | refine zcp ?_ ?_ | refine zco ?_ ?_ | fail)) | refine m38 ?_ | fail))
 |(refine zaw ?_; (first | refine m14 ?_ | (refine m17 ?_; first | refine m19 ?_ | refine m18 ?_) | (refine m07 ?_; (first | refine m15 ?_ | refine m16 ?_ | refine zdy (FL.blk (by exact rfl) (by exact rfl) (by simp) (by simp)) (by simp; omega) ?_ | fail)) | refine zgs (by exact rfl) (by exact rfl) (by decide) (by exact rfl) (by (conv => {lhs; whnf}); done) ?_ | refine zfp (by (conv => {lhs; whnf}); done) (by (conv => {lhs; whnf}); done) (by exact rfl) (by exact rfl) (by exact (zhk hX)) (by simp) (by exact rfl) (by simp; omega) (.inl (Nat.le_refl _)) (by exact rfl) (by (conv => {lhs; simp only [List.nil_append, zfr, zg2, zbr]}); done) (by (conv => {lhs; simp only [List.set_cons_zero, List.set_cons_succ]}); done) (by (conv => {lhs; simp only [zd9, zgi, List.length_append, List.length_nil, Nat.zero_add, zbr]}); done) (by (conv => {lhs; simp only [Nat.zero_add, zbr]}); done) ?_ | refine zec (m := k) (by (conv => {lhs; whnf}); done) (by (conv => {lhs; whnf}); done) (by exact rfl) (by omega) (by omega) ?_ | refine zec (m := t) (by (conv => {lhs; whnf}); done) (by (conv => {lhs; whnf}); done) (by exact rfl) (by omega) (by omega) ?_ | refine zh4 (i := 0) (m' := (rml (zh6 a f k (t + 1)) n)) (by (conv => {lhs; whnf}); done) (by (conv => {lhs; whnf}); done) (by exact rfl) (by exact rfl) (by simp) (by simp; omega) (by rw [Nat.zero_add]; exact zk6 (by omega) (by omega) (fun i hi => zsv (by omega) i)) (by exact rfl) ?_ | (refine m45 ?_; (first | refine zbo ((t + 1 : Nat) : Int) (by omega) (by omega) ?_ | refine zbo ((k + 1 : Nat) : Int) (by omega) (by omega) ?_ | refine zb3 (by exact rfl) ?_ | refine v_k ?_ | fail)) | (refine m00 ?_; (first | refine zbo ((t + 1 : Nat) : Int) (by omega) (by omega) ?_ | refine zbo ((k + 1 : Nat) : Int) (by omega) (by omega) ?_ | refine m52 ?_ | refine m53 ?_ | refine zc7 ?_ | refine m47 ?_ | refine m48 ?_ | refine m49 ?_ | refine m50 ?_ | refine v_k ?_ | refine m51 ?_ | fail)) | (refine m22 ?_; (first | refine m26 ?_ | refine m27 ?_ | fail)) | refine m42 ?_ | refine zab ?_ | refine zac ?_ | refine m08 ?_ | refine zaj ?_ | refine m25 ?_ | refine m01 ?_ | refine zc2 (by exact rfl) (by exact rfl) (by decide) ?_ | fail))
 |(refine zch ?_; (first | refine m36 ?_ | refine zcf ?_ | refine m32 ?_ | refine m31 ?_ | refine m30 ?_ | (refine m28 ?_; (first | refine ze6 ?_ | refine ze1 ?_ | refine ze5 ?_ | refine ze2 ?_ | refine ze4 ?_ ?_ | refine ze3 ?_ ?_ | refine ze0 ?_ ?_ | refine zez ?_ ?_ | fail)) | (refine m29 ?_; (first | refine ze6 ?_ | refine ze1 ?_ | refine ze5 ?_ | refine ze2 ?_ | refine ze4 ?_ ?_ | refine ze3 ?_ ?_ | refine ze0 ?_ ?_ | refine zez ?_ ?_ | fail)) | refine m37 ?_ | fail))
 |(refine zcg ?_; (first | refine zev ?_ | refine zfv ?_ | refine zfw (by (conv => {lhs; whnf}); done) ?_ | refine zfx ?_ | refine zfu (by exact rfl) (by exact rfl) ?_ | refine m34 ?_ | refine m35 ?_ | refine m33 ?_ | refine zew ?_ | refine m56 ?_ | refine zci ?_ | refine zc1 (by exact rfl) ?_ | fail))
 |refine zat ?_ | refine zau ?_ | refine zas ?_
 |(refine zax ?_; (first | refine zar ?_ | refine zad ?_ | (refine m06 ?_; (first | refine c_T ?_ | refine c_F ?_ | refine c_P ?_ ?_ | refine c_B ?_ ?_ | fail)) | refine zaq ?_ | refine zah ?_ | refine zae ?_ | refine b_exit ?_ | refine zan (id := 15) [] [16] [(0, .lt), (1, .lt), (2, .lt), (3, .lt), (4, .lt), (5, .ld true), (6, .ld true), (7, .lt), (8, .lt), (10, .lt), (11, .lt), (12, .lt), (13, .ld true), (9, .mn true), (14, .mn true), (15, .lt), (16, .mn false)] (by kernel_rfl) ?_ | refine zan (id := 23) [] [16] [(0, .lt), (1, .lt), (2, .lt), (3, .lt), (4, .lt), (5, .ld true), (6, .ld true), (7, .lt), (8, .lt), (10, .lt), (11, .lt), (12, .lt), (13, .ld true), (9, .mn true), (14, .mn true), (15, .lt), (16, .mn false)] (by kernel_rfl) ?_ | refine zan (id := 24) [] [12] [(0, .lt), (1, .lt), (2, .lt), (3, .lt), (4, .lt), (5, .ld true), (6, .ld true), (7, .lt), (8, .lt), (9, .mn true), (10, .mn true), (11, .lt), (12, .mn false)] (by kernel_rfl) ?_ | refine zan (id := 32) [] [16] [(0, .lt), (1, .lt), (2, .lt), (3, .lt), (4, .lt), (5, .ld true), (6, .ld true), (7, .lt), (8, .lt), (10, .lt), (11, .lt), (12, .lt), (13, .ld true), (9, .mn true), (14, .mn true), (15, .lt), (16, .mn false)] (by kernel_rfl) ?_ | refine zan (id := 40) [] [16] [(0, .lt), (1, .lt), (2, .lt), (3, .lt), (4, .lt), (5, .ld true), (6, .ld true), (7, .lt), (8, .lt), (10, .lt), (11, .lt), (12, .lt), (13, .ld true), (9, .mn true), (14, .mn true), (15, .lt), (16, .mn false)] (by kernel_rfl) ?_ | refine zan (id := 41) [] [12] [(0, .lt), (1, .lt), (2, .lt), (3, .lt), (4, .lt), (5, .ld true), (6, .ld true), (7, .lt), (8, .lt), (9, .mn true), (10, .mn true), (11, .lt), (12, .mn false)] (by kernel_rfl) ?_ | (refine za1 [0, 4, 8, 9, 11, 12] k (fun t => ⟨[(0, .val (.int .i64 1)), (4, .loc 4 0), (8, .val (.int .i64 ((n : Nat) : Int))), (9, .val (.slm (H.length + 0) n 0 n 1)), (11, .val (.int .i64 ((k : Nat) : Int))), (12, .val (.int .i64 ((t : Nat) : Int)))], [(4, [.int .i64 (n : Int), .int .i64 (n : Int), A])], H ++ [fl (rml (zh6 a f k t) n)]⟩) (by exact rfl) ?_ ?_ <;> (first | intro t ht K hK | intro K) <;> (try dsimp only at *)) | (refine za1 [0, 4, 8, 9, 11] n (fun k => ⟨[(0, .val (.int .i64 1)), (4, .loc 4 0), (8, .val (.int .i64 ((n : Nat) : Int))), (9, .val (.slm (H.length + 0) n 0 n 1)), (11, .val (.int .i64 ((k : Nat) : Int)))], [(4, [.int .i64 (n : Int), .int .i64 (n : Int), A])], H ++ [fl (rml (zh6 a f k 0) n)]⟩) (by simp only [hS0]; exact rfl) ?_ ?_ <;> (first | intro k hk K hK | intro K) <;> (try dsimp only at *)) | (refine za1 [0, 4, 8, 9, 10] n (fun k => ⟨[(0, .val (.int .i64 1)), (4, .loc 4 0), (8, .val (.int .i64 ((n : Nat) : Int))), (9, .val (.slm (H.length + 0) n 0 n 1)), (10, .val (.int .i64 ((k : Nat) : Int)))], [(4, [.int .i64 (n : Int), .int .i64 (n : Int), A])], H ++ [fl (rml f n)]⟩) (by exact rfl) ?_ ?_ <;> (first | intro k hk K hK | intro K) <;> (try dsimp only at *)) | fail))
 |refine m21 ?_
 |refine za4 ?_
 |(refine za5 ?_; (first | refine cA (zns _ A a n (FL.app hA _) hn (k) (t) (by omega) (by omega) _ _ (by omega) (by omega)) ?_ | refine cA (zo4 _ _ _ _) ?_ | refine cA (zea _ _ _) ?_ | fail))
 |refine m44 ?_
 |refine m40 ?_
 |(refine zbc (by (conv => {lhs; simp only [List.nil_append, List.cons_append]}); done) ?_; first | refine ⟨by exact rfl, ?_⟩ | skip)
 |refine zbt ?_
 |(intro N' hN'; simp only [List.nil_append, List.cons_append] at hN'; subst hN')
 |refine zbh ?_ | refine zbi ?_ | refine zbg ?_ | refine m57 ?_
 |refine zdp ?_ | refine zdq ?_ | refine zdo ?_
 |(refine zdr (by exact rfl) ?_; first | exact hK | (rw [hrow]; exact hK) | (exfalso; first | omega | (simp_all; done) | (simp_all; omega)))
 |refine m05 ?_
 |refine m04 ?_ | refine m02 ?_ | refine m03 ?_ | refine zai ?_
 |(refine ⟨by simp [zm9], fun N' hN' => ?_⟩; simp only [List.nil_append, List.cons_append] at hN'; subst hN')
 |intro _)
  all_goals first
    | (exfalso; contradiction)
    | (exfalso; omega)
    | exact False.elim (z2f (hz k (by omega)) (by assumption))
    | (refine zb5 rfl ?_; exact Fr.tup (Frs.cons (Fr.fz (by omega) (by simp) (za9 rfl rfl) (by simp) (ze9 _ (by simp)) (Frs.old (by rw [zak]; exact Nat.zero_le _))) (Frs.cons (Fr.old (by simp [mx, aOf, zbn])) Frs.nil)))
theorem z6c (H : List (List AV)) (X : AV) (f : Nat → Nat) (n : Nat) (hX : FL H X (rml f n)) (hn : n ≤ 1000) (A : AV) (a : Nat → Nat → Nat) (hA : FL H A (rmA a n n)) (hz : ∀ k, k < n → feq (a k k) 0 = false) :
    zaa Tryz.prog 117 [.int .i64 2, mM A n n, X] H (.tup [.sl none n (fl (rml (up2 a f n n) n)), .bool true]) H := by
  have hnn : n * n ≤ 1000000 := (by have := Nat.mul_le_mul hn hn; omega)
  have hS0 : (rml f n) = (rml (zhc a f n 0 0) n) := zbw fun i hi => (zqq i hi).symm
  have hS9 : (rml (zhc a f n n 0) n) = (rml (up2 a f n n) n) := zbw fun i hi => zuh i hi
  rw [← hS9]
  refine .go Tryz.call117 Tryz.func117 false [] dOk ?_
  simp only [za0, Nat.reduceAdd]
  repeat' (first
 |(refine zav ?_; (first | refine zbd ?_ | refine zao ?_ | refine m13 ?_ | refine m12 ?_ | refine m11 ?_ | (refine m10 ?_; (first | refine zcv ?_ | refine zcq ?_ | refine zcu ?_ | refine zcr ?_ | refine zct ?_ ?_ | refine zcs ?_ ?_ | refine zcp ?_ ?_ | refine zco ?_ ?_ | fail)) | (refine m09 ?_; (first | refine zcv ?_ | refine zcq ?_ | refine zcu ?_ | refine zcr ?_ | refine zct ?_ ?_ | refine zcs ?_ ?_ | refine zcp ?_ ?_ | refine zco ?_ ?_ | fail)) | refine m38 ?_ | fail))
 |(refine zaw ?_; (first | refine m14 ?_ | (refine m17 ?_; first | refine m19 ?_ | refine m18 ?_) | (refine m07 ?_; (first | refine m15 ?_ | refine m16 ?_ | refine zdy (FL.blk (by exact rfl) (by exact rfl) (by simp) (by simp)) (by simp; omega) ?_ | fail)) | refine zgs (by exact rfl) (by exact rfl) (by decide) (by exact rfl) (by (conv => {lhs; whnf}); done) ?_ | refine zfp (by (conv => {lhs; whnf}); done) (by (conv => {lhs; whnf}); done) (by exact rfl) (by exact rfl) (by exact (zhk hX)) (by simp) (by exact rfl) (by simp; omega) (.inl (Nat.le_refl _)) (by exact rfl) (by (conv => {lhs; simp only [List.nil_append, zfr, zg2, zbr]}); done) (by (conv => {lhs; simp only [List.set_cons_zero, List.set_cons_succ]}); done) (by (conv => {lhs; simp only [zd9, zgi, List.length_append, List.length_nil, Nat.zero_add, zbr]}); done) (by (conv => {lhs; simp only [Nat.zero_add, zbr]}); done) ?_ | refine zec (m := (n - 1 - k)) (by (conv => {lhs; whnf}); done) (by (conv => {lhs; whnf}); done) (by exact rfl) (by omega) (by omega) ?_ | refine zec (m := n - 1 - t) (by (conv => {lhs; whnf}); done) (by (conv => {lhs; whnf}); done) (by exact rfl) (by omega) (by omega) ?_ | refine zh4 (i := 0) (m' := (rml (zhc a f n k (t + 1)) n)) (by (conv => {lhs; whnf}); done) (by (conv => {lhs; whnf}); done) (by exact rfl) (by exact rfl) (by simp) (by simp; omega) (by rw [Nat.zero_add]; exact zk6 (by omega) (by omega) (fun i hi => zui (by omega) (by omega) i)) (by exact rfl) ?_ | refine zh4 (i := 0) (m' := (rml (zhc a f n (k + 1) 0) n)) (by (conv => {lhs; whnf}); done) (by (conv => {lhs; whnf}); done) (by exact rfl) (by exact rfl) (by simp) (by simp; omega) (by rw [Nat.zero_add]; exact ztu (by omega) (fun i hi => zw0 (by omega) i)) (by exact rfl) ?_ | (refine m45 ?_; (first | refine zbo ((n : Int) - 1 - ((k + 1 : Nat) : Int)) (by omega) (by omega) ?_ | refine zbo ((n : Int) - 1 - ((0 : Nat) : Int)) (by omega) (by omega) ?_ | refine zbo ((n : Int) - 1 - ((t + 1 : Nat) : Int)) (by omega) (by omega) ?_ | refine zbo ((k + 1 : Nat) : Int) (by omega) (by omega) ?_ | refine zb3 (by exact rfl) ?_ | refine v_k ?_ | fail)) | (refine m00 ?_; (first | refine zbo ((n : Int) - 1 - ((k + 1 : Nat) : Int)) (by omega) (by omega) ?_ | refine zbo ((n : Int) - 1 - ((0 : Nat) : Int)) (by omega) (by omega) ?_ | refine zbo ((n : Int) - 1 - ((t + 1 : Nat) : Int)) (by omega) (by omega) ?_ | refine zbo ((k + 1 : Nat) : Int) (by omega) (by omega) ?_ | refine m52 ?_ | refine m53 ?_ | refine zc7 ?_ | refine m47 ?_ | refine m48 ?_ | refine m49 ?_ | refine m50 ?_ | refine v_k ?_ | refine m51 ?_ | fail)) | (refine m22 ?_; (first | refine m26 ?_ | refine m27 ?_ | fail)) | refine m42 ?_ | refine zab ?_ | refine zac ?_ | refine m08 ?_ | refine zaj ?_ | refine m25 ?_ | refine m01 ?_ | refine zc2 (by exact rfl) (by exact rfl) (by decide) ?_ | fail))
 |(refine zch ?_; (first | refine m36 ?_ | refine zcf ?_ | refine m32 ?_ | refine m31 ?_ | refine m30 ?_ | (refine m28 ?_; (first | refine ze6 ?_ | refine ze1 ?_ | refine ze5 ?_ | refine ze2 ?_ | refine ze4 ?_ ?_ | refine ze3 ?_ ?_ | refine ze0 ?_ ?_ | refine zez ?_ ?_ | fail)) | (refine m29 ?_; (first | refine ze6 ?_ | refine ze1 ?_ | refine ze5 ?_ | refine ze2 ?_ | refine ze4 ?_ ?_ | refine ze3 ?_ ?_ | refine ze0 ?_ ?_ | refine zez ?_ ?_ | fail)) | refine m37 ?_ | fail))
 |(refine zcg ?_; (first | refine zev ?_ | refine zfv ?_ | refine zfw (by (conv => {lhs; whnf}); done) ?_ | refine zfx ?_ | refine zfu (by exact rfl) (by exact rfl) ?_ | refine m34 ?_ | refine m35 ?_ | refine m33 ?_ | refine zew ?_ | refine m56 ?_ | refine zci ?_ | refine zc1 (by exact rfl) ?_ | fail))
 |refine zat ?_ | refine zau ?_ | refine zas ?_
 |(refine zax ?_; (first | refine zar ?_ | refine zad ?_ | (refine m06 ?_; (first | refine c_T ?_ | refine c_F ?_ | refine c_P ?_ ?_ | refine c_B ?_ ?_ | fail)) | refine zaq ?_ | refine zah ?_ | refine zae ?_ | refine b_exit ?_ | refine zan (id := 15) [] [16] [(0, .lt), (1, .lt), (2, .lt), (3, .lt), (4, .lt), (5, .ld true), (6, .ld true), (7, .lt), (8, .lt), (10, .lt), (11, .lt), (12, .lt), (13, .ld true), (9, .mn true), (14, .mn true), (15, .lt), (16, .mn false)] (by kernel_rfl) ?_ | refine zan (id := 23) [] [16] [(0, .lt), (1, .lt), (2, .lt), (3, .lt), (4, .lt), (5, .ld true), (6, .ld true), (7, .lt), (8, .lt), (10, .lt), (11, .lt), (12, .lt), (13, .ld true), (9, .mn true), (14, .mn true), (15, .lt), (16, .mn false)] (by kernel_rfl) ?_ | refine zan (id := 24) [] [12] [(0, .lt), (1, .lt), (2, .lt), (3, .lt), (4, .lt), (5, .ld true), (6, .ld true), (7, .lt), (8, .lt), (9, .mn true), (10, .mn true), (11, .lt), (12, .mn false)] (by kernel_rfl) ?_ | refine zan (id := 32) [] [16] [(0, .lt), (1, .lt), (2, .lt), (3, .lt), (4, .lt), (5, .ld true), (6, .ld true), (7, .lt), (8, .lt), (10, .lt), (11, .lt), (12, .lt), (13, .ld true), (9, .mn true), (14, .mn true), (15, .lt), (16, .mn false)] (by kernel_rfl) ?_ | refine zan (id := 40) [] [16] [(0, .lt), (1, .lt), (2, .lt), (3, .lt), (4, .lt), (5, .ld true), (6, .ld true), (7, .lt), (8, .lt), (10, .lt), (11, .lt), (12, .lt), (13, .ld true), (9, .mn true), (14, .mn true), (15, .lt), (16, .mn false)] (by kernel_rfl) ?_ | refine zan (id := 41) [] [12] [(0, .lt), (1, .lt), (2, .lt), (3, .lt), (4, .lt), (5, .ld true), (6, .ld true), (7, .lt), (8, .lt), (9, .mn true), (10, .mn true), (11, .lt), (12, .mn false)] (by kernel_rfl) ?_ | (refine za1 [0, 4, 8, 9, 13, 14] k (fun t => ⟨[(0, .val (.int .i64 2)), (4, .loc 4 0), (8, .val (.int .i64 ((n : Nat) : Int))), (9, .val (.slm (H.length + 0) n 0 n 1)), (13, .val (.int .i64 ((n : Int) - 1 - (k : Int)))), (14, .val (.int .i64 ((n : Int) - 1 - (t : Int))))], [(4, [.int .i64 (n : Int), .int .i64 (n : Int), A])], H ++ [fl (rml (zhc a f n k t) n)]⟩) (by exact rfl) ?_ ?_ <;> (first | intro t ht K hK | intro K) <;> (try dsimp only at *)) | (refine za1 [0, 4, 8, 9, 13] n (fun k => ⟨[(0, .val (.int .i64 2)), (4, .loc 4 0), (8, .val (.int .i64 ((n : Nat) : Int))), (9, .val (.slm (H.length + 0) n 0 n 1)), (13, .val (.int .i64 ((n : Int) - 1 - (k : Int))))], [(4, [.int .i64 (n : Int), .int .i64 (n : Int), A])], H ++ [fl (rml (zhc a f n k 0) n)]⟩) (by simp only [hS0]; exact rfl) ?_ ?_ <;> (first | intro k hk K hK | intro K) <;> (try dsimp only at *)) | (refine za1 [0, 4, 8, 9, 10] n (fun k => ⟨[(0, .val (.int .i64 2)), (4, .loc 4 0), (8, .val (.int .i64 ((n : Nat) : Int))), (9, .val (.slm (H.length + 0) n 0 n 1)), (10, .val (.int .i64 ((k : Nat) : Int)))], [(4, [.int .i64 (n : Int), .int .i64 (n : Int), A])], H ++ [fl (rml f n)]⟩) (by exact rfl) ?_ ?_ <;> (first | intro k hk K hK | intro K) <;> (try dsimp only at *)) | fail))
 |refine m21 ?_
 |refine za4 ?_
 |(refine za5 ?_; (first | refine cA (zns _ A a n (FL.app hA _) hn ((n - 1 - k)) (n - 1 - t) (by omega) (by omega) _ _ (by omega) (by omega)) ?_ | refine cA (zns _ A a n (FL.app hA _) hn ((n - 1 - k)) ((n - 1 - k)) (by omega) (by omega) _ _ (by omega) (by omega)) ?_ | refine cA (zns _ A a n (FL.app hA _) hn (k) (k) (by omega) (by omega) _ _ (by omega) (by omega)) ?_ | refine cA (zo4 _ _ _ _) ?_ | refine cA (zea _ _ _) ?_ | fail))
 |refine m44 ?_
 |refine m40 ?_
 |(refine zbc (by (conv => {lhs; simp only [List.nil_append, List.cons_append]}); done) ?_; first | refine ⟨by exact rfl, ?_⟩ | skip)
 |refine zbt ?_
 |(intro N' hN'; simp only [List.nil_append, List.cons_append] at hN'; subst hN')
 |refine zbh ?_ | refine zbi ?_ | refine zbg ?_ | refine m57 ?_
 |refine zdp ?_ | refine zdq ?_ | refine zdo ?_
 |(refine zdr (by exact rfl) ?_; first | exact hK | fail | (exfalso; first | omega | (simp_all; done) | (simp_all; omega)))
 |refine m05 ?_
 |refine m04 ?_ | refine m02 ?_ | refine m03 ?_ | refine zai ?_
 |(refine ⟨by simp [zm9], fun N' hN' => ?_⟩; simp only [List.nil_append, List.cons_append] at hN'; subst hN')
 |intro _)
  all_goals first
    | (exfalso; contradiction)
    | (exfalso; omega)
    | exact False.elim (z2f (hz k (by omega)) (by assumption))
    | (refine zb5 rfl ?_; exact Fr.tup (Frs.cons (Fr.fz (by omega) (by simp) (za9 rfl rfl) (by simp) (ze9 _ (by simp)) (Frs.old (by rw [zak]; exact Nat.zero_le _))) (Frs.cons (Fr.old (by simp [mx, aOf, zbn])) Frs.nil)))
theorem z6d (H : List (List AV)) (X : AV) (f : Nat → Nat) (n : Nat) (hX : FL H X (rml f n)) (hn : n ≤ 1000) (A : AV) (a : Nat → Nat → Nat) (hA : FL H A (rmA a n n)) :
    zaa Tryz.prog 117 [.int .i64 3, mM A n n, X] H (.tup [.sl none n (fl (rml (lt3 a f n n) n)), .bool true]) H := by
  have hnn : n * n ≤ 1000000 := (by have := Nat.mul_le_mul hn hn; omega)
  have hS0 : ∀ k, (rml (zcj (lt3 a f n k) (n - 1 - k) (in3 a (lt3 a f n k) (n - 1 - k) 0)) n) = (rml (lt3 a f n k) n) := fun k => zbw fun i hi => zl5 i
  have hB : ∀ k, (rml (zcj (lt3 a f n k) (n - 1 - k) (in3 a (lt3 a f n k) (n - 1 - k) k)) n) = (rml (lt3 a f n (k + 1)) n) := fun k => rfl
  refine .go Tryz.call117 Tryz.func117 false [] dOk ?_
  simp only [za0, Nat.reduceAdd]
  repeat' (first
 |(refine zav ?_; (first | refine zbd ?_ | refine zao ?_ | refine m13 ?_ | refine m12 ?_ | refine m11 ?_ | (refine m10 ?_; (first | refine zcv ?_ | refine zcq ?_ | refine zcu ?_ | refine zcr ?_ | refine zct ?_ ?_ | refine zcs ?_ ?_ | refine zcp ?_ ?_ | refine zco ?_ ?_ | fail)) | (refine m09 ?_; (first | refine zcv ?_ | refine zcq ?_ | refine zcu ?_ | refine zcr ?_ | refine zct ?_ ?_ | refine zcs ?_ ?_ | refine zcp ?_ ?_ | refine zco ?_ ?_ | fail)) | refine m38 ?_ | fail))
 |(refine zaw ?_; (first | refine m14 ?_ | (refine m17 ?_; first | refine m19 ?_ | refine m18 ?_) | (refine m07 ?_; (first | refine m15 ?_ | refine m16 ?_ | refine zdy (FL.blk (by exact rfl) (by exact rfl) (by simp) (by simp)) (by simp; omega) ?_ | fail)) | refine zgs (by exact rfl) (by exact rfl) (by decide) (by exact rfl) (by (conv => {lhs; whnf}); done) ?_ | refine zfp (by (conv => {lhs; whnf}); done) (by (conv => {lhs; whnf}); done) (by exact rfl) (by exact rfl) (by exact (zhk hX)) (by simp) (by exact rfl) (by simp; omega) (.inl (Nat.le_refl _)) (by exact rfl) (by (conv => {lhs; simp only [List.nil_append, zfr, zg2, zbr]}); done) (by (conv => {lhs; simp only [List.set_cons_zero, List.set_cons_succ]}); done) (by (conv => {lhs; simp only [zd9, zgi, List.length_append, List.length_nil, Nat.zero_add, zbr]}); done) (by (conv => {lhs; simp only [Nat.zero_add, zbr]}); done) ?_ | refine zec (m := (n - 1 - k)) (by (conv => {lhs; whnf}); done) (by (conv => {lhs; whnf}); done) (by exact rfl) (by omega) (by omega) ?_ | refine zec (m := n - 1 - k + 1 + t) (by (conv => {lhs; whnf}); done) (by (conv => {lhs; whnf}); done) (by exact rfl) (by omega) (by omega) ?_ | refine zh4 (i := 0) (m' := (rml (zcj (lt3 a f n k) (n - 1 - k) (in3 a (lt3 a f n k) (n - 1 - k) (t + 1))) n)) (by (conv => {lhs; whnf}); done) (by (conv => {lhs; whnf}); done) (by exact rfl) (by exact rfl) (by simp) (by simp; omega) (by rw [Nat.zero_add]; exact zk6 (by omega) (by omega) (fun i hi => zog i)) (by exact rfl) ?_ | (refine m45 ?_; (first | refine zbo ((n - 1 - k + 1 + t + 1 : Nat) : Int) (by omega) (by omega) ?_ | refine zbo ((n - 1 - k + 1 : Nat) : Int) (by omega) (by omega) ?_ | refine zbo ((n : Int) - 1 - ((k + 1 : Nat) : Int)) (by omega) (by omega) ?_ | refine zbo ((n : Int) - 1 - ((0 : Nat) : Int)) (by omega) (by omega) ?_ | refine zbo ((k + 1 : Nat) : Int) (by omega) (by omega) ?_ | refine zb3 (by exact rfl) ?_ | refine v_k ?_ | fail)) | (refine m00 ?_; (first | refine zbo ((n - 1 - k + 1 + t + 1 : Nat) : Int) (by omega) (by omega) ?_ | refine zbo ((n - 1 - k + 1 : Nat) : Int) (by omega) (by omega) ?_ | refine zbo ((n : Int) - 1 - ((k + 1 : Nat) : Int)) (by omega) (by omega) ?_ | refine zbo ((n : Int) - 1 - ((0 : Nat) : Int)) (by omega) (by omega) ?_ | refine zbo ((k + 1 : Nat) : Int) (by omega) (by omega) ?_ | refine m52 ?_ | refine m53 ?_ | refine zc7 ?_ | refine m47 ?_ | refine m48 ?_ | refine m49 ?_ | refine m50 ?_ | refine v_k ?_ | refine m51 ?_ | fail)) | (refine m22 ?_; (first | refine m26 ?_ | refine m27 ?_ | fail)) | refine m42 ?_ | refine zab ?_ | refine zac ?_ | refine m08 ?_ | refine zaj ?_ | refine m25 ?_ | refine m01 ?_ | refine zc2 (by exact rfl) (by exact rfl) (by decide) ?_ | fail))
 |(refine zch ?_; (first | refine m36 ?_ | refine zcf ?_ | refine m32 ?_ | refine m31 ?_ | refine m30 ?_ | (refine m28 ?_; (first | refine ze6 ?_ | refine ze1 ?_ | refine ze5 ?_ | refine ze2 ?_ | refine ze4 ?_ ?_ | refine ze3 ?_ ?_ | refine ze0 ?_ ?_ | refine zez ?_ ?_ | fail)) | (refine m29 ?_; (first | refine ze6 ?_ | refine ze1 ?_ | refine ze5 ?_ | refine ze2 ?_ | refine ze4 ?_ ?_ | refine ze3 ?_ ?_ | refine ze0 ?_ ?_ | refine zez ?_ ?_ | fail)) | refine m37 ?_ | fail))
 |(refine zcg ?_; (first | refine zev ?_ | refine zfv ?_ | refine zfw (by (conv => {lhs; whnf}); done) ?_ | refine zfx ?_ | refine zfu (by exact rfl) (by exact rfl) ?_ | refine m34 ?_ | refine m35 ?_ | refine m33 ?_ | refine zew ?_ | refine m56 ?_ | refine zci ?_ | refine zc1 (by exact rfl) ?_ | fail))
 |refine zat ?_ | refine zau ?_ | refine zas ?_
 |(refine zax ?_; (first | refine zar ?_ | refine zad ?_ | (refine m06 ?_; (first | refine c_T ?_ | refine c_F ?_ | refine c_P ?_ ?_ | refine c_B ?_ ?_ | fail)) | refine zaq ?_ | refine zah ?_ | refine zae ?_ | refine b_exit ?_ | refine zan (id := 15) [] [16] [(0, .lt), (1, .lt), (2, .lt), (3, .lt), (4, .lt), (5, .ld true), (6, .ld true), (7, .lt), (8, .lt), (10, .lt), (11, .lt), (12, .lt), (13, .ld true), (9, .mn true), (14, .mn true), (15, .lt), (16, .mn false)] (by kernel_rfl) ?_ | refine zan (id := 23) [] [16] [(0, .lt), (1, .lt), (2, .lt), (3, .lt), (4, .lt), (5, .ld true), (6, .ld true), (7, .lt), (8, .lt), (10, .lt), (11, .lt), (12, .lt), (13, .ld true), (9, .mn true), (14, .mn true), (15, .lt), (16, .mn false)] (by kernel_rfl) ?_ | refine zan (id := 24) [] [12] [(0, .lt), (1, .lt), (2, .lt), (3, .lt), (4, .lt), (5, .ld true), (6, .ld true), (7, .lt), (8, .lt), (9, .mn true), (10, .mn true), (11, .lt), (12, .mn false)] (by kernel_rfl) ?_ | refine zan (id := 32) [] [16] [(0, .lt), (1, .lt), (2, .lt), (3, .lt), (4, .lt), (5, .ld true), (6, .ld true), (7, .lt), (8, .lt), (10, .lt), (11, .lt), (12, .lt), (13, .ld true), (9, .mn true), (14, .mn true), (15, .lt), (16, .mn false)] (by kernel_rfl) ?_ | refine zan (id := 40) [] [16] [(0, .lt), (1, .lt), (2, .lt), (3, .lt), (4, .lt), (5, .ld true), (6, .ld true), (7, .lt), (8, .lt), (10, .lt), (11, .lt), (12, .lt), (13, .ld true), (9, .mn true), (14, .mn true), (15, .lt), (16, .mn false)] (by kernel_rfl) ?_ | refine zan (id := 41) [] [12] [(0, .lt), (1, .lt), (2, .lt), (3, .lt), (4, .lt), (5, .ld true), (6, .ld true), (7, .lt), (8, .lt), (9, .mn true), (10, .mn true), (11, .lt), (12, .mn false)] (by kernel_rfl) ?_ | (refine za1 [0, 4, 8, 9, 15, 16] k (fun t => ⟨[(0, .val (.int .i64 3)), (4, .loc 4 0), (8, .val (.int .i64 ((n : Nat) : Int))), (9, .val (.slm (H.length + 0) n 0 n 1)), (15, .val (.int .i64 ((n : Int) - 1 - (k : Int)))), (16, .val (.int .i64 ((n - 1 - k + 1 + t : Nat) : Int)))], [(4, [.int .i64 (n : Int), .int .i64 (n : Int), A])], H ++ [fl (rml (zcj (lt3 a f n k) (n - 1 - k) (in3 a (lt3 a f n k) (n - 1 - k) t)) n)]⟩) (by simp only [hS0]; exact rfl) ?_ ?_ <;> (first | intro t ht K hK | intro K) <;> (try dsimp only at *)) | (refine za1 [0, 4, 8, 9, 15] n (fun k => ⟨[(0, .val (.int .i64 3)), (4, .loc 4 0), (8, .val (.int .i64 ((n : Nat) : Int))), (9, .val (.slm (H.length + 0) n 0 n 1)), (15, .val (.int .i64 ((n : Int) - 1 - (k : Int))))], [(4, [.int .i64 (n : Int), .int .i64 (n : Int), A])], H ++ [fl (rml (lt3 a f n k) n)]⟩) (by exact rfl) ?_ ?_ <;> (first | intro k hk K hK | intro K) <;> (try dsimp only at *)) | (refine za1 [0, 4, 8, 9, 10] n (fun k => ⟨[(0, .val (.int .i64 3)), (4, .loc 4 0), (8, .val (.int .i64 ((n : Nat) : Int))), (9, .val (.slm (H.length + 0) n 0 n 1)), (10, .val (.int .i64 ((k : Nat) : Int)))], [(4, [.int .i64 (n : Int), .int .i64 (n : Int), A])], H ++ [fl (rml f n)]⟩) (by exact rfl) ?_ ?_ <;> (first | intro k hk K hK | intro K) <;> (try dsimp only at *)) | fail))
 |refine m21 ?_
 |refine za4 ?_
 |(refine za5 ?_; (first | refine cA (zns _ A a n (FL.app hA _) hn ((n - 1 - k) + 1 + t) ((n - 1 - k)) (by omega) (by omega) _ _ (by omega) (by omega)) ?_ | refine cA (zo4 _ _ _ _) ?_ | refine cA (zea _ _ _) ?_ | fail))
 |refine m44 ?_
 |refine m40 ?_
 |(refine zbc (by (conv => {lhs; simp only [List.nil_append, List.cons_append]}); done) ?_; first | refine ⟨by exact rfl, ?_⟩ | skip)
 |refine zbt ?_
 |(intro N' hN'; simp only [List.nil_append, List.cons_append] at hN'; subst hN')
 |refine zbh ?_ | refine zbi ?_ | refine zbg ?_ | refine m57 ?_
 |refine zdp ?_ | refine zdq ?_ | refine zdo ?_
 |(refine zdr (by exact rfl) ?_; first | exact hK | (rw [hB]; exact hK) | (exfalso; first | omega | (simp_all; done) | (simp_all; omega)))
 |refine m05 ?_
 |refine m04 ?_ | refine m02 ?_ | refine m03 ?_ | refine zai ?_
 |(refine ⟨by simp [zm9], fun N' hN' => ?_⟩; simp only [List.nil_append, List.cons_append] at hN'; subst hN')
 |intro _)
  all_goals first
    | (exfalso; contradiction)
    | (exfalso; omega)
    | exact False.elim (z2f (hz k (by omega)) (by assumption))
    | (refine zb5 rfl ?_; exact Fr.tup (Frs.cons (Fr.fz (by omega) (by simp) (za9 rfl rfl) (by simp) (ze9 _ (by simp)) (Frs.old (by rw [zak]; exact Nat.zero_le _))) (Frs.cons (Fr.old (by simp [mx, aOf, zbn])) Frs.nil)))
theorem z6e (H : List (List AV)) (X : AV) (f : Nat → Nat) (n : Nat) (hX : FL H X (rml f n)) (hn : n ≤ 1000) (A : AV) (a : Nat → Nat → Nat) (hA : FL H A (rmA a n n)) (hz : ∀ k, k < n → feq (a k k) 0 = false) :
    zaa Tryz.prog 117 [.int .i64 4, mM A n n, X] H (.tup [.sl none n (fl (rml (ut4 a f n) n)), .bool true]) H := by
  have hnn : n * n ≤ 1000000 := (by have := Nat.mul_le_mul hn hn; omega)
  have hS0 : ∀ k, (rml (zcj (ut4 a f k) k (in4 a (ut4 a f k) k 0)) n) = (rml (ut4 a f k) n) := fun k => zbw fun i hi => zl6 i
  refine .go Tryz.call117 Tryz.func117 false [] dOk ?_
  simp only [za0, Nat.reduceAdd]
  repeat' (first
 |(refine zav ?_; (first | refine zbd ?_ | refine zao ?_ | refine m13 ?_ | refine m12 ?_ | refine m11 ?_ | (refine m10 ?_; (first | refine zcv ?_ | refine zcq ?_ | refine zcu ?_ | refine zcr ?_ | refine zct ?_ ?_ | refine zcs ?_ ?_ | refine zcp ?_ ?_ | refine zco ?_ ?_ | fail)) | (refine m09 ?_; (first | refine zcv ?_ | refine zcq ?_ | refine zcu ?_ | refine zcr ?_ | refine zct ?_ ?_ | refine zcs ?_ ?_ | refine zcp ?_ ?_ | refine zco ?_ ?_ | fail)) | refine m38 ?_ | fail))
 |(refine zaw ?_; (first | refine m14 ?_ | (refine m17 ?_; first | refine m19 ?_ | refine m18 ?_) | (refine m07 ?_; (first | refine m15 ?_ | refine m16 ?_ | refine zdy (FL.blk (by exact rfl) (by exact rfl) (by simp) (by simp)) (by simp; omega) ?_ | fail)) | refine zgs (by exact rfl) (by exact rfl) (by decide) (by exact rfl) (by (conv => {lhs; whnf}); done) ?_ | refine zfp (by (conv => {lhs; whnf}); done) (by (conv => {lhs; whnf}); done) (by exact rfl) (by exact rfl) (by exact (zhk hX)) (by simp) (by exact rfl) (by simp; omega) (.inl (Nat.le_refl _)) (by exact rfl) (by (conv => {lhs; simp only [List.nil_append, zfr, zg2, zbr]}); done) (by (conv => {lhs; simp only [List.set_cons_zero, List.set_cons_succ]}); done) (by (conv => {lhs; simp only [zd9, zgi, List.length_append, List.length_nil, Nat.zero_add, zbr]}); done) (by (conv => {lhs; simp only [Nat.zero_add, zbr]}); done) ?_ | refine zec (m := k) (by (conv => {lhs; whnf}); done) (by (conv => {lhs; whnf}); done) (by exact rfl) (by omega) (by omega) ?_ | refine zec (m := t) (by (conv => {lhs; whnf}); done) (by (conv => {lhs; whnf}); done) (by exact rfl) (by omega) (by omega) ?_ | refine zh4 (i := 0) (m' := (rml (zcj (ut4 a f k) k (in4 a (ut4 a f k) k (t + 1))) n)) (by (conv => {lhs; whnf}); done) (by (conv => {lhs; whnf}); done) (by exact rfl) (by exact rfl) (by simp) (by simp; omega) (by rw [Nat.zero_add]; exact zk6 (by omega) (by omega) (fun i hi => zoh (by omega) i)) (by exact rfl) ?_ | refine zh4 (i := 0) (m' := (rml (ut4 a f (k + 1)) n)) (by (conv => {lhs; whnf}); done) (by (conv => {lhs; whnf}); done) (by exact rfl) (by exact rfl) (by simp) (by simp; omega) (by rw [Nat.zero_add]; exact ztu (by omega) (fun i hi => zsh i)) (by exact rfl) ?_ | (refine m45 ?_; (first | refine zbo ((t + 1 : Nat) : Int) (by omega) (by omega) ?_ | refine zbo ((k + 1 : Nat) : Int) (by omega) (by omega) ?_ | refine zb3 (by exact rfl) ?_ | refine v_k ?_ | fail)) | (refine m00 ?_; (first | refine zbo ((t + 1 : Nat) : Int) (by omega) (by omega) ?_ | refine zbo ((k + 1 : Nat) : Int) (by omega) (by omega) ?_ | refine m52 ?_ | refine m53 ?_ | refine zc7 ?_ | refine m47 ?_ | refine m48 ?_ | refine m49 ?_ | refine m50 ?_ | refine v_k ?_ | refine m51 ?_ | fail)) | (refine m22 ?_; (first | refine m26 ?_ | refine m27 ?_ | fail)) | refine m42 ?_ | refine zab ?_ | refine zac ?_ | refine m08 ?_ | refine zaj ?_ | refine m25 ?_ | refine m01 ?_ | refine zc2 (by exact rfl) (by exact rfl) (by decide) ?_ | fail))
 |(refine zch ?_; (first | refine m36 ?_ | refine zcf ?_ | refine m32 ?_ | refine m31 ?_ | refine m30 ?_ | (refine m28 ?_; (first | refine ze6 ?_ | refine ze1 ?_ | refine ze5 ?_ | refine ze2 ?_ | refine ze4 ?_ ?_ | refine ze3 ?_ ?_ | refine ze0 ?_ ?_ | refine zez ?_ ?_ | fail)) | (refine m29 ?_; (first | refine ze6 ?_ | refine ze1 ?_ | refine ze5 ?_ | refine ze2 ?_ | refine ze4 ?_ ?_ | refine ze3 ?_ ?_ | refine ze0 ?_ ?_ | refine zez ?_ ?_ | fail)) | refine m37 ?_ | fail))
 |(refine zcg ?_; (first | refine zev ?_ | refine zfv ?_ | refine zfw (by (conv => {lhs; whnf}); done) ?_ | refine zfx ?_ | refine zfu (by exact rfl) (by exact rfl) ?_ | refine m34 ?_ | refine m35 ?_ | refine m33 ?_ | refine zew ?_ | refine m56 ?_ | refine zci ?_ | refine zc1 (by exact rfl) ?_ | fail))
 |refine zat ?_ | refine zau ?_ | refine zas ?_
 |(refine zax ?_; (first | refine zar ?_ | refine zad ?_ | (refine m06 ?_; (first | refine c_T ?_ | refine c_F ?_ | refine c_P ?_ ?_ | refine c_B ?_ ?_ | fail)) | refine zaq ?_ | refine zah ?_ | refine zae ?_ | refine b_exit ?_ | refine zan (id := 15) [] [16] [(0, .lt), (1, .lt), (2, .lt), (3, .lt), (4, .lt), (5, .ld true), (6, .ld true), (7, .lt), (8, .lt), (10, .lt), (11, .lt), (12, .lt), (13, .ld true), (9, .mn true), (14, .mn true), (15, .lt), (16, .mn false)] (by kernel_rfl) ?_ | refine zan (id := 23) [] [16] [(0, .lt), (1, .lt), (2, .lt), (3, .lt), (4, .lt), (5, .ld true), (6, .ld true), (7, .lt), (8, .lt), (10, .lt), (11, .lt), (12, .lt), (13, .ld true), (9, .mn true), (14, .mn true), (15, .lt), (16, .mn false)] (by kernel_rfl) ?_ | refine zan (id := 24) [] [12] [(0, .lt), (1, .lt), (2, .lt), (3, .lt), (4, .lt), (5, .ld true), (6, .ld true), (7, .lt), (8, .lt), (9, .mn true), (10, .mn true), (11, .lt), (12, .mn false)] (by kernel_rfl) ?_ | refine zan (id := 32) [] [16] [(0, .lt), (1, .lt), (2, .lt), (3, .lt), (4, .lt), (5, .ld true), (6, .ld true), (7, .lt), (8, .lt), (10, .lt), (11, .lt), (12, .lt), (13, .ld true), (9, .mn true), (14, .mn true), (15, .lt), (16, .mn false)] (by kernel_rfl) ?_ | refine zan (id := 40) [] [16] [(0, .lt), (1, .lt), (2, .lt), (3, .lt), (4, .lt), (5, .ld true), (6, .ld true), (7, .lt), (8, .lt), (10, .lt), (11, .lt), (12, .lt), (13, .ld true), (9, .mn true), (14, .mn true), (15, .lt), (16, .mn false)] (by kernel_rfl) ?_ | refine zan (id := 41) [] [12] [(0, .lt), (1, .lt), (2, .lt), (3, .lt), (4, .lt), (5, .ld true), (6, .ld true), (7, .lt), (8, .lt), (9, .mn true), (10, .mn true), (11, .lt), (12, .mn false)] (by kernel_rfl) ?_ | (refine za1 [4, 8, 9, 17, 18] k (fun t => ⟨[(4, .loc 4 0), (8, .val (.int .i64 ((n : Nat) : Int))), (9, .val (.slm (H.length + 0) n 0 n 1)), (17, .val (.int .i64 ((k : Nat) : Int))), (18, .val (.int .i64 ((t : Nat) : Int)))], [(4, [.int .i64 (n : Int), .int .i64 (n : Int), A])], H ++ [fl (rml (zcj (ut4 a f k) k (in4 a (ut4 a f k) k t)) n)]⟩) (by simp only [hS0]; exact rfl) ?_ ?_ <;> (first | intro t ht K hK | intro K) <;> (try dsimp only at *)) | (refine za1 [4, 8, 9, 17] n (fun k => ⟨[(4, .loc 4 0), (8, .val (.int .i64 ((n : Nat) : Int))), (9, .val (.slm (H.length + 0) n 0 n 1)), (17, .val (.int .i64 ((k : Nat) : Int)))], [(4, [.int .i64 (n : Int), .int .i64 (n : Int), A])], H ++ [fl (rml (ut4 a f k) n)]⟩) (by exact rfl) ?_ ?_ <;> (first | intro k hk K hK | intro K) <;> (try dsimp only at *)) | (refine za1 [0, 4, 8, 9, 10] n (fun k => ⟨[(0, .val (.int .i64 4)), (4, .loc 4 0), (8, .val (.int .i64 ((n : Nat) : Int))), (9, .val (.slm (H.length + 0) n 0 n 1)), (10, .val (.int .i64 ((k : Nat) : Int)))], [(4, [.int .i64 (n : Int), .int .i64 (n : Int), A])], H ++ [fl (rml f n)]⟩) (by exact rfl) ?_ ?_ <;> (first | intro k hk K hK | intro K) <;> (try dsimp only at *)) | fail))
 |refine m21 ?_
 |refine za4 ?_
 |(refine za5 ?_; (first | refine cA (zns _ A a n (FL.app hA _) hn (t) (k) (by omega) (by omega) _ _ (by omega) (by omega)) ?_ | refine cA (zns _ A a n (FL.app hA _) hn (k) (k) (by omega) (by omega) _ _ (by omega) (by omega)) ?_ | refine cA (zo4 _ _ _ _) ?_ | refine cA (zea _ _ _) ?_ | fail))
 |refine m44 ?_
 |refine m40 ?_
 |(refine zbc (by (conv => {lhs; simp only [List.nil_append, List.cons_append]}); done) ?_; first | refine ⟨by exact rfl, ?_⟩ | skip)
 |refine zbt ?_
 |(intro N' hN'; simp only [List.nil_append, List.cons_append] at hN'; subst hN')
 |refine zbh ?_ | refine zbi ?_ | refine zbg ?_ | refine m57 ?_
 |refine zdp ?_ | refine zdq ?_ | refine zdo ?_
 |(refine zdr (by exact rfl) ?_; first | exact hK | fail | (exfalso; first | omega | (simp_all; done) | (simp_all; omega)))
 |refine m05 ?_
 |refine m04 ?_ | refine m02 ?_ | refine m03 ?_ | refine zai ?_
 |(refine ⟨by simp [zm9], fun N' hN' => ?_⟩; simp only [List.nil_append, List.cons_append] at hN'; subst hN')
 |intro _)
  all_goals first
    | (exfalso; contradiction)
    | (exfalso; omega)
    | exact False.elim (z2f (hz k (by omega)) (by assumption))
    | (refine zb5 rfl ?_; exact Fr.tup (Frs.cons (Fr.fz (by omega) (by simp) (za9 rfl rfl) (by simp) (ze9 _ (by simp)) (Frs.old (by rw [zak]; exact Nat.zero_le _))) (Frs.cons (Fr.old (by simp [mx, aOf, zbn])) Frs.nil)))
end
theorem zng (H : List (List AV)) (D : AV) (l : List Nat) (hF : FL H D l) (off n inc : Int) (hI : VI l.length off n inc) (r : Bool) (hr : decide (za8 l.length off n inc) = r) : zaa Tryz.prog 141 [vt D off n inc] H (.bool r) H := by
  subst hr; exact znf H D l hF off n inc hI
section
attribute [local irreducible] Ex za3 exD opX opE zca zd3 zd4 Spec zaa Fr zb9 zbb zba ckK zb8 zb6 zbu faK zb4 zd1 gK fK rK zeq lpX prK
theorem z8x (H : List (List AV)) (D X P : AV) (mo rows cols ld xo xn xi : Int) (hR : ∀ N, zaa Tryz.prog 52 [(.agg [D, .int .i64 mo, .int .i64 rows, .int .i64 cols, .int .i64 ld, P])] (H ++ N) (.bool true) (H ++ N)) (hne : xn = rows) (hMe : ∀ N, zaa Tryz.prog 142 [mt X xo 1 xn xi, mt D mo rows cols ld] (H ++ N) (.bool false) (H ++ N)) (hZ : ∀ N, zaa Tryz.prog 177 [mt D mo rows cols ld] (H ++ N) (.bool false) (H ++ N)) :
    zaa Tryz.prog 155 [(.agg [D, .int .i64 mo, .int .i64 rows, .int .i64 cols, .int .i64 ld, P]), .bool true, .int .i64 xn, mt X xo 1 xn xi] H (.int .i64 0) H := by
  refine .go Tryz.call155 Tryz.func155 false [] dOk ?_
  simp only [za0, Nat.reduceAdd]
  repeat' (first
 |(refine zav ?_; (first | refine zbd ?_ | refine zao ?_ | refine m13 ?_ | refine m12 ?_ | refine m11 ?_ | (refine m10 ?_; (first | refine zcv ?_ | refine zcq ?_ | refine zcu ?_ | refine zcr ?_ | refine zct ?_ ?_ | refine zcs ?_ ?_ | refine zcp ?_ ?_ | refine zco ?_ ?_ | fail)) | (refine m09 ?_; (first | refine zcv ?_ | refine zcq ?_ | refine zcu ?_ | refine zcr ?_ | refine zct ?_ ?_ | refine zcs ?_ ?_ | refine zcp ?_ ?_ | refine zco ?_ ?_ | fail)) | refine m38 ?_ | fail))
 |(refine zaw ?_; (first | refine m14 ?_ | (refine m17 ?_; first | refine m19 ?_ | refine m18 ?_) | (refine m07 ?_; (first | refine m15 ?_ | refine m16 ?_ | fail)) | (refine m00 ?_; (first | refine m54 ?_ | refine m55 ?_ | refine zbx ?_ | refine m49 ?_ | refine m50 ?_ | refine zfn ?_ | refine zfl ?_ | refine zfm ?_ | refine v_k ?_ | refine m51 ?_ | fail)) | (refine m22 ?_; (first | refine m26 ?_ | refine m27 ?_ | fail)) | refine m42 ?_ | refine zab ?_ | refine zac ?_ | refine m08 ?_ | (refine m20 ?_; (first | refine m54 ?_ | refine m55 ?_ | refine zbx ?_ | refine m49 ?_ | refine m50 ?_ | refine zfn ?_ | refine zfl ?_ | refine zfm ?_ | refine v_k ?_ | refine m51 ?_ | fail)) | refine zaj ?_ | refine m01 ?_ | fail))
 |refine zat ?_ | refine zau ?_ | refine zas ?_
 |(refine zax ?_; (first | refine zar ?_ | refine zad ?_ | (refine m06 ?_; (first | refine c_T ?_ | refine c_F ?_ | refine c_P ?_ ?_ | refine c_B ?_ ?_ | fail)) | refine zaq ?_ | refine zah ?_ | refine zae ?_ | refine b_exit ?_ | fail))
 |refine m21 ?_
 |refine za4 ?_
 |(refine za5 ?_; (first | refine cA (hR _) ?_ | refine cA (hMe _) ?_ | refine cA (hZ _) ?_ | fail))
 |refine zbh ?_ | refine zbi ?_ | refine zbg ?_ | refine m57 ?_
 |refine m05 ?_
 |refine m04 ?_ | refine m02 ?_ | refine m03 ?_ | refine zai ?_
 |intro _)
  all_goals first
    | (exfalso; contradiction)
    | (exfalso; omega)
    | (refine zal rfl (by simp [mx, mxL, zaf, aOf, zbn]) ?_; exact rfl)
theorem qbh (H : List (List AV)) (D X P : AV) (mo rows cols ld xo xn xi : Int) (lx : List Nat) (hF : FL H X lx) (r : Bool) (e : Int) (hr : ∀ N, zaa Tryz.prog 141 [vt X xo xn xi] (H ++ N) (.bool r) (H ++ N)) (hc : ∀ N, zaa Tryz.prog 155 [(.agg [D, .int .i64 mo, .int .i64 rows, .int .i64 cols, .int .i64 ld, P]), .bool r, .int .i64 xn, mt X xo 1 xn xi] (H ++ N) (.int .i64 e) (H ++ N)) :
    zaa Tryz.prog 103 [(.agg [D, .int .i64 mo, .int .i64 rows, .int .i64 cols, .int .i64 ld, P]), vt X xo xn xi] H (.int .i64 e) H := by
  refine .go Tryz.call103 Tryz.func103 false [] dOk ?_
  simp only [za0, Nat.reduceAdd]
  repeat' (first
 |(refine zav ?_; (first | refine zbd ?_ | refine zao ?_ | fail))
 |(refine zaw ?_; (first | (refine m17 ?_; first | refine m19 ?_ | refine m18 ?_) | (refine m07 ?_; (first | refine m15 ?_ | refine m16 ?_ | fail)) | refine m42 ?_ | refine zab ?_ | refine zac ?_ | refine m08 ?_ | refine zaj ?_ | refine m01 ?_ | refine zc9 ?_ | fail))
 |(refine zch ?_; (first | refine m36 ?_ | refine zcf ?_ | fail))
 |(refine zcg ?_; (first | refine zev ?_ | refine zfv ?_ | refine zfw (by (conv => {lhs; whnf}); done) ?_ | refine zfx ?_ | refine zfu (by exact rfl) (by exact rfl) ?_ | refine m34 ?_ | refine m35 ?_ | refine m33 ?_ | refine zew ?_ | refine m56 ?_ | refine zci ?_ | refine zc1 (by exact rfl) ?_ | fail))
 |refine zat ?_ | refine zau ?_ | refine zas ?_
 |(refine zax ?_; (first | refine zar ?_ | refine zad ?_ | (refine m06 ?_; (first | refine c_T ?_ | refine c_F ?_ | refine c_P ?_ ?_ | refine c_B ?_ ?_ | fail)) | refine zaq ?_ | refine zah ?_ | refine zae ?_ | refine b_exit ?_ | refine zan (id := 1) [] [] [(0, .ld true), (1, .ld true), (3, .lt), (4, .ld true), (5, .lt), (6, .ld true), (7, .lt), (8, .ld true), (9, .lt), (10, .ld true), (11, .lt), (12, .ld true), (13, .lt), (2, .mn true), (14, .mn true), (15, .lt)] (by kernel_rfl) ?_ | fail))
 |refine m21 ?_
 |refine za4 ?_
 |(refine za5 ?_; (first | refine cA (hr _) ?_ | refine cA (hc _) ?_ | fail))
 |refine m58 ?_
 |refine zd8 ?_
 |refine m05 ?_
 |refine m04 ?_ | refine m02 ?_ | refine m03 ?_ | refine zai ?_
 |intro _)
  all_goals first
    | (exfalso; contradiction)
    | (exfalso; omega)
    | (refine zal rfl (by simp [mx, mxL, zaf, aOf, zbn]) ?_; exact rfl)
theorem z1u (H : List (List AV)) (b : Nat) (l : List Nat) (hbl : b < H.length) (xo xi : Int) (n : Nat) (hxI : VI l.length xo n xi) (hxR : za8 l.length xo n xi) (D : AV) (hD : mx D ≤ H.length) (ml : Nat) (mo ld : Int) (hI : MI ml mo n n ld) (hG : zaz ml mo n n ld) (a : Nat → Nat → Nat) (hrd : ∀ f, ∃ l', FL (H.set b (fl (za7 l xo xi n f))) D l' ∧ l'.length = ml ∧ ∀ i j, i < n → j < n → mel l' mo ld i j = a i j) (hmeet : ∀ f N, zaa Tryz.prog 142 [mt (.slm b l.length 0 l.length 1) xo 1 (n : Int) xi, mt D mo (n : Int) (n : Int) ld] (H.set b (fl (za7 l xo xi n f)) ++ N) (.bool false) (H.set b (fl (za7 l xo xi n f)) ++ N)) (N : List (List AV)) (f : Nat → Nat) : zaa Tryz.prog 105 [.int .i64 1, mt D mo (n : Int) (n : Int) ld, vt (.slm b l.length 0 l.length 1) xo (n : Int) xi] (H.set b (fl (za7 l xo xi n f)) ++ N) (.int .i64 0) (H.set b (fl (za7 l xo xi n (lo1 a f n))) ++ N) := by
  have hs : ∀ X, (H ++ N).set b X = H.set b X ++ N := fun X => zdl hbl
  have h := z6z (H ++ N) b l (by simp; omega) xo xi n hxI hxR D (by simp; omega) ml mo ld hI hG a (fun f => by obtain ⟨l', h1, h2⟩ := hrd f; rw [hs]; exact ⟨l', h1.app N, h2⟩) (fun f N' => by rw [hs, List.append_assoc]; exact hmeet f (N ++ N')) f
  rwa [hs, hs] at h
theorem z1v (H : List (List AV)) (b : Nat) (l : List Nat) (hbl : b < H.length) (xo xi : Int) (n : Nat) (hxI : VI l.length xo n xi) (hxR : za8 l.length xo n xi) (D : AV) (hD : mx D ≤ H.length) (ml : Nat) (mo ld : Int) (hI : MI ml mo n n ld) (hG : zaz ml mo n n ld) (a : Nat → Nat → Nat) (hrd : ∀ f, ∃ l', FL (H.set b (fl (za7 l xo xi n f))) D l' ∧ l'.length = ml ∧ ∀ i j, i < n → j < n → mel l' mo ld i j = a i j) (hmeet : ∀ f N, zaa Tryz.prog 142 [mt (.slm b l.length 0 l.length 1) xo 1 (n : Int) xi, mt D mo (n : Int) (n : Int) ld] (H.set b (fl (za7 l xo xi n f)) ++ N) (.bool false) (H.set b (fl (za7 l xo xi n f)) ++ N)) (N : List (List AV)) (f : Nat → Nat) (hz : ∀ k, k < n → feq (a k k) 0 = false) : zaa Tryz.prog 105 [.int .i64 2, mt D mo (n : Int) (n : Int) ld, vt (.slm b l.length 0 l.length 1) xo (n : Int) xi] (H.set b (fl (za7 l xo xi n f)) ++ N) (.int .i64 0) (H.set b (fl (za7 l xo xi n (up2 a f n n))) ++ N) := by
  have hs : ∀ X, (H ++ N).set b X = H.set b X ++ N := fun X => zdl hbl
  have h := z7a (H ++ N) b l (by simp; omega) xo xi n hxI hxR D (by simp; omega) ml mo ld hI hG a (fun f => by obtain ⟨l', h1, h2⟩ := hrd f; rw [hs]; exact ⟨l', h1.app N, h2⟩) (fun f N' => by rw [hs, List.append_assoc]; exact hmeet f (N ++ N')) f hz
  rwa [hs, hs] at h
theorem z1w (H : List (List AV)) (b : Nat) (l : List Nat) (hbl : b < H.length) (xo xi : Int) (n : Nat) (hxI : VI l.length xo n xi) (hxR : za8 l.length xo n xi) (D : AV) (hD : mx D ≤ H.length) (ml : Nat) (mo ld : Int) (hI : MI ml mo n n ld) (hG : zaz ml mo n n ld) (a : Nat → Nat → Nat) (hrd : ∀ f, ∃ l', FL (H.set b (fl (za7 l xo xi n f))) D l' ∧ l'.length = ml ∧ ∀ i j, i < n → j < n → mel l' mo ld i j = a i j) (hmeet : ∀ f N, zaa Tryz.prog 142 [mt (.slm b l.length 0 l.length 1) xo 1 (n : Int) xi, mt D mo (n : Int) (n : Int) ld] (H.set b (fl (za7 l xo xi n f)) ++ N) (.bool false) (H.set b (fl (za7 l xo xi n f)) ++ N)) (N : List (List AV)) (f : Nat → Nat) : zaa Tryz.prog 105 [.int .i64 3, mt D mo (n : Int) (n : Int) ld, vt (.slm b l.length 0 l.length 1) xo (n : Int) xi] (H.set b (fl (za7 l xo xi n f)) ++ N) (.int .i64 0) (H.set b (fl (za7 l xo xi n (lt3 a f n n))) ++ N) := by
  have hs : ∀ X, (H ++ N).set b X = H.set b X ++ N := fun X => zdl hbl
  have h := z7b (H ++ N) b l (by simp; omega) xo xi n hxI hxR D (by simp; omega) ml mo ld hI hG a (fun f => by obtain ⟨l', h1, h2⟩ := hrd f; rw [hs]; exact ⟨l', h1.app N, h2⟩) (fun f N' => by rw [hs, List.append_assoc]; exact hmeet f (N ++ N')) f
  rwa [hs, hs] at h
theorem z1x (H : List (List AV)) (b : Nat) (l : List Nat) (hbl : b < H.length) (xo xi : Int) (n : Nat) (hxI : VI l.length xo n xi) (hxR : za8 l.length xo n xi) (D : AV) (hD : mx D ≤ H.length) (ml : Nat) (mo ld : Int) (hI : MI ml mo n n ld) (hG : zaz ml mo n n ld) (a : Nat → Nat → Nat) (hrd : ∀ f, ∃ l', FL (H.set b (fl (za7 l xo xi n f))) D l' ∧ l'.length = ml ∧ ∀ i j, i < n → j < n → mel l' mo ld i j = a i j) (hmeet : ∀ f N, zaa Tryz.prog 142 [mt (.slm b l.length 0 l.length 1) xo 1 (n : Int) xi, mt D mo (n : Int) (n : Int) ld] (H.set b (fl (za7 l xo xi n f)) ++ N) (.bool false) (H.set b (fl (za7 l xo xi n f)) ++ N)) (N : List (List AV)) (f : Nat → Nat) (hz : ∀ k, k < n → feq (a k k) 0 = false) : zaa Tryz.prog 105 [.int .i64 4, mt D mo (n : Int) (n : Int) ld, vt (.slm b l.length 0 l.length 1) xo (n : Int) xi] (H.set b (fl (za7 l xo xi n f)) ++ N) (.int .i64 0) (H.set b (fl (za7 l xo xi n (ut4 a f n))) ++ N) := by
  have hs : ∀ X, (H ++ N).set b X = H.set b X ++ N := fun X => zdl hbl
  have h := z7c (H ++ N) b l (by simp; omega) xo xi n hxI hxR D (by simp; omega) ml mo ld hI hG a (fun f => by obtain ⟨l', h1, h2⟩ := hrd f; rw [hs]; exact ⟨l', h1.app N, h2⟩) (fun f N' => by rw [hs, List.append_assoc]; exact hmeet f (N ++ N')) f hz
  rwa [hs, hs] at h
theorem zwy (H : List (List AV)) (b : Nat) (l : List Nat) (hbl : b < H.length) (xo xi : Int) (n : Nat) (hxI : VI l.length xo n xi) (hxR : za8 l.length xo n xi) (P : AV) (p : List Int) (hpl : p.length = n) (hn9 : n ≤ 2 ^ 30) (hpv : zdx p) (hIL : ∀ X N, IL (H.set b X ++ N) P p) (N : List (List AV)) (f : Nat → Nat) : zaa Tryz.prog 104 [vt (.slm b l.length 0 l.length 1) xo (n : Int) xi, P, .bool false] (H.set b (fl (za7 l xo xi n f)) ++ N) (.tup []) (H.set b (fl (za7 l xo xi n (tkF p f n))) ++ N) := by
  have hs : ∀ X, (H ++ N).set b X = H.set b X ++ N := fun X => zdl hbl
  have h := z6w (H ++ N) b l (by simp; omega) xo xi n hxI hxR P p hpl hn9 hpv (fun X N' => by rw [hs, List.append_assoc]; exact hIL X (N ++ N')) f
  rwa [hs, hs] at h
theorem zwx (H : List (List AV)) (b : Nat) (l : List Nat) (hbl : b < H.length) (xo xi : Int) (n : Nat) (hxI : VI l.length xo n xi) (hxR : za8 l.length xo n xi) (P : AV) (p : List Int) (hpl : p.length = n) (hn9 : n ≤ 2 ^ 30) (hpv : zdx p) (hIL : ∀ X N, IL (H.set b X ++ N) P p) (N : List (List AV)) (f : Nat → Nat) : zaa Tryz.prog 104 [vt (.slm b l.length 0 l.length 1) xo (n : Int) xi, P, .bool true] (H.set b (fl (za7 l xo xi n f)) ++ N) (.tup []) (H.set b (fl (za7 l xo xi n (tkB p f n))) ++ N) := by
  have hs : ∀ X, (H ++ N).set b X = H.set b X ++ N := fun X => zdl hbl
  have h := z6v (H ++ N) b l (by simp; omega) xo xi n hxI hxR P p hpl hn9 hpv (fun X N' => by rw [hs, List.append_assoc]; exact hIL X (N ++ N')) f
  rwa [hs, hs] at h
theorem qa1 (H : List (List AV)) (b : Nat) (l : List Nat) (hbl : b < H.length) (xo xi : Int) (n : Nat) (hxI : VI l.length xo n xi) (hxR : za8 l.length xo n xi) (D : AV) (hD : mx D ≤ H.length) (ml : Nat) (mo ld : Int) (hI : MI ml mo n n ld) (hG : zaz ml mo n n ld) (a : Nat → Nat → Nat) (hrd : ∀ f, ∃ l', FL (H.set b (fl (za7 l xo xi n f))) D l' ∧ l'.length = ml ∧ ∀ i j, i < n → j < n → mel l' mo ld i j = a i j) (hmeet : ∀ f N, zaa Tryz.prog 142 [mt (.slm b l.length 0 l.length 1) xo 1 (n : Int) xi, mt D mo (n : Int) (n : Int) ld] (H.set b (fl (za7 l xo xi n f)) ++ N) (.bool false) (H.set b (fl (za7 l xo xi n f)) ++ N)) (P : AV) (p : List Int) (hpl : p.length = n) (hn9 : n ≤ 2 ^ 30) (hpv : zdx p) (hIL : ∀ X N, IL (H.set b X ++ N) P p) (f : Nat → Nat) (hz : ∀ k, k < n → feq (a k k) 0 = false) (hv : ∀ N, zaa Tryz.prog 103 [(.agg [D, .int .i64 mo, .int .i64 (n : Int), .int .i64 (n : Int), .int .i64 ld, P]), vt (.slm b l.length 0 l.length 1) xo (n : Int) xi] (H.set b (fl (za7 l xo xi n f)) ++ N) (.int .i64 0) (H.set b (fl (za7 l xo xi n f)) ++ N)) :
    zaa Tryz.prog 46 [(.agg [D, .int .i64 mo, .int .i64 (n : Int), .int .i64 (n : Int), .int .i64 ld, P]), vt (.slm b l.length 0 l.length 1) xo (n : Int) xi] (H.set b (fl (za7 l xo xi n f))) (.int .i64 0) (H.set b (fl (za7 l xo xi n (up2 a (lo1 a (tkF p f n) n) n n)))) := by
  refine .go Tryz.call46 Tryz.func46 false [] dOk ?_
  simp only [za0, Nat.reduceAdd]
  repeat' (first
 |(refine zav ?_; (first | refine zbd ?_ | refine zao ?_ | fail))
 |(refine zaw ?_; (first | refine m14 ?_ | (refine m17 ?_; first | refine m19 ?_ | refine m18 ?_) | (refine m07 ?_; (first | refine m15 ?_ | refine m16 ?_ | fail)) | (refine m45 ?_; (first | refine zb3 (by exact rfl) ?_ | refine v_k ?_ | fail)) | (refine m00 ?_; (first | refine m52 ?_ | refine m53 ?_ | refine zc7 ?_ | refine m49 ?_ | refine m50 ?_ | refine v_k ?_ | refine m51 ?_ | fail)) | refine m42 ?_ | refine zab ?_ | refine zac ?_ | refine m08 ?_ | refine zaj ?_ | refine m01 ?_ | fail))
 |refine zat ?_ | refine zau ?_ | refine zas ?_
 |(refine zax ?_; (first | refine zar ?_ | refine zad ?_ | (refine m06 ?_; (first | refine c_T ?_ | refine c_F ?_ | refine c_P ?_ ?_ | refine c_B ?_ ?_ | fail)) | refine zaq ?_ | refine zah ?_ | refine zae ?_ | refine b_exit ?_ | fail))
 |refine m43 ?_
 |refine zbv ?_
 |refine m21 ?_
 |refine za4 ?_
 |(refine za5 ?_; (first | refine cA (hv _) ?_ | refine c_call (zwy H b l hbl xo xi n hxI hxR P p hpl hn9 hpv hIL [] (f)) (zbk.set2 hbl (by simp) (by rw [zak]; omega)) ?_ | refine c_call (z1u H b l hbl xo xi n hxI hxR D hD ml mo ld hI hG a hrd hmeet [] (tkF p f n)) (zbk.set2 hbl (by simp) (by rw [zak]; omega)) ?_ | refine c_call (z1v H b l hbl xo xi n hxI hxR D hD ml mo ld hI hG a hrd hmeet [] (lo1 a (tkF p f n) n) hz) (zbk.set2 hbl (by simp) (by rw [zak]; omega)) ?_ | fail))
 |refine m05 ?_
 |refine m04 ?_ | refine m02 ?_ | refine m03 ?_ | refine zai ?_
 |intro _)
  all_goals first
    | (exfalso; contradiction)
    | (exfalso; omega)
    | (refine zal (by simp) (by simp [mx, mxL, zaf, aOf, zbn]) ?_; exact rfl)
theorem qay (H : List (List AV)) (b : Nat) (l : List Nat) (hbl : b < H.length) (xo xi : Int) (n : Nat) (hxI : VI l.length xo n xi) (hxR : za8 l.length xo n xi) (D : AV) (hD : mx D ≤ H.length) (ml : Nat) (mo ld : Int) (hI : MI ml mo n n ld) (hG : zaz ml mo n n ld) (a : Nat → Nat → Nat) (hrd : ∀ f, ∃ l', FL (H.set b (fl (za7 l xo xi n f))) D l' ∧ l'.length = ml ∧ ∀ i j, i < n → j < n → mel l' mo ld i j = a i j) (hmeet : ∀ f N, zaa Tryz.prog 142 [mt (.slm b l.length 0 l.length 1) xo 1 (n : Int) xi, mt D mo (n : Int) (n : Int) ld] (H.set b (fl (za7 l xo xi n f)) ++ N) (.bool false) (H.set b (fl (za7 l xo xi n f)) ++ N)) (P : AV) (p : List Int) (hpl : p.length = n) (hn9 : n ≤ 2 ^ 30) (hpv : zdx p) (hIL : ∀ X N, IL (H.set b X ++ N) P p) (f : Nat → Nat) (hz : ∀ k, k < n → feq (a k k) 0 = false) (hv : ∀ N, zaa Tryz.prog 103 [(.agg [D, .int .i64 mo, .int .i64 (n : Int), .int .i64 (n : Int), .int .i64 ld, P]), vt (.slm b l.length 0 l.length 1) xo (n : Int) xi] (H.set b (fl (za7 l xo xi n f)) ++ N) (.int .i64 0) (H.set b (fl (za7 l xo xi n f)) ++ N)) :
    zaa Tryz.prog 48 [(.agg [D, .int .i64 mo, .int .i64 (n : Int), .int .i64 (n : Int), .int .i64 ld, P]), vt (.slm b l.length 0 l.length 1) xo (n : Int) xi] (H.set b (fl (za7 l xo xi n f))) (.int .i64 0) (H.set b (fl (za7 l xo xi n (tkB p (lt3 a (ut4 a f n) n n) n)))) := by
  refine .go Tryz.call48 Tryz.func48 false [] dOk ?_
  simp only [za0, Nat.reduceAdd]
  repeat' (first
 |(refine zav ?_; (first | refine zbd ?_ | refine zao ?_ | fail))
 |(refine zaw ?_; (first | refine m14 ?_ | (refine m17 ?_; first | refine m19 ?_ | refine m18 ?_) | (refine m07 ?_; (first | refine m15 ?_ | refine m16 ?_ | fail)) | (refine m45 ?_; (first | refine zb3 (by exact rfl) ?_ | refine v_k ?_ | fail)) | (refine m00 ?_; (first | refine m52 ?_ | refine m53 ?_ | refine zc7 ?_ | refine m49 ?_ | refine m50 ?_ | refine v_k ?_ | refine m51 ?_ | fail)) | refine m42 ?_ | refine zab ?_ | refine zac ?_ | refine m08 ?_ | refine zaj ?_ | refine m01 ?_ | fail))
 |refine zat ?_ | refine zau ?_ | refine zas ?_
 |(refine zax ?_; (first | refine zar ?_ | refine zad ?_ | (refine m06 ?_; (first | refine c_T ?_ | refine c_F ?_ | refine c_P ?_ ?_ | refine c_B ?_ ?_ | fail)) | refine zaq ?_ | refine zah ?_ | refine zae ?_ | refine b_exit ?_ | fail))
 |refine m43 ?_
 |refine zbv ?_
 |refine m21 ?_
 |refine za4 ?_
 |(refine za5 ?_; (first | refine cA (hv _) ?_ | refine c_call (z1x H b l hbl xo xi n hxI hxR D hD ml mo ld hI hG a hrd hmeet [] (f) hz) (zbk.set2 hbl (by simp) (by rw [zak]; omega)) ?_ | refine c_call (z1w H b l hbl xo xi n hxI hxR D hD ml mo ld hI hG a hrd hmeet [] (ut4 a f n)) (zbk.set2 hbl (by simp) (by rw [zak]; omega)) ?_ | refine c_call (zwx H b l hbl xo xi n hxI hxR P p hpl hn9 hpv hIL [] (lt3 a (ut4 a f n) n n)) (zbk.set2 hbl (by simp) (by rw [zak]; omega)) ?_ | fail))
 |refine m05 ?_
 |refine m04 ?_ | refine m02 ?_ | refine m03 ?_ | refine zai ?_
 |intro _)
  all_goals first
    | (exfalso; contradiction)
    | (exfalso; omega)
    | (refine zal (by simp) (by simp [mx, mxL, zaf, aOf, zbn]) ?_; exact rfl)
theorem z6a (H : List (List AV)) (X : AV) (f : Nat → Nat) (n : Nat) (hX : FL H X (rml f n)) (hn : n ≤ 1000) (A : AV) (a : Nat → Nat → Nat) (hA : FL H A (rmA a n n)) (P : AV) (p : List Int) (hP : IL H P p) (hpl : p.length = n) (hpv : zdx p) (hz : ∀ k, k < n → feq (a k k) 0 = false) :
    zaa Tryz.prog 58 [mM A n n, P, X] H (.tup [.sl none n (fl (rml (up2 a (lo1 a (tkF p f n) n) n n) n)), .bool true]) H := by
  refine .go Tryz.call58 Tryz.func58 false [] dOk ?_
  simp only [za0, Nat.reduceAdd]
  repeat' (first
 |(refine zav ?_; (first | refine zbd ?_ | refine zao ?_ | fail))
 |(refine zaw ?_; (first | refine m14 ?_ | (refine m07 ?_; (first | refine m15 ?_ | refine m16 ?_ | fail)) | refine m42 ?_ | refine zab ?_ | refine zac ?_ | refine m08 ?_ | refine zaj ?_ | refine m23 ?_ | refine m01 ?_ | fail))
 |(refine zch ?_; (first | refine m36 ?_ | refine zcf ?_ | fail))
 |(refine zcg ?_; (first | refine zev ?_ | refine zfv ?_ | refine zfw (by (conv => {lhs; whnf}); done) ?_ | refine zfx ?_ | refine zfu (by exact rfl) (by exact rfl) ?_ | refine m34 ?_ | refine m35 ?_ | refine m33 ?_ | refine zew ?_ | refine m56 ?_ | refine zci ?_ | refine zc1 (by exact rfl) ?_ | fail))
 |refine zat ?_ | refine zau ?_ | refine zas ?_
 |(refine zax ?_; (first | refine zar ?_ | refine zad ?_ | (refine m06 ?_; (first | refine c_T ?_ | refine c_F ?_ | refine c_P ?_ ?_ | refine c_B ?_ ?_ | fail)) | refine zaq ?_ | refine zah ?_ | refine zae ?_ | refine b_exit ?_ | refine zan (id := 1) [] [] [(0, .ld true), (1, .lt), (2, .lt), (3, .mn true), (4, .mn true), (5, .lt), (6, .lt), (7, .lt), (8, .lt), (9, .lt)] (by kernel_rfl) ?_ | fail))
 |refine m43 ?_
 |refine zbv ?_
 |refine m21 ?_
 |refine za4 ?_
 |(refine za5 ?_; (first | refine cA (z08 _ X f n (FL.app hX _) hn P p (IL.app hP _) hpl hpv) ?_ | refine cA (z6b _ _ (tkF p f n) n (FL.fzn _ _ _ (by simp)) hn A a (FL.app hA _)) ?_ | refine cA (z6c _ _ (lo1 a (tkF p f n) n) n (FL.fzn _ _ _ (by simp)) hn A a (FL.app hA _) hz) ?_ | fail))
 |refine m05 ?_
 |refine m04 ?_ | refine m02 ?_ | refine m03 ?_ | refine zai ?_
 |intro _)
  all_goals first
    | (exfalso; contradiction)
    | (refine zal rfl (by have h1 := hX.mx; simp only [zaf, List.nil_append, List.cons_append, aOf, zbn, mx, mxL, zak]; omega) ?_; exact rfl)
theorem z5z (H : List (List AV)) (X : AV) (f : Nat → Nat) (n : Nat) (hX : FL H X (rml f n)) (hn : n ≤ 1000) (A : AV) (a : Nat → Nat → Nat) (hA : FL H A (rmA a n n)) (P : AV) (p : List Int) (hP : IL H P p) (hpl : p.length = n) (hpv : zdx p) (hz : ∀ k, k < n → feq (a k k) 0 = false) :
    zaa Tryz.prog 59 [mM A n n, P, X] H (.tup [.sl none n (fl (rml (tkB p (lt3 a (ut4 a f n) n n) n) n)), .bool true]) H := by
  refine .go Tryz.call59 Tryz.func59 false [] dOk ?_
  simp only [za0, Nat.reduceAdd]
  repeat' (first
 |(refine zav ?_; (first | refine zbd ?_ | refine zao ?_ | fail))
 |(refine zaw ?_; (first | refine m14 ?_ | (refine m07 ?_; (first | refine m15 ?_ | refine m16 ?_ | fail)) | refine m42 ?_ | refine zab ?_ | refine zac ?_ | refine m08 ?_ | (refine m20 ?_; (first | refine m49 ?_ | refine m50 ?_ | refine zfn ?_ | refine zfl ?_ | refine zfm ?_ | refine v_k ?_ | refine m51 ?_ | fail)) | refine zaj ?_ | refine m23 ?_ | refine m01 ?_ | fail))
 |refine zat ?_ | refine zau ?_ | refine zas ?_
 |(refine zax ?_; (first | refine zar ?_ | refine zad ?_ | (refine m06 ?_; (first | refine c_T ?_ | refine c_F ?_ | refine c_P ?_ ?_ | refine c_B ?_ ?_ | fail)) | refine zaq ?_ | refine zah ?_ | refine zae ?_ | refine b_exit ?_ | fail))
 |refine m43 ?_
 |refine zbv ?_
 |refine m21 ?_
 |refine za4 ?_
 |(refine za5 ?_; (first | refine cA (z6e _ X f n (FL.app hX _) hn A a (FL.app hA _) hz) ?_ | refine cA (z6d _ _ (ut4 a f n) n (FL.fzn _ _ _ (by simp)) hn A a (FL.app hA _)) ?_ | refine cA (z07 _ _ (lt3 a (ut4 a f n) n n) n (FL.fzn _ _ _ (by simp)) hn P p (IL.app hP _) hpl hpv) ?_ | fail))
 |refine m05 ?_
 |refine m04 ?_ | refine m02 ?_ | refine m03 ?_ | refine zai ?_
 |intro _)
  all_goals first
    | (exfalso; contradiction)
    | (refine zal rfl (by have h1 := hX.mx; simp only [zaf, List.nil_append, List.cons_append, aOf, zbn, mx, mxL, zak]; omega) ?_; exact rfl)
end
theorem upN {Pg : Program} {f : Nat} {a : List AV} {r : AV} {H : List (List AV)} (h : ∀ N, zaa Pg f a (H ++ N) r (H ++ N)) (N N' : List (List AV)) : zaa Pg f a (H ++ N ++ N') r (H ++ N ++ N') := by
  rw [List.append_assoc]; exact h (N ++ N')
section
variable (H : List (List AV)) (D : AV) (la : List Nat) (hF : FL H D la) (mo rows cols ld : Int) (hI : MI la.length mo rows cols ld) (X : AV) (lx : List Nat) (hX : FL H X lx) (xo xn xi : Int) (hxI : VI lx.length xo xn xi) (P : AV) (p : List Int) (hP : IL H P p) (hB : p.length ≤ 2 ^ 30)
include hF hI hX hxI hP hB in
theorem qc8 (bb : Bool) (h : decide (zaz la.length mo rows cols ld ∧ rows = cols ∧ rows = (p.length : Int) ∧ zdx p) = bb) (N : List (List AV)) : zaa Tryz.prog 52 [(.agg [D, .int .i64 mo, .int .i64 rows, .int .i64 cols, .int .i64 ld, P])] (H ++ N) (.bool bb) (H ++ N) := by
  subst h; exact zkx (H ++ N) D la (hF.app N) mo rows cols ld hI P p (hP.app N) hB
end
section
variable (H : List (List AV)) (D : AV) (la : List Nat) (hF : FL H D la) (mo rows cols ld : Int) (hI : MI la.length mo rows cols ld) (X : AV) (lx : List Nat) (hX : FL H X lx) (xo xn xi : Int) (hxI : VI lx.length xo xn xi) (P : AV) (p : List Int) (hP : IL H P p) (hB : p.length ≤ 2 ^ 30)
include hF hI hX hxI hP hB in
theorem qde (bb : Bool) (h : decide (za8 lx.length xo xn xi) = bb) (N : List (List AV)) : zaa Tryz.prog 141 [vt X xo xn xi] (H ++ N) (.bool bb) (H ++ N) :=
  zng (H ++ N) X lx (hX.app N) xo xn xi hxI bb h
end
section
variable (H : List (List AV)) (D : AV) (la : List Nat) (hF : FL H D la) (mo rows cols ld : Int) (hI : MI la.length mo rows cols ld) (X : AV) (lx : List Nat) (hX : FL H X lx) (xo xn xi : Int) (hxI : VI lx.length xo xn xi) (P : AV) (p : List Int) (hP : IL H P p) (hB : p.length ≤ 2 ^ 30)
include hF hI hX hxI hP hB in
theorem qbi (r : Bool) (e : Int) (hr : decide (za8 lx.length xo xn xi) = r) (hc : ∀ N, zaa Tryz.prog 155 [(.agg [D, .int .i64 mo, .int .i64 rows, .int .i64 cols, .int .i64 ld, P]), .bool r, .int .i64 xn, mt X xo 1 xn xi] (H ++ N) (.int .i64 e) (H ++ N)) (N : List (List AV)) : zaa Tryz.prog 103 [(.agg [D, .int .i64 mo, .int .i64 rows, .int .i64 cols, .int .i64 ld, P]), vt X xo xn xi] (H ++ N) (.int .i64 e) (H ++ N) :=
  qbh (H ++ N) D X P mo rows cols ld xo xn xi lx (hX.app N) r e (upN (qde H D la hF mo rows cols ld hI X lx hX xo xn xi hxI P p hP hB r hr) N) (upN hc N)
end
section
variable (H : List (List AV)) (D : AV) (la : List Nat) (hF : FL H D la) (mo rows cols ld : Int) (hI : MI la.length mo rows cols ld) (X : AV) (lx : List Nat) (hX : FL H X lx) (xo xn xi : Int) (hxI : VI lx.length xo xn xi) (P : AV) (p : List Int) (hP : IL H P p) (hB : p.length ≤ 2 ^ 30)
include hF hI hX hxI hP hB in
end
section
variable (H : List (List AV)) (D : AV) (la : List Nat) (hF : FL H D la) (mo rows cols ld : Int) (hI : MI la.length mo rows cols ld) (X : AV) (lx : List Nat) (hX : FL H X lx) (xo xn xi : Int) (hxI : VI lx.length xo xn xi) (P : AV) (p : List Int) (hP : IL H P p) (hB : p.length ≤ 2 ^ 30)
include hF hI hX hxI hP hB in
end
section
variable (H : List (List AV)) (D : AV) (la : List Nat) (hF : FL H D la) (mo rows cols ld : Int) (hI : MI la.length mo rows cols ld) (X : AV) (lx : List Nat) (hX : FL H X lx) (xo xn xi : Int) (hxI : VI lx.length xo xn xi) (P : AV) (p : List Int) (hP : IL H P p) (hB : p.length ≤ 2 ^ 30)
include hF hI hX hxI hP hB in
theorem z7k (hR : (zaz la.length mo rows cols ld ∧ rows = cols ∧ rows = (p.length : Int) ∧ zdx p)) (hx : za8 lx.length xo xn xi) (hne : xn = rows) (hMe : ∀ N, zaa Tryz.prog 142 [mt X xo 1 xn xi, mt D mo rows cols ld] (H ++ N) (.bool false) (H ++ N)) (hZ : ∀ N, zaa Tryz.prog 177 [mt D mo rows cols ld] (H ++ N) (.bool false) (H ++ N)) (N : List (List AV)) : zaa Tryz.prog 103 [(.agg [D, .int .i64 mo, .int .i64 rows, .int .i64 cols, .int .i64 ld, P]), vt X xo xn xi] (H ++ N) (.int .i64 0) (H ++ N) :=
  qbi H D la hF mo rows cols ld hI X lx hX xo xn xi hxI P p hP hB true 0 (decide_eq_true hx) (fun N => z8x (H ++ N) D X P mo rows cols ld xo xn xi (upN (qc8 H D la hF mo rows cols ld hI X lx hX xo xn xi hxI P p hP hB true (decide_eq_true hR)) N) hne (upN hMe N) (upN hZ N)) N
end
theorem zvr {b : Nat} (h : isNaN b = true) : pM b = 0 ∧ pE b = 0 ∧ pK b = 2 := by
  obtain ⟨s, t, hr⟩ := zel h
  unfold Ieee.Format.read at hr
  simp only [zkk, zxj, zxk] at hr
  split at hr
  · cases hr
  · split at hr
    · cases hr
    · split at hr
      · cases hr
      · by_cases hb : b % 9223372036854775808 < 9223372036854775808
        · have e1 : pE₀ b = 2047 := by unfold pE₀; omega
          refine ⟨by unfold pM; rw [if_pos e1], by unfold pE; rw [if_pos e1], ?_⟩
          unfold pK
          rw [if_neg (by rw [e1]; unfold pM₀; omega), if_pos e1]
        · omega
theorem z5m {b : Nat} : pM (cn b) = pM b ∧ pE (cn b) = pE b ∧ pK (cn b) = pK b := by
  rcases zb1 b with ⟨h1, h2⟩ | ⟨h1, h2⟩
  · obtain ⟨a, c, d⟩ := zvr h1
    rw [h2, a, c, d]; decide
  · rw [h2]; exact ⟨rfl, rfl, rfl⟩
theorem z0s (H : List (List AV)) (x : Nat) : zaa Tryz.prog 60 [.flt x] H (.tup [.junk, .int .u64 (pM x), .int .i64 (pE x), .int .i64 (pK x)]) H := by
  refine .mk (fun args w => Tryz.call60 args w) (Spec.raw1 fun b hb hbx => ?_)
  subst hbx
  obtain ⟨h1, h2, h3⟩ := z5m (b := b)
  rw [h1, h2, h3]
  refine Spec.weak (zaa.spec (fun args w => Tryz.call60 args w) (zet H b hb)) fun w g v h => ?_
  simp only [zay, zbq] at h ⊢
  obtain ⟨vs, rfl, v1, r1, h1, h2, h3⟩ := h
  exact ⟨vs, rfl, v1, r1, h1, trivial, h3⟩
def nb : Nat → DV → AV
  | 0, _ => .bool false
  | _ + 1, d => .bool d.neg
end Go.Sx
