/- A part of the proofs of this seat: YG. No condition is set. -/
import Derived.Laws.FloatBits
import Derived.Test.YtdlgclpoomlijaaYE
import Derived.Test.YtdlgclpoomlijaaYF
set_option maxHeartbeats 4000000
set_option linter.unusedVariables false
set_option linter.unusedSimpArgs false
set_option linter.unusedSectionVars false
set_option maxRecDepth 20000
namespace Go.Sx
open Go.Proofs
section
attribute [local irreducible] Ex zau exD opX opE zdh zfd zfl Spec zaa Fr zdg zbf zbe ckK zcq zda zbo faK zcz ze4 gK fK rK zgd lpX prK
theorem zvf (H : List (List AV)) (size off steps step more : Int) (h0 : 0 ≤ size) (hs : size ≤ 9223372036854775807) (h1 : 0 ≤ more) (h2 : 0 ≤ steps) (h3 : 1 ≤ step) (hm : more ≤ 2 ^ 63 - 1) (ho : off ≤ 2^63 -1) (ho' : -(2^63) ≤ off) (hst : step ≤ 2^63 - 1) :
    zaa Try.prog 58 [.int .i64 size, .int .i64 off, .int .i64 steps, .int .i64 step, .int .i64 more] H (.bool (decide (0 ≤ off ∧ off < size ∧ more < size - off ∧ steps * step ≤ size - 1 - off - more))) H := by
  refine .go Try.call58 Try.func58 false [] dOk ?_
  simp only [zbp, Nat.reduceAdd]
  repeat' (first
 |(refine za4 ?_; (first | refine zcm ?_ | refine zay ?_ | refine m13 ?_ | refine m12 ?_ | refine m11 ?_ | (refine m10 ?_; (first | refine zci ?_ | refine zcd ?_ | refine zch ?_ | refine zce ?_ | refine zcg ?_ ?_ | refine zcf ?_ ?_ | refine zcc ?_ ?_ | refine zcb ?_ ?_ | fail)) | (refine m09 ?_; (first | refine zci ?_ | refine zcd ?_ | refine zch ?_ | refine zce ?_ | refine zcg ?_ ?_ | refine zcf ?_ ?_ | refine zcc ?_ ?_ | refine zcb ?_ ?_ | fail)) | refine m38 ?_ | fail))
 |(refine za5 ?_; (first | refine m14 ?_ | (refine m00 ?_; (first | refine m47 ?_ | refine m48 ?_ | refine m49 ?_ | refine m50 ?_ | refine zyi (by omega) (by omega) ?_ | refine v_k ?_ | refine m51 ?_ | fail)) | (refine m22 ?_; (first | refine m26 ?_ | refine m27 ?_ | fail)) | refine m42 ?_ | refine zad ?_ | refine zae ?_ | refine m08 ?_ | fail))
 |refine za2 ?_ | refine za3 ?_ | refine za1 ?_
 |(refine za6 ?_; (first | refine za0 ?_ | refine zab ?_ | (refine m06 ?_; (first | refine c_T ?_ | refine c_F ?_ | refine c_P ?_ ?_ | refine c_B ?_ ?_ | fail)) | refine zaz ?_ | refine zaq ?_ | refine zai ?_ | refine b_exit ?_ | fail))
 |refine m05 ?_
 |refine m04 ?_ | refine m02 ?_ | refine m03 ?_ | refine zar ?_
 |intro _)
  all_goals first | refine zan rfl (by simp [mx, mxL, aOf, zb1, zaf]) ?_ | (trace_state; fail)
  all_goals first
    | exact rtF (by omega)
    | (refine rvP ?_; rw [Int.le_ediv_iff_mul_le (by omega)]; omega)
theorem zd1 (H : List (List AV)) (D : AV) (n : Nat) (off rows cols ld : Int) (hD : slen D = some n) (hI : MI n off rows cols ld) :
    zaa Try.prog 30 [mt D off rows cols ld] H (.bool (decide (zac n off rows cols ld))) H := by
  obtain ⟨hn, ho1, ho2, hr1, hr2, hc1, hc2, hl1, hl2⟩ := id hI
  refine .go Try.call30 Try.func30 false [] dOk ?_
  simp only [zbp, Nat.reduceAdd]
  repeat' (first
 |(refine za4 ?_; (first | refine zcm ?_ | refine zay ?_ | refine m13 ?_ | refine m12 ?_ | refine m11 ?_ | (refine m10 ?_; (first | refine zci ?_ | refine zcd ?_ | refine zch ?_ | refine zce ?_ | refine zcg ?_ ?_ | refine zcf ?_ ?_ | refine zcc ?_ ?_ | refine zcb ?_ ?_ | fail)) | (refine m09 ?_; (first | refine zci ?_ | refine zcd ?_ | refine zch ?_ | refine zce ?_ | refine zcg ?_ ?_ | refine zcf ?_ ?_ | refine zcc ?_ ?_ | refine zcb ?_ ?_ | fail)) | refine m38 ?_ | fail))
 |(refine za5 ?_; (first | refine m14 ?_ | (refine m17 ?_; first | refine m19 ?_ | refine m18 ?_) | (refine m07 ?_; (first | refine m15 ?_ | refine m16 ?_ | fail)) | (refine m45 ?_; (first | refine zeg (by exact rfl) ?_ | refine v_k ?_ | fail)) | (refine m00 ?_; (first | refine m52 ?_ | refine m53 ?_ | refine zgv ?_ | refine m47 ?_ | refine m48 ?_ | refine m49 ?_ | refine m50 ?_ | refine v_k ?_ | refine m51 ?_ | fail)) | (refine m22 ?_; (first | refine m26 ?_ | refine m27 ?_ | fail)) | refine m42 ?_ | refine zad ?_ | refine zae ?_ | refine m08 ?_ | refine zao ?_ | refine zbm (by (conv => {lhs; whnf}); done) (by first | rfl | assumption) ?_ | refine m01 ?_ | fail))
 |refine za2 ?_ | refine za3 ?_ | refine za1 ?_
 |(refine za6 ?_; (first | refine za0 ?_ | refine zab ?_ | (refine m06 ?_; (first | refine c_T ?_ | refine c_F ?_ | refine c_P ?_ ?_ | refine c_B ?_ ?_ | fail)) | refine zaz ?_ | refine zaq ?_ | refine zai ?_ | refine b_exit ?_ | fail))
 |refine m21 ?_
 |refine zbb ?_
 |(refine zbd ?_; (first | refine c_call (zvf _ _ _ _ _ _ (by omega) (by omega) (by omega) (by omega) (by omega) (by omega) (by omega) (by omega) (by omega)) (za7.refl _ _) ?_ | fail))
 |refine m05 ?_
 |refine m04 ?_ | refine m02 ?_ | refine m03 ?_ | refine zar ?_
 |intro _)
  all_goals first | refine zan rfl (by simp [mx, mxL, aOf, zb1, zaf]) ?_ | (trace_state; fail)
  all_goals first
    | exact rtF (by unfold zac; omega)
    | exact rtT (by unfold zac; omega)
    | exact rvP (by unfold zac; omega)
theorem znq (H : List (List AV)) (D : AV) (n : Nat) (off rows cols ld : Int) (hD : slen D = some n) (hI : MI n off rows cols ld) :
    zaa Try.prog 56 [mt D off rows cols ld] H (.tup [.int .i64 (sF n off rows cols ld), .int .i64 (sT n off rows cols ld), .bool (decide (zeo n off rows cols ld))]) H := by
  obtain ⟨hn, ho1, ho2, hr1, hr2, hc1, hc2, hl1, hl2⟩ := id hI
  refine .go Try.call56 Try.func56 false [] dOk ?_
  simp only [zbp, Nat.reduceAdd]
  repeat' (first
 |(refine za4 ?_; (first | refine zcm ?_ | refine zay ?_ | refine m13 ?_ | refine m12 ?_ | refine m11 ?_ | (refine m10 ?_; (first | refine zci ?_ | refine zcd ?_ | refine zch ?_ | refine zce ?_ | refine zcg ?_ ?_ | refine zcf ?_ ?_ | refine zcc ?_ ?_ | refine zcb ?_ ?_ | fail)) | (refine m09 ?_; (first | refine zci ?_ | refine zcd ?_ | refine zch ?_ | refine zce ?_ | refine zcg ?_ ?_ | refine zcf ?_ ?_ | refine zcc ?_ ?_ | refine zcb ?_ ?_ | fail)) | refine m38 ?_ | fail))
 |(refine za5 ?_; (first | refine m14 ?_ | (refine m17 ?_; first | refine m19 ?_ | refine m18 ?_) | (refine m07 ?_; (first | refine m15 ?_ | refine m16 ?_ | fail)) | (refine m45 ?_; (first | refine v_w (by first | omega | (simp only [zac, Decidable.not_not] at *; have hh := Int.mul_nonneg (show 0 ≤ cols - 1 by omega) (show 0 ≤ ld by omega); omega)) ?_ | refine zeg (by exact rfl) ?_ | refine v_k ?_ | fail)) | (refine m00 ?_; (first | refine v_w (by first | omega | (simp only [zac, Decidable.not_not] at *; have hh := Int.mul_nonneg (show 0 ≤ cols - 1 by omega) (show 0 ≤ ld by omega); omega)) ?_ | refine m52 ?_ | refine m53 ?_ | refine zgv ?_ | refine m49 ?_ | refine m50 ?_ | refine zdk ?_ | refine zdi ?_ | refine zdj ?_ | refine v_k ?_ | refine m51 ?_ | fail)) | (refine m22 ?_; (first | refine m26 ?_ | refine m27 ?_ | fail)) | refine m42 ?_ | refine zad ?_ | refine zae ?_ | refine m08 ?_ | (refine m20 ?_; (first | refine v_w (by first | omega | (simp only [zac, Decidable.not_not] at *; have hh := Int.mul_nonneg (show 0 ≤ cols - 1 by omega) (show 0 ≤ ld by omega); omega)) ?_ | refine m52 ?_ | refine m53 ?_ | refine zgv ?_ | refine m49 ?_ | refine m50 ?_ | refine zdk ?_ | refine zdi ?_ | refine zdj ?_ | refine v_k ?_ | refine m51 ?_ | fail)) | refine zao ?_ | refine m01 ?_ | fail))
 |(refine zcv ?_; (first | refine m36 ?_ | refine zct ?_ | refine m32 ?_ | refine m31 ?_ | refine m30 ?_ | (refine m28 ?_; (first | refine zca ?_ | refine zb5 ?_ | refine zb9 ?_ | refine zb6 ?_ | refine zb8 ?_ ?_ | refine zb7 ?_ ?_ | refine zb4 ?_ ?_ | refine zb3 ?_ ?_ | fail)) | (refine m29 ?_; (first | refine zca ?_ | refine zb5 ?_ | refine zb9 ?_ | refine zb6 ?_ | refine zb8 ?_ ?_ | refine zb7 ?_ ?_ | refine zb4 ?_ ?_ | refine zb3 ?_ ?_ | fail)) | refine m37 ?_ | fail))
 |(refine zcu ?_; (first | refine zfe ?_ | refine m34 ?_ | refine m35 ?_ | refine m33 ?_ | refine zff ?_ | refine m56 ?_ | refine zcw ?_ | fail))
 |refine za2 ?_ | refine za3 ?_ | refine za1 ?_
 |(refine za6 ?_; (first | refine za0 ?_ | refine zab ?_ | (refine m06 ?_; (first | refine c_T ?_ | refine c_F ?_ | refine c_P ?_ ?_ | refine c_B ?_ ?_ | fail)) | refine zaz ?_ | refine zaq ?_ | refine zai ?_ | refine b_exit ?_ | refine zax [] [] [(0, .lt), (1, .ld true), (2, .lt), (3, .ld true), (4, .lt), (5, .ld true), (6, .lt), (7, .lt), (8, .ld true), (9, .lt), (10, .lt), (11, .lt), (12, .ld true), (13, .lt), (14, .lt), (15, .lt), (16, .lt), (17, .lt)] (by kernel_rfl) ?_ | fail))
 |refine m21 ?_
 |refine zbb ?_
 |(refine zbd ?_; (first | refine c_call (zd1 _ D n off rows cols ld hD hI) (za7.refl _ _) ?_ | fail))
 |refine m05 ?_
 |refine m04 ?_ | refine m02 ?_ | refine m03 ?_ | refine zar ?_
 |intro _)
  all_goals first | refine zan rfl (by simp [mx, mxL, aOf, zb1, zaf]) ?_ | (trace_state; fail)
  all_goals (unfold sF sT; simp only [zaf, List.nil_append, List.cons_append, aOf, zb1])
  all_goals first
    | (have hp : ¬ zeo n off rows cols ld := by (unfold zeo; simp_all)
       rw [if_neg hp, if_neg hp, decide_eq_false hp]; done)
    | (have hp : zeo n off rows cols ld := by (unfold zeo; simp_all)
       rw [if_pos hp, if_pos hp, decide_eq_true hp]; done)
theorem zvp (H : List (List AV)) (Da : AV) (na : Nat) (offa rowsa colsa lda : Int) (hDa : slen Da = some na) (hIa : MI na offa rowsa colsa lda) (Db : AV) (nb : Nat) (offb rowsb colsb ldb : Int) (hDb : slen Db = some nb) (hIb : MI nb offb rowsb colsb ldb) (pe : Bool) (hpe : 0 < na → 0 < nb → ptrEq H Da 0 Db 0 = some pe) :
    zaa Try.prog 34 [mt Da offa rowsa colsa lda, mt Db offb rowsb colsb ldb] H (.bool (decide (zeo na offa rowsa colsa lda ∧ zeo nb offb rowsb colsb ldb ∧ pe = true ∧ sF na offa rowsa colsa lda ≤ sT nb offb rowsb colsb ldb ∧ sF nb offb rowsb colsb ldb ≤ sT na offa rowsa colsa lda))) H := by
  obtain ⟨hna, ho1a, ho2a, hr1a, hr2a, hc1a, hc2a, hl1a, hl2a⟩ := id hIa
  obtain ⟨hnb, ho1b, ho2b, hr1b, hr2b, hc1b, hc2b, hl1b, hl2b⟩ := id hIb
  refine .go Try.call34 Try.func34 false [] dOk ?_
  simp only [zbp, Nat.reduceAdd]
  repeat' (first
 |(refine za4 ?_; (first | refine zcm ?_ | refine zay ?_ | refine m13 ?_ | refine m12 ?_ | refine m11 ?_ | (refine m10 ?_; (first | refine zci ?_ | refine zcd ?_ | refine zch ?_ | refine zce ?_ | refine zcg ?_ ?_ | refine zcf ?_ ?_ | refine zcc ?_ ?_ | refine zcb ?_ ?_ | fail)) | (refine m09 ?_; (first | refine zci ?_ | refine zcd ?_ | refine zch ?_ | refine zce ?_ | refine zcg ?_ ?_ | refine zcf ?_ ?_ | refine zcc ?_ ?_ | refine zcb ?_ ?_ | fail)) | refine m38 ?_ | fail))
 |(refine za5 ?_; (first | refine m14 ?_ | (refine m17 ?_; first | refine m19 ?_ | refine m18 ?_) | (refine m07 ?_; (first | refine m15 ?_ | refine m16 ?_ | fail)) | refine zy8 (by (conv => {lhs; whnf}); done) (by assumption) (zj4 (by assumption)) ?_ | refine z2o (by (conv => {lhs; whnf}); done) (by (conv => {lhs; whnf}); done) (by rw [List.append_nil]; exact hpe (zj4 (by assumption)) (zj4 (by assumption))) ?_ | (refine m45 ?_; (first | refine zeg (by exact rfl) ?_ | refine v_k ?_ | fail)) | (refine m00 ?_; (first | refine m52 ?_ | refine m53 ?_ | refine zgv ?_ | refine m47 ?_ | refine m48 ?_ | refine m49 ?_ | refine m50 ?_ | refine v_k ?_ | refine m51 ?_ | fail)) | (refine m22 ?_; (first | refine m26 ?_ | refine m27 ?_ | fail)) | refine m42 ?_ | refine zad ?_ | refine zae ?_ | refine m08 ?_ | refine zao ?_ | refine m23 ?_ | refine m01 ?_ | fail))
 |(refine zcv ?_; (first | refine m36 ?_ | refine zct ?_ | refine m32 ?_ | refine m31 ?_ | refine m30 ?_ | (refine m28 ?_; (first | refine zca ?_ | refine zb5 ?_ | refine zb9 ?_ | refine zb6 ?_ | refine zb8 ?_ ?_ | refine zb7 ?_ ?_ | refine zb4 ?_ ?_ | refine zb3 ?_ ?_ | fail)) | (refine m29 ?_; (first | refine zca ?_ | refine zb5 ?_ | refine zb9 ?_ | refine zb6 ?_ | refine zb8 ?_ ?_ | refine zb7 ?_ ?_ | refine zb4 ?_ ?_ | refine zb3 ?_ ?_ | fail)) | refine m37 ?_ | fail))
 |(refine zcu ?_; (first | refine zfe ?_ | refine m34 ?_ | refine m35 ?_ | refine m33 ?_ | refine zff ?_ | refine m56 ?_ | refine zcw ?_ | fail))
 |refine za2 ?_ | refine za3 ?_ | refine za1 ?_
 |(refine za6 ?_; (first | refine za0 ?_ | refine zab ?_ | (refine m06 ?_; (first | refine c_T ?_ | refine c_F ?_ | refine c_P ?_ ?_ | refine c_B ?_ ?_ | fail)) | refine zaz ?_ | refine zaq ?_ | refine zai ?_ | refine b_exit ?_ | refine zax [] [] [(0, .lt), (1, .lt), (2, .lt), (3, .lt), (4, .lt), (5, .lt), (6, .ld true), (7, .lt), (8, .lt), (9, .ld true), (10, .lt), (11, .ld true), (12, .lt), (13, .lt), (14, .lt), (15, .lt), (16, .lt), (17, .lt), (18, .lt), (19, .lt), (20, .lt), (21, .lt), (22, .lt), (23, .lt)] (by kernel_rfl) ?_ | fail))
 |refine m21 ?_
 |refine zbb ?_
 |(refine zbd ?_; (first | refine c_call (znq _ Da na offa rowsa colsa lda hDa hIa) (za7.refl _ _) ?_ | refine c_call (znq _ Db nb offb rowsb colsb ldb hDb hIb) (za7.refl _ _) ?_ | fail))
 |refine m05 ?_
 |refine m04 ?_ | refine m02 ?_ | refine m03 ?_ | refine zar ?_
 |intro _)
  all_goals first | refine zan rfl (by simp [mx, mxL, aOf, zb1, zaf]) ?_ | (trace_state; fail)
  all_goals first
    | (refine rtF ?_; first | (simp_all; done) | (simp_all; omega))
    | (refine rvF ?_; first | (simp_all; done) | (simp_all; omega))
    | (refine rtT ?_; first | (simp_all; done) | (simp_all; omega))
    | (refine rvT ?_; first | (simp_all; done) | (simp_all; omega))
    | (refine rvP ?_; first | (simp_all; done) | (simp_all; omega))
theorem zxx (H : List (List AV)) (D : AV) (n : Nat) (off rows cols ld : Int) (hD : slen D = some n) (hI : MI n off rows cols ld) (i j : Int) (hi1 : -9223372036854775808 ≤ i) (hi2 : i ≤ 9223372036854775807) (hj1 : -9223372036854775808 ≤ j) (hj2 : j ≤ 9223372036854775807) :
    zaa Try.prog 81 [mt D off rows cols ld, .int .i64 i, .int .i64 j] H (.int .i64 (plV n off rows cols ld i j)) H := by
  obtain ⟨hn, ho1, ho2, hr1, hr2, hc1, hc2, hl1, hl2⟩ := id hI
  refine .go Try.call81 Try.func81 false [] dOk ?_
  simp only [zbp, Nat.reduceAdd]
  repeat' (first
 |(refine za4 ?_; (first | refine zcm ?_ | refine zay ?_ | refine m13 ?_ | refine m12 ?_ | refine m11 ?_ | (refine m10 ?_; (first | refine zci ?_ | refine zcd ?_ | refine zch ?_ | refine zce ?_ | refine zcg ?_ ?_ | refine zcf ?_ ?_ | refine zcc ?_ ?_ | refine zcb ?_ ?_ | fail)) | (refine m09 ?_; (first | refine zci ?_ | refine zcd ?_ | refine zch ?_ | refine zce ?_ | refine zcg ?_ ?_ | refine zcf ?_ ?_ | refine zcc ?_ ?_ | refine zcb ?_ ?_ | fail)) | refine m38 ?_ | fail))
 |(refine za5 ?_; (first | refine m14 ?_ | (refine m17 ?_; first | refine m19 ?_ | refine m18 ?_) | (refine m07 ?_; (first | refine m15 ?_ | refine m16 ?_ | fail)) | (refine m00 ?_; (first | refine v_w (by have hp := zak (Decidable.not_not.1 (by assumption)) (i := i) (j := j) (by omega) (by omega) (by omega) (by omega); omega) ?_ | refine m47 ?_ | refine m48 ?_ | refine m49 ?_ | refine m50 ?_ | refine zdk ?_ | refine zdi ?_ | refine zdj ?_ | refine v_k ?_ | refine m51 ?_ | fail)) | (refine m22 ?_; (first | refine m26 ?_ | refine m27 ?_ | fail)) | refine m42 ?_ | refine zad ?_ | refine zae ?_ | refine m08 ?_ | (refine m20 ?_; (first | refine v_w (by have hp := zak (Decidable.not_not.1 (by assumption)) (i := i) (j := j) (by omega) (by omega) (by omega) (by omega); omega) ?_ | refine m47 ?_ | refine m48 ?_ | refine m49 ?_ | refine m50 ?_ | refine zdk ?_ | refine zdi ?_ | refine zdj ?_ | refine v_k ?_ | refine m51 ?_ | fail)) | refine zao ?_ | refine m01 ?_ | fail))
 |refine za2 ?_ | refine za3 ?_ | refine za1 ?_
 |(refine za6 ?_; (first | refine za0 ?_ | refine zab ?_ | (refine m06 ?_; (first | refine c_T ?_ | refine c_F ?_ | refine c_P ?_ ?_ | refine c_B ?_ ?_ | fail)) | refine zaz ?_ | refine zaq ?_ | refine zai ?_ | refine b_exit ?_ | fail))
 |refine m21 ?_
 |refine zbb ?_
 |(refine zbd ?_; (first | refine c_call (zd1 _ D n off rows cols ld hD hI) (za7.refl _ _) ?_ | fail))
 |refine m05 ?_
 |refine m04 ?_ | refine m02 ?_ | refine m03 ?_ | refine zar ?_
 |intro _)
  all_goals first | refine zan rfl (by simp [mx, mxL, aOf, zb1, zaf]) ?_ | (trace_state; fail)
  all_goals (unfold plV; simp only [zaf, List.nil_append, List.cons_append, aOf, zb1])
  all_goals first
    | (have hp : ¬ zgc n off rows cols ld i j := by (rintro ⟨h1, h2, h3, h4, h5⟩; first | contradiction | omega)
       rw [if_neg hp]; done)
    | (have hp : zgc n off rows cols ld i j := by (refine ⟨Decidable.not_not.1 (by assumption), ?_, ?_, ?_, ?_⟩ <;> omega)
       rw [if_pos hp]; done)
theorem zkx (H : List (List AV)) (Da : AV) (na : Nat) (offa rowsa colsa lda : Int) (hDa : slen Da = some na) (hIa : MI na offa rowsa colsa lda) (Db : AV) (nb : Nat) (offb rowsb colsb ldb : Int) (hDb : slen Db = some nb) (hIb : MI nb offb rowsb colsb ldb) (hpe : 0 < na → 0 < nb → ptrEq H Da 0 Db 0 = some false) :
    zaa Try.prog 34 [mt Da offa rowsa colsa lda, mt Db offb rowsb colsb ldb] H (.bool false) H := by
  have := zvp H Da na offa rowsa colsa lda hDa hIa Db nb offb rowsb colsb ldb hDb hIb false hpe
  simpa using this
end
theorem zsx (b : Nat) (w : World) : (callFunc 64 #[.float .f64 b]).run Try.prog w = .ok (.value (.int .u64 b)) w := by
  rw [run_callFunc_extern (fn := Try.f64) Try.func64 (by kernel_rfl) (by kernel_rfl) (by kernel_rfl) (e := Extern.MathFloatBits.float64bits) (by kernel_rfl)]
  rfl
theorem zkq (n : Int) (w : World) : (callFunc 121 #[.int .u64 n]).run Try.prog w = .ok (.value (.float .f64 n.toNat)) w := by
  rw [run_callFunc_extern (fn := Try.f121) Try.func121 (by kernel_rfl) (by kernel_rfl) (by kernel_rfl) (e := Extern.MathFloatBits.float64frombits) (by kernel_rfl)]
  rfl
theorem zpf (H : List (List AV)) (b : Nat) : zaa Try.prog 64 [.fraw b] H (.int .u64 b) H := by
  refine .inr ⟨rfl, fun w g cargs h => ?_⟩
  simp only [zba] at h
  obtain ⟨v, r, hv, h1, rfl⟩ := h
  simp only [zaj] at h1
  obtain ⟨rfl, _⟩ := h1
  have : cargs = #[.float .f64 b] := Array.ext' hv
  subst this
  exact ⟨_, zsx b w, by simp [zaj]⟩
theorem zod (H : List (List AV)) (n : Int) (hn : 0 ≤ n ∧ n ≤ 18446744073709551615) : zaa Try.prog 121 [.int .u64 n] H (.fraw n.toNat) H := by
  refine .inr ⟨rfl, fun w g cargs h => ?_⟩
  simp only [zba] at h
  obtain ⟨v, r, hv, h1, rfl⟩ := h
  simp only [zaj] at h1
  subst h1
  have : cargs = #[.int .u64 n] := Array.ext' hv
  subst this
  exact ⟨_, zkq n w, by simp only [zaj]; exact ⟨trivial, by omega⟩⟩
section
attribute [local irreducible] Ex zau exD opX opE zdh zfd zfl Spec zaa Fr zdg zbf zbe ckK zcq zda zbo faK zcz ze4 gK fK rK zgd lpX prK
theorem zxt (H : List (List AV)) (b : Nat) (hb : b < 2 ^ 64) :
    zaa Try.prog 63 [.fraw b] H (.tup [.bool (z4y b), .int .u64 (pM b), .int .i64 (pE b), .int .i64 (pK b)]) H := by
  refine .go Try.call63 Try.func63 false [] dOk ?_
  simp only [zbp, Nat.reduceAdd]
  repeat' (first
 |(refine za4 ?_; (first | refine zcm ?_ | refine zay ?_ | refine m13 ?_ | refine m12 ?_ | refine m11 ?_ | (refine m10 ?_; (first | refine zci ?_ | refine zcd ?_ | refine zch ?_ | refine zce ?_ | refine zcg ?_ ?_ | refine zcf ?_ ?_ | refine zcc ?_ ?_ | refine zcb ?_ ?_ | fail)) | (refine m09 ?_; (first | refine zci ?_ | refine zcd ?_ | refine zch ?_ | refine zce ?_ | refine zcg ?_ ?_ | refine zcf ?_ ?_ | refine zcc ?_ ?_ | refine zcb ?_ ?_ | fail)) | refine m38 ?_ | fail))
 |(refine za5 ?_; (first | refine m14 ?_ | (refine m45 ?_; (first | refine zeg (by exact rfl) ?_ | refine v_k ?_ | fail)) | (refine m00 ?_; (first | refine m52 ?_ | refine m53 ?_ | refine zgv ?_ | refine m49 ?_ | refine m50 ?_ | refine z1v (by omega) (by decide) (by (conv => {lhs; simp [IntKind.bits]}); done) ?_ | refine zsb (by omega) (by omega) ?_ | refine v_k ?_ | refine m51 ?_ | fail)) | (refine m22 ?_; (first | refine m26 ?_ | refine m27 ?_ | fail)) | refine m42 ?_ | refine zad ?_ | refine zae ?_ | refine m08 ?_ | refine zao ?_ | (refine m46 ?_; (first | refine m52 ?_ | refine m53 ?_ | refine zgv ?_ | refine m49 ?_ | refine m50 ?_ | refine z1v (by omega) (by decide) (by (conv => {lhs; simp [IntKind.bits]}); done) ?_ | refine zsb (by omega) (by omega) ?_ | refine v_k ?_ | refine m51 ?_ | fail)) | refine zu4 (by (conv => {lhs; whnf}); done) (by exact rfl) ?_ | refine zpb (by (conv => {lhs; whnf}); done) ?_ | fail))
 |refine za2 ?_ | refine za3 ?_ | refine za1 ?_
 |(refine za6 ?_; (first | refine za0 ?_ | refine zab ?_ | (refine m06 ?_; (first | refine c_T ?_ | refine c_F ?_ | refine c_P ?_ ?_ | refine c_B ?_ ?_ | fail)) | refine zaz ?_ | refine zaq ?_ | refine zai ?_ | refine b_exit ?_ | fail))
 |refine m21 ?_
 |refine zbb ?_
 |(refine zbd ?_; (first | refine c_call (zpf _ _) (za7.refl _ _) ?_ | fail))
 |refine m05 ?_
 |refine m04 ?_ | refine m02 ?_ | refine m03 ?_ | refine zar ?_
 |intro _)
  all_goals first | refine zan rfl (by simp [mx, mxL, aOf, zb1, zaf]) ?_ | (trace_state; fail)
  all_goals (simp only [zaf, List.nil_append, List.cons_append, aOf, zb1, pM, pE, pK, z4y, pE₀, pM₀] at *; simp_all)
end
theorem zkv (b : Nat) : isNaN b = true ↔ 9218868437227405312 < b % 9223372036854775808 := by
  have e1 : Ieee.double.signWeight = 9223372036854775808 := by decide
  have e2 : Ieee.double.binade = 4503599627370496 := by decide
  have e3 : Ieee.double.infRung = 9218868437227405312 := by decide
  unfold isNaN Ieee.Format.read
  simp only [e1, e2, e3]
  split
  · simp [Ieee.Datum.isNaN]; omega
  · split
    · simp [Ieee.Datum.isNaN]; omega
    · split
      · simp [Ieee.Datum.isNaN]; omega
      · simp [Ieee.Datum.isNaN]; omega
theorem zvr (b : Nat) : pK b = 2 ↔ isNaN b = true := by
  rw [zkv]
  unfold pK pE₀ pM₀
  split
  · omega
  · split <;> omega
theorem zm7 : isNaN qn = true := by rw [zkv]; decide
theorem same_iff (b c : Nat) : ((b : Int) = c ∨ (pK b = 2 ∧ pK c = 2)) ↔ cn b = cn c := by
  rw [zvr, zvr]
  rcases zc3 b with ⟨h1, h2⟩ | ⟨h1, h2⟩ <;> rcases zc3 c with ⟨h3, h4⟩ | ⟨h3, h4⟩
  · simp [h1, h2, h3, h4]
  · rw [h2, h4, h1, h3]
    simp only [Bool.false_eq_true, and_false, or_false]
    constructor
    · intro h; have : b = c := by omega
      subst this; rw [h1] at h3; cases h3
    · intro h; rw [← h, zm7] at h3; cases h3
  · rw [h2, h4, h1, h3]
    simp only [Bool.false_eq_true, false_and, or_false]
    constructor
    · intro h; have : b = c := by omega
      subst this; rw [h1] at h3; cases h3
    · intro h; rw [h, zm7] at h1; cases h1
  · rw [h2, h4, h1, h3]
    simp only [Bool.false_eq_true, and_false, or_false]
    omega
section
attribute [local irreducible] Ex zau exD opX opE zdh zfd zfl Spec zaa Fr zdg zbf zbe ckK zcq zda zbo faK zcz ze4 gK fK rK zgd lpX prK
theorem z09 (H : List (List AV)) (x y : Nat) :
    zaa Try.prog 37 [.flt x, .flt y] H (.bool (decide (x = y))) H := by
  refine .mk (fun args w => Try.call37 args w) (Spec.raw2 (fun b c hb hbx hc hcy => Spec.intro' (fn := Try.f37) Try.func37 rfl (by kernel_rfl) (by simp) false [] (draw := zhl Try.prog ⟨false, _, []⟩) dOk ?_))
  simp only [zbp, Nat.reduceAdd]
  repeat' (first
 |(refine za4 ?_; (first | refine zcm ?_ | refine zay ?_ | refine m13 ?_ | refine m12 ?_ | refine m11 ?_ | (refine m10 ?_; (first | refine zci ?_ | refine zcd ?_ | refine zch ?_ | refine zce ?_ | refine zcg ?_ ?_ | refine zcf ?_ ?_ | refine zcc ?_ ?_ | refine zcb ?_ ?_ | fail)) | (refine m09 ?_; (first | refine zci ?_ | refine zcd ?_ | refine zch ?_ | refine zce ?_ | refine zcg ?_ ?_ | refine zcf ?_ ?_ | refine zcc ?_ ?_ | refine zcb ?_ ?_ | fail)) | refine m38 ?_ | fail))
 |(refine za5 ?_; (first | refine m14 ?_ | (refine m45 ?_; (first | refine zeg (by exact rfl) ?_ | refine v_k ?_ | fail)) | (refine m00 ?_; (first | refine m52 ?_ | refine m53 ?_ | refine zgv ?_ | refine m49 ?_ | refine m50 ?_ | refine v_k ?_ | refine m51 ?_ | fail)) | (refine m22 ?_; (first | refine m26 ?_ | refine m27 ?_ | fail)) | refine m42 ?_ | refine zad ?_ | refine zae ?_ | refine m08 ?_ | refine zao ?_ | refine m23 ?_ | fail))
 |refine za2 ?_ | refine za3 ?_ | refine za1 ?_
 |(refine za6 ?_; (first | refine za0 ?_ | refine zab ?_ | (refine m06 ?_; (first | refine c_T ?_ | refine c_F ?_ | refine c_P ?_ ?_ | refine c_B ?_ ?_ | fail)) | refine zaz ?_ | refine zaq ?_ | refine zai ?_ | refine b_exit ?_ | fail))
 |refine m21 ?_
 |refine zbb ?_
 |(refine zbd ?_; (first | refine c_call (zpf _ _) (za7.refl _ _) ?_ | refine c_call (zxt _ _ (by assumption)) (za7.refl _ _) ?_ | fail))
 |refine m05 ?_
 |refine m04 ?_ | refine m02 ?_ | refine m03 ?_ | refine zar ?_
 |intro _)
  all_goals first | refine zan rfl (by simp [mx, mxL, aOf, zb1, zaf]) ?_ | (trace_state; fail)
  all_goals (subst hbx hcy; have hs := same_iff b c)
  all_goals (simp only [zaf, List.nil_append, List.cons_append, aOf, zb1] at *)
  all_goals first
    | (refine rvF ?_; first | (simp_all; done) | (simp_all; omega))
    | (refine rvT ?_; first | (simp_all; done) | (simp_all; omega))
    | (refine rvP ?_; first | (simp_all; done) | (simp_all; omega))
    | trace_state
theorem z2g (H : List (List AV)) (Da : AV) (la : List Nat) (hFa : FL H Da la) (hBa : la.length ≤ 2 ^ 48) (Db : AV) (lb : List Nat) (hFb : FL H Db lb) (hBb : lb.length ≤ 2 ^ 48) :
    zaa Try.prog 14 [Da, Db] H (.bool (decide (la = lb))) H := by
  obtain ⟨N, hN1, hN2, hN3⟩ := zil la lb
  refine .go Try.call14 Try.func14 false [] dOk ?_
  simp only [zbp, Nat.reduceAdd]
  repeat' (first
 |(refine za4 ?_; (first | refine zcm ?_ | refine zay ?_ | fail))
 |(refine za5 ?_; (first | refine m14 ?_ | (refine m07 ?_; (first | refine m15 ?_ | refine m16 ?_ | refine zqm (FL.app hFa _) (by omega) ?_ | refine zqm (FL.app hFb _) (by omega) ?_ | fail)) | refine zkg (by (conv => {lhs; whnf}); done) (by (conv => {lhs; whnf}); done) (by exact hFa.len) (by omega) ?_ | refine zkg (by (conv => {lhs; whnf}); done) (by (conv => {lhs; whnf}); done) (by exact hFb.len) (by omega) ?_ | refine zbm (by (conv => {lhs; whnf}); done) (by exact hFa.len) ?_ | refine zbm (by (conv => {lhs; whnf}); done) (by exact hFb.len) ?_ | (refine m00 ?_; (first | refine m54 ?_ | refine m55 ?_ | refine zck ?_ | refine m47 ?_ | refine m48 ?_ | refine m49 ?_ | refine m50 ?_ | refine zdk ?_ | refine zdi ?_ | refine zdj ?_ | refine v_k ?_ | refine m51 ?_ | fail)) | refine m42 ?_ | refine zad ?_ | refine zae ?_ | refine m08 ?_ | (refine m20 ?_; (first | refine m54 ?_ | refine m55 ?_ | refine zck ?_ | refine m47 ?_ | refine m48 ?_ | refine m49 ?_ | refine m50 ?_ | refine zdk ?_ | refine zdi ?_ | refine zdj ?_ | refine v_k ?_ | refine m51 ?_ | fail)) | refine zao ?_ | refine zbm (by (conv => {lhs; whnf}); done) (by first | rfl | assumption) ?_ | fail))
 |(refine zcv ?_; (first | refine m36 ?_ | refine zct ?_ | fail))
 |(refine zcu ?_; (first | refine zfe ?_ | refine m34 ?_ | refine m35 ?_ | refine m33 ?_ | refine zff ?_ | refine m56 ?_ | refine zcw ?_ | fail))
 |refine za2 ?_ | refine za3 ?_ | refine za1 ?_
 |(refine za6 ?_; (first | refine za0 ?_ | refine zab ?_ | (refine m06 ?_; (first | refine c_T ?_ | refine c_F ?_ | refine c_P ?_ ?_ | refine c_B ?_ ?_ | fail)) | refine zaz ?_ | refine zaq ?_ | refine zai ?_ | refine b_exit ?_ | refine zax [] [] [(0, .lt), (1, .lt), (2, .lt), (3, .ld true), (4, .lt), (5, .lt), (6, .lt), (7, .ld true), (8, .mn true), (9, .lt)] (by kernel_rfl) ?_ | (refine zbc [5, 0, 1] N (fun k => ⟨[(5, .val (.int .i64 (k : Int))), (0, .val Da), (1, .val Db)], [], H ++ []⟩) (by exact rfl) ?_ ?_ <;> (first | intro k hk K hK | intro K) <;> (try dsimp only at *) <;> (try simp only [Int.natCast_add, Int.natCast_one] at *)) | fail))
 |refine m21 ?_
 |refine zbb ?_
 |(refine zbd ?_; (first | refine c_call (z09 _ _ _) (za7.refl _ _) ?_ | fail))
 |refine zbz ?_ | refine zb0 ?_ | refine zby ?_ | refine m57 ?_
 |refine zfn ?_ | refine zfo ?_ | refine zfm ?_
 |(refine zfp (by exact rfl) ?_; first | exact hK | (exfalso; first | omega | (simp_all; done) | (simp_all; omega)))
 |refine m05 ?_
 |refine m04 ?_ | refine m02 ?_ | refine m03 ?_ | refine zar ?_
 |intro _)
  all_goals first | refine zan rfl (by simp [mx, mxL, aOf, zb1, zaf]) ?_ | (trace_state; fail)
  all_goals first
    | (refine rtF (fun h => ?_); subst h; first | contradiction | omega | (simp_all; done))
    | (refine rtT (zob (by omega) (fun k hk => hN2 k (by omega))))
theorem zpr (H H' : List (List AV)) (r c : Nat) (hr : r ≤ 64) (hc : c ≤ 64) (D : AV) (l : List Nat) (hF : FL H D l) (hB : l.length ≤ 2 ^ 30) (m : Nat) (hm : H.length = m) (hH : H ++ [fl (zds r c l)] = H') :
    zaa Try.prog 29 [.int .i64 (r : Int), .int .i64 (c : Int), D] H (mt (.slm m (r * c) 0 (r * c) 1) 0 r c ((max r 1 : Nat) : Int)) H' := by
  subst hH hm
  obtain ⟨D', hs, hF'⟩ := hF.slc (Nat.zero_le (min l.length (r * c))) (Nat.min_le_left _ _)
  simp only [List.drop_zero, Nat.sub_zero] at hF'
  have hql : (l.take (min l.length (r * c))).length = min l.length (r * c) := by rw [List.length_take]; omega
  have hrc : r * c ≤ 4096 := by have := Nat.mul_le_mul hr hc; omega
  have hmin : min (l.length : Int) ((r * c : Nat) : Int) = ((min l.length (r * c) : Nat) : Int) := by omega
  have hmax : max (r : Int) 1 = ((max r 1 : Nat) : Int) := by omega
  have hmax2 : max r 1 ≤ 64 := by omega
  have hdiv : ∀ k, k < r * c → 0 < c ∧ k / c ≤ 4096 ∧ k % c ≤ 64 ∧ k % c * max r 1 ≤ 4096 ∧ k / c + k % c * max r 1 < r * c := fun k hk => by
    have hc0 : 0 < c := by rcases Nat.eq_zero_or_pos c with h0 | h0; · subst h0; simp at hk
                           · exact h0
    have h1 := Nat.div_le_self k c
    have h2 := Nat.mod_lt k hc0
    have h3 := zzs hk
    unfold dIx at h3
    exact ⟨hc0, by omega, by omega, by have := Nat.mul_le_mul (show k % c ≤ 64 by omega) hmax2; omega, h3⟩
  generalize hl' : l.take (min l.length (r * c)) = l' at hF' hql
  have hH0 : fl (List.replicate (r * c) 0) = fl (zes r c l' 0) := rfl
  have hdl : zds r c l = zes r c l' (min l.length (r * c)) := by rw [zds, hl']
  refine .go Try.call29 Try.func29 false [] dOk ?_
  simp only [zbp, Nat.reduceAdd]
  repeat' (first
 |(refine za4 ?_; (first | refine zcm ?_ | refine zay ?_ | refine m13 ?_ | refine m12 ?_ | refine m11 ?_ | (refine m10 ?_; (first | refine zci ?_ | refine zcd ?_ | refine zch ?_ | refine zce ?_ | refine zcg ?_ ?_ | refine zcf ?_ ?_ | refine zcc ?_ ?_ | refine zcb ?_ ?_ | fail)) | (refine m09 ?_; (first | refine zci ?_ | refine zcd ?_ | refine zch ?_ | refine zce ?_ | refine zcg ?_ ?_ | refine zcf ?_ ?_ | refine zcc ?_ ?_ | refine zcb ?_ ?_ | fail)) | refine m38 ?_ | fail))
 |(refine za5 ?_; (first | refine m41 ?_ | refine zbj ?_ | refine m14 ?_ | (refine m17 ?_; first | refine m19 ?_ | refine m18 ?_) | (refine m07 ?_; (first | refine m15 ?_ | refine m16 ?_ | refine zqm (FL.app hF' _) (by omega) ?_ | fail)) | refine zkg (by (conv => {lhs; whnf}); done) (by (conv => {lhs; whnf}); done) (by exact hF'.len) (by omega) ?_ | refine zkg (by (conv => {lhs; whnf}); done) (by (conv => {lhs; whnf}); done) (by exact rfl) (by (have hd := hdiv k (by omega); omega)) ?_ | refine zbm (by (conv => {lhs; whnf}); done) (by exact hF.len) ?_ | refine zbm (by (conv => {lhs; whnf}); done) (by exact hF'.len.trans (congrArg some hql)) ?_ | refine z2l (by (conv => {lhs; whnf}); done) (by (conv => {lhs; whnf}); done) (by exact rfl) (by (conv => {lhs; whnf}); done) (by (conv => {lhs; simp only [List.nil_append, List.cons_append]}); done) (by exact rfl) (by omega) ?_ | refine zsr (by (conv => {lhs; whnf}); done) (by exact hF.len) (by (conv => {lhs; whnf}); done) (by (conv => {lhs; whnf}); done) (by omega) (by exact hs) ?_ | refine z2p (by (conv => {lhs; whnf}); done) (by (conv => {lhs; whnf}); done) (by exact rfl) (by exact rfl) (by simp) (by simp; (have hd := hdiv k (by omega); omega)) (m' := zes r c l' (k + 1)) (by rw [Nat.zero_add]; rfl) (by (conv => {lhs; simp only [List.set_cons_zero, List.set_cons_succ]}); done) ?_ | (refine m00 ?_; (first | refine z1q (by first | omega | (have hd := hdiv k (by omega); omega)) ?_ | refine z1t (by first | omega | (have hd := hdiv k (by omega); omega)) ?_ | refine z1u (by first | omega | (have hd := hdiv k (by omega); omega)) (by omega) ?_ | refine z1s (by first | omega | (have hd := hdiv k (by omega); omega)) ?_ | refine m47 ?_ | refine m48 ?_ | refine m49 ?_ | refine m50 ?_ | refine zsb (by omega) (by omega) ?_ | refine zyi (by omega) (by omega) ?_ | refine v_k ?_ | refine m51 ?_ | fail)) | (refine m22 ?_; (first | refine m26 ?_ | refine m27 ?_ | fail)) | refine m08 ?_ | refine zbm (by (conv => {lhs; whnf}); done) (by first | rfl | assumption) ?_ | refine m25 ?_ | refine m24 ?_ | refine zco ?_ | refine zu6 (by first | (conv => {lhs; whnf}; done) | exact (by exact rfl) | fail) (by first | (conv => {lhs; whnf}; done) | exact (by exact rfl) | fail) (by first | assumption | exact rfl) ?_ | refine zu7 (by first | (conv => {lhs; whnf}; done) | exact (by exact rfl) | fail) (by first | (conv => {lhs; whnf}; done) | exact (by exact rfl) | fail) (by first | assumption | exact rfl) ?_ | fail))
 |(refine zcv ?_; (first | refine m36 ?_ | refine zct ?_ | refine m32 ?_ | refine m31 ?_ | refine m30 ?_ | (refine m28 ?_; (first | refine zca ?_ | refine zb5 ?_ | refine zb9 ?_ | refine zb6 ?_ | refine zb8 ?_ ?_ | refine zb7 ?_ ?_ | refine zb4 ?_ ?_ | refine zb3 ?_ ?_ | fail)) | (refine m29 ?_; (first | refine zca ?_ | refine zb5 ?_ | refine zb9 ?_ | refine zb6 ?_ | refine zb8 ?_ ?_ | refine zb7 ?_ ?_ | refine zb4 ?_ ?_ | refine zb3 ?_ ?_ | fail)) | refine m37 ?_ | fail))
 |(refine zcu ?_; (first | refine zfe ?_ | refine zh6 ?_ | refine zh7 (by (conv => {lhs; whnf}); done) ?_ | refine zh8 ?_ | refine zh5 (by exact rfl) (by exact rfl) ?_ | refine m34 ?_ | refine m35 ?_ | refine m33 ?_ | refine zff ?_ | refine m56 ?_ | refine zcw ?_ | refine zdr (by exact rfl) ?_ | fail))
 |refine za2 ?_ | refine za3 ?_ | refine za1 ?_
 |(refine za6 ?_; (first | refine za0 ?_ | refine zab ?_ | (refine m06 ?_; (first | refine c_T ?_ | refine c_F ?_ | refine c_P ?_ ?_ | refine c_B ?_ ?_ | fail)) | refine zaz ?_ | refine zaq ?_ | refine zai ?_ | refine b_exit ?_ | refine zax (id := 7) [] [14] [(0, .lt), (1, .ld true), (2, .lt), (3, .lt), (4, .lt), (5, .lt), (6, .lt), (7, .lt), (8, .lt), (9, .ld true), (10, .lt), (11, .lt), (12, .lt), (13, .lt), (14, .mn false)] (by kernel_rfl) ?_ | (refine zbc [43, 41, 42, 1, 7, 6] (min l.length (r * c)) (fun k => ⟨[(43, .val (.int .i64 (k : Int))), (41, .val D'), (42, .val (.int .i64 ((min l.length (r * c) : Nat) : Int))), (1, .val (.int .i64 (c : Int))), (7, .loc 7 0), (6, .loc 6 0)], [(7, [.slm (H.length + 0) (r * c) 0 (r * c) 1, .int .i64 0, .int .i64 (r : Int), .int .i64 (c : Int), .int .i64 ((max r 1 : Nat) : Int)]), (6, [.slnil, .int .i64 0, .int .i64 0, .int .i64 0, .int .i64 0])], H ++ [fl (zes r c l' k)]⟩) (by exact rfl) ?_ ?_ <;> (first | intro k hk K hK | intro K) <;> (try dsimp only at *) <;> (try simp only [Int.natCast_add, Int.natCast_one] at *)) | fail))
 |refine m58 ?_
 |refine zdu ?_
 |refine zbz ?_ | refine zb0 ?_ | refine zby ?_ | refine m57 ?_
 |refine zfn ?_ | refine zfo ?_ | refine zfm ?_
 |(refine zfp (by exact rfl) ?_; first | exact hK | (exfalso; first | omega | (simp_all; done) | (simp_all; omega)))
 |refine m05 ?_
 |refine m04 ?_ | refine m02 ?_ | refine m03 ?_ | refine zar ?_
 |intro _)
  all_goals first
    | (rw [hdl]; exact z08 (j := 0) (cs := fl (zes r c l' (min l.length (r * c)))) rfl rfl (by rw [zbs]; exact Nat.zero_le _) (Fr.agg (Frs.cons (Fr.kp (j := 0) (cs := fl (zes r c l' (min l.length (r * c)))) rfl (zbg rfl rfl) (by simp)) (Frs.old (by simp [mxL, mx])))))
end
theorem zyw (H : List (List AV)) (Da : AV) (la : List Nat) (hFa : FL H Da la) (hBa : la.length ≤ 2 ^ 48) (Db : AV) (lb : List Nat) (hFb : FL H Db lb) (h : la = lb) : zaa Try.prog 14 [Da, Db] H (.bool true) H := by
  have := z2g H Da la hFa hBa Db lb hFb (by rw [← h]; exact hBa)
  rwa [decide_eq_true h] at this
section
attribute [local irreducible] Ex zau exD opX opE zdh zfd zfl Spec zaa Fr zdg zbf zbe ckK zcq zda zbo faK zcz ze4 gK fK rK zgd lpX prK
theorem z0n (H : List (List AV)) (x : Nat) :
    zaa Try.prog 111 [.flt x] H (.flt (zsm x)) H := by
  refine .mk (fun args w => Try.call111 args w) (Spec.raw1 (fun b hb hbx => Spec.intro' (fn := Try.f111) Try.func111 rfl (by kernel_rfl) (by simp) false [] (draw := zhl Try.prog ⟨false, _, []⟩) dOk ?_))
  simp only [zbp, Nat.reduceAdd]
  repeat' (first
 |(refine za4 ?_; (first | refine zcm ?_ | refine zay ?_ | fail))
 |(refine za5 ?_; (first | refine m14 ?_ | (refine m00 ?_; (first | refine z1r (by assumption) ?_ | refine m49 ?_ | refine m50 ?_ | refine v_k ?_ | refine m51 ?_ | fail)) | refine m42 ?_ | refine zad ?_ | refine zae ?_ | refine m08 ?_ | refine zao ?_ | fail))
 |refine za2 ?_ | refine za3 ?_ | refine za1 ?_
 |(refine za6 ?_; (first | refine za0 ?_ | refine zab ?_ | (refine m06 ?_; (first | refine c_T ?_ | refine c_F ?_ | refine c_P ?_ ?_ | refine c_B ?_ ?_ | fail)) | refine zaz ?_ | refine zaq ?_ | refine zai ?_ | refine b_exit ?_ | fail))
 |refine m21 ?_
 |refine zbb ?_
 |(refine zbd ?_; (first | refine cA (zpf _ _) ?_ | refine cA (zod _ _ (by omega)) ?_ | fail))
 |refine m05 ?_
 |refine m04 ?_ | refine m02 ?_ | refine m03 ?_ | refine zar ?_
 |intro _)
  all_goals first
    | (refine zmi rfl ?_; subst hbx; rw [zv2]; exact Fr.raw _)
theorem zhx (H : List (List AV)) (D : AV) (l : List Nat) (hF : FL H D l) (off n inc : Int) (hI : VI l.length off n inc) :
    zaa Try.prog 82 [vt D off n inc] H (.bool (decide (zal l.length off n inc))) H := by
  obtain ⟨hm, ho1, ho2, hn1, hn2, hi1, hi2⟩ := id hI
  refine .go Try.call82 Try.func82 false [] dOk ?_
  simp only [zbp, Nat.reduceAdd]
  repeat' (first
 |(refine za4 ?_; (first | refine zcm ?_ | refine zay ?_ | refine m13 ?_ | refine m12 ?_ | refine m11 ?_ | (refine m10 ?_; (first | refine zci ?_ | refine zcd ?_ | refine zch ?_ | refine zce ?_ | refine zcg ?_ ?_ | refine zcf ?_ ?_ | refine zcc ?_ ?_ | refine zcb ?_ ?_ | fail)) | (refine m09 ?_; (first | refine zci ?_ | refine zcd ?_ | refine zch ?_ | refine zce ?_ | refine zcg ?_ ?_ | refine zcf ?_ ?_ | refine zcc ?_ ?_ | refine zcb ?_ ?_ | fail)) | refine m38 ?_ | fail))
 |(refine za5 ?_; (first | refine m14 ?_ | (refine m17 ?_; first | refine m19 ?_ | refine m18 ?_) | (refine m07 ?_; (first | refine m15 ?_ | refine m16 ?_ | fail)) | refine zbm (by (conv => {lhs; whnf}); done) (by exact hF.len) ?_ | (refine m45 ?_; (first | refine zeg (by exact rfl) ?_ | refine v_k ?_ | fail)) | (refine m00 ?_; (first | refine m52 ?_ | refine m53 ?_ | refine zgv ?_ | refine m47 ?_ | refine m48 ?_ | refine m49 ?_ | refine m50 ?_ | refine v_k ?_ | refine m51 ?_ | fail)) | (refine m22 ?_; (first | refine m26 ?_ | refine m27 ?_ | fail)) | refine m42 ?_ | refine zad ?_ | refine zae ?_ | refine m08 ?_ | refine zao ?_ | refine zbm (by (conv => {lhs; whnf}); done) (by first | rfl | assumption) ?_ | refine m01 ?_ | fail))
 |refine za2 ?_ | refine za3 ?_ | refine za1 ?_
 |(refine za6 ?_; (first | refine za0 ?_ | refine zab ?_ | (refine m06 ?_; (first | refine c_T ?_ | refine c_F ?_ | refine c_P ?_ ?_ | refine c_B ?_ ?_ | fail)) | refine zaz ?_ | refine zaq ?_ | refine zai ?_ | refine b_exit ?_ | fail))
 |refine m43 ?_
 |refine zcs ?_
 |refine m21 ?_
 |refine zbb ?_
 |(refine zbd ?_; (first | refine cA (zvf _ _ _ _ _ _ (by omega) (by omega) (by omega) (by omega) (by omega) (by omega) (by omega) (by omega) (by omega)) ?_ | fail))
 |refine m05 ?_
 |refine m04 ?_ | refine m02 ?_ | refine m03 ?_ | refine zar ?_
 |intro _)
  all_goals first | refine zan rfl (by simp [mx, mxL, aOf, zb1, zaf]) ?_ | (trace_state; fail)
  all_goals first
    | exact rtF (by unfold zal; omega)
    | exact rtT (by unfold zal; omega)
    | exact rvP (by unfold zal; omega)
theorem z4o (H : List (List AV)) (D : AV) (l : List Nat) (hF : FL H D l) (off n inc : Int) (hI : VI l.length off n inc) (hR : zal l.length off n inc) (i : Int) (hi0 : 0 ≤ i) (hi9 : i < n) :
    zaa Try.prog 112 [vt D off n inc, .int .i64 i] H (.flt (l.getD (off + i * inc).toNat 0)) H := by
  obtain ⟨hm, ho1, ho2, hn1, hn2, hi1, hi2⟩ := id hI
  have hr := zbv hR hi0 hi9
  refine .go Try.call112 Try.func112 false [] dOk ?_
  simp only [zbp, Nat.reduceAdd]
  repeat' (first
 |(refine za4 ?_; (first | refine zcm ?_ | refine zay ?_ | fail))
 |(refine za5 ?_; (first | refine m14 ?_ | (refine m17 ?_; first | refine m19 ?_ | refine m18 ?_) | (refine m07 ?_; (first | refine m15 ?_ | refine m16 ?_ | refine zqm (FL.app hF _) (by omega) ?_ | fail)) | refine zpd (by (conv => {lhs; whnf}); done) (by (conv => {lhs; whnf}); done) (by exact hF.len) (by omega) ?_ | (refine m00 ?_; (first | refine m49 ?_ | refine m49 ?_ | refine m50 ?_ | refine v_k ?_ | refine m51 ?_ | fail)) | refine m42 ?_ | refine zad ?_ | refine zae ?_ | refine m08 ?_ | refine m01 ?_ | fail))
 |refine za2 ?_ | refine za3 ?_ | refine za1 ?_
 |(refine za6 ?_; (first | refine za0 ?_ | refine zab ?_ | (refine m06 ?_; (first | refine c_T ?_ | refine c_F ?_ | refine c_P ?_ ?_ | refine c_B ?_ ?_ | fail)) | refine zaz ?_ | refine zaq ?_ | refine zai ?_ | refine b_exit ?_ | fail))
 |refine m05 ?_
 |refine m04 ?_ | refine m02 ?_ | refine m03 ?_ | refine zar ?_
 |intro _)
  all_goals first | refine zan rfl (by simp [mx, mxL, aOf, zb1, zaf]) ?_ | (trace_state; fail)
  all_goals exact rfl
theorem zpo (H : List (List AV)) (D : AV) (l : List Nat) (hF : FL H D l) (off rows cols ld : Int) (hI : MI l.length off rows cols ld) (hG : zac l.length off rows cols ld) (j : Int) (hj : 0 ≤ j) (hj' : j < cols) :
    zaa Try.prog 57 [mt D off rows cols ld, .int .i64 j] H (vt D (zcj off rows ld j) rows 1) H := by
  obtain ⟨hn, ho1, ho2, hr1, hr2, hc1, hc2, hl1, hl2⟩ := id hI
  refine .go Try.call57 Try.func57 false [] dOk ?_
  simp only [zbp, Nat.reduceAdd]
  repeat' (first
 |(refine za4 ?_; (first | refine zcm ?_ | refine zay ?_ | refine m13 ?_ | refine m12 ?_ | refine m11 ?_ | (refine m10 ?_; (first | refine zci ?_ | refine zcd ?_ | refine zch ?_ | refine zce ?_ | refine zcg ?_ ?_ | refine zcf ?_ ?_ | refine zcc ?_ ?_ | refine zcb ?_ ?_ | fail)) | (refine m09 ?_; (first | refine zci ?_ | refine zcd ?_ | refine zch ?_ | refine zce ?_ | refine zcg ?_ ?_ | refine zcf ?_ ?_ | refine zcc ?_ ?_ | refine zcb ?_ ?_ | fail)) | refine m38 ?_ | fail))
 |(refine za5 ?_; (first | refine m14 ?_ | (refine m17 ?_; first | refine m19 ?_ | refine m18 ?_) | (refine m07 ?_; (first | refine m15 ?_ | refine m16 ?_ | fail)) | (refine m00 ?_; (first | refine v_w (by first | omega | (have hp := zak hG (i := 0) (j := j) (by omega) (by omega) (by omega) (by omega); omega) | fail) ?_ | refine m47 ?_ | refine m48 ?_ | refine m49 ?_ | refine m50 ?_ | refine zdk ?_ | refine zdi ?_ | refine zdj ?_ | refine v_k ?_ | refine m51 ?_ | fail)) | (refine m22 ?_; (first | refine m26 ?_ | refine m27 ?_ | fail)) | (refine m20 ?_; (first | refine v_w (by first | omega | (have hp := zak hG (i := 0) (j := j) (by omega) (by omega) (by omega) (by omega); omega) | fail) ?_ | refine m47 ?_ | refine m48 ?_ | refine m49 ?_ | refine m50 ?_ | refine zdk ?_ | refine zdi ?_ | refine zdj ?_ | refine v_k ?_ | refine m51 ?_ | fail)) | refine zao ?_ | refine m25 ?_ | refine m01 ?_ | refine m24 ?_ | refine zco ?_ | fail))
 |refine za2 ?_ | refine za3 ?_ | refine za1 ?_
 |(refine za6 ?_; (first | refine za0 ?_ | refine zab ?_ | (refine m06 ?_; (first | refine c_T ?_ | refine c_F ?_ | refine c_P ?_ ?_ | refine c_B ?_ ?_ | fail)) | refine zaz ?_ | refine zaq ?_ | refine zai ?_ | refine b_exit ?_ | fail))
 |refine m21 ?_
 |refine zbb ?_
 |(refine zbd ?_; (first | refine cA (zd1 _ D l.length off rows cols ld hF.len hI) ?_ | fail))
 |refine m58 ?_
 |refine zdu ?_
 |refine m05 ?_
 |refine m04 ?_ | refine m02 ?_ | refine m03 ?_ | refine zar ?_
 |intro _)
  all_goals first
    | (exfalso; contradiction)
    | (exfalso; omega)
    | (refine zan rfl (by have := hF.mx; simp [mx, mxL, zaf, aOf, zb1]; omega) ?_; first | (unfold zcj; rw [if_pos (by omega)]; exact rfl) | (unfold zcj; rw [if_neg (by omega)]; exact rfl) | (unfold zrm; rw [if_pos (by omega)]; exact rfl) | (unfold zrm; rw [if_neg (by omega)]; exact rfl) | fail)
theorem z06 (H : List (List AV)) (D : AV) (l : List Nat) (hF : FL H D l) (off rows cols ld : Int) (hI : MI l.length off rows cols ld) (hG : zac l.length off rows cols ld) (i : Int) (hi : 0 ≤ i) (hi' : i < rows) :
    zaa Try.prog 114 [mt D off rows cols ld, .int .i64 i] H (vt D (zrm off cols i) cols ld) H := by
  obtain ⟨hn, ho1, ho2, hr1, hr2, hc1, hc2, hl1, hl2⟩ := id hI
  refine .go Try.call114 Try.func114 false [] dOk ?_
  simp only [zbp, Nat.reduceAdd]
  repeat' (first
 |(refine za4 ?_; (first | refine zcm ?_ | refine zay ?_ | refine m13 ?_ | refine m12 ?_ | refine m11 ?_ | (refine m10 ?_; (first | refine zci ?_ | refine zcd ?_ | refine zch ?_ | refine zce ?_ | refine zcg ?_ ?_ | refine zcf ?_ ?_ | refine zcc ?_ ?_ | refine zcb ?_ ?_ | fail)) | (refine m09 ?_; (first | refine zci ?_ | refine zcd ?_ | refine zch ?_ | refine zce ?_ | refine zcg ?_ ?_ | refine zcf ?_ ?_ | refine zcc ?_ ?_ | refine zcb ?_ ?_ | fail)) | refine m38 ?_ | fail))
 |(refine za5 ?_; (first | refine m14 ?_ | (refine m17 ?_; first | refine m19 ?_ | refine m18 ?_) | (refine m07 ?_; (first | refine m15 ?_ | refine m16 ?_ | fail)) | (refine m00 ?_; (first | refine v_w (by first | omega | (have hp := zak hG (i := i) (j := 0) (by omega) (by omega) (by omega) (by omega); omega) | fail) ?_ | refine m47 ?_ | refine m48 ?_ | refine m49 ?_ | refine m50 ?_ | refine zdk ?_ | refine zdi ?_ | refine zdj ?_ | refine v_k ?_ | refine m51 ?_ | fail)) | (refine m22 ?_; (first | refine m26 ?_ | refine m27 ?_ | fail)) | (refine m20 ?_; (first | refine v_w (by first | omega | (have hp := zak hG (i := i) (j := 0) (by omega) (by omega) (by omega) (by omega); omega) | fail) ?_ | refine m47 ?_ | refine m48 ?_ | refine m49 ?_ | refine m50 ?_ | refine zdk ?_ | refine zdi ?_ | refine zdj ?_ | refine v_k ?_ | refine m51 ?_ | fail)) | refine zao ?_ | refine m25 ?_ | refine m01 ?_ | refine m24 ?_ | refine zco ?_ | fail))
 |refine za2 ?_ | refine za3 ?_ | refine za1 ?_
 |(refine za6 ?_; (first | refine za0 ?_ | refine zab ?_ | (refine m06 ?_; (first | refine c_T ?_ | refine c_F ?_ | refine c_P ?_ ?_ | refine c_B ?_ ?_ | fail)) | refine zaz ?_ | refine zaq ?_ | refine zai ?_ | refine b_exit ?_ | fail))
 |refine m21 ?_
 |refine zbb ?_
 |(refine zbd ?_; (first | refine cA (zd1 _ D l.length off rows cols ld hF.len hI) ?_ | fail))
 |refine m58 ?_
 |refine zdu ?_
 |refine m05 ?_
 |refine m04 ?_ | refine m02 ?_ | refine m03 ?_ | refine zar ?_
 |intro _)
  all_goals first
    | (exfalso; contradiction)
    | (exfalso; omega)
    | (refine zan rfl (by have := hF.mx; simp [mx, mxL, zaf, aOf, zb1]; omega) ?_; first | (unfold zcj; rw [if_pos (by omega)]; exact rfl) | (unfold zcj; rw [if_neg (by omega)]; exact rfl) | (unfold zrm; rw [if_pos (by omega)]; exact rfl) | (unfold zrm; rw [if_neg (by omega)]; exact rfl) | fail)
theorem ztw (H : List (List AV)) (D : AV) (l : List Nat) (hF : FL H D l) (off rows cols ld : Int) (hI : MI l.length off rows cols ld) :
    zaa Try.prog 19 [mt D off rows cols ld] H (.bool (decide (1000 < (l.length : Int) ∨ 20 < rows ∨ 20 < cols))) H := by
  obtain ⟨hn, ho1, ho2, hr1, hr2, hc1, hc2, hl1, hl2⟩ := id hI
  refine .go Try.call19 Try.func19 false [] dOk ?_
  simp only [zbp, Nat.reduceAdd]
  repeat' (first
 |(refine za4 ?_; (first | refine zcm ?_ | refine zay ?_ | refine m13 ?_ | refine m12 ?_ | refine m11 ?_ | (refine m10 ?_; (first | refine zci ?_ | refine zcd ?_ | refine zch ?_ | refine zce ?_ | refine zcg ?_ ?_ | refine zcf ?_ ?_ | refine zcc ?_ ?_ | refine zcb ?_ ?_ | fail)) | (refine m09 ?_; (first | refine zci ?_ | refine zcd ?_ | refine zch ?_ | refine zce ?_ | refine zcg ?_ ?_ | refine zcf ?_ ?_ | refine zcc ?_ ?_ | refine zcb ?_ ?_ | fail)) | refine m38 ?_ | fail))
 |(refine za5 ?_; (first | refine m14 ?_ | (refine m17 ?_; first | refine m19 ?_ | refine m18 ?_) | (refine m07 ?_; (first | refine m15 ?_ | refine m16 ?_ | fail)) | refine zbm (by (conv => {lhs; whnf}); done) (by exact hF.len) ?_ | (refine m00 ?_; (first | refine m47 ?_ | refine m48 ?_ | refine m49 ?_ | refine m50 ?_ | refine v_k ?_ | refine m51 ?_ | fail)) | (refine m22 ?_; (first | refine m26 ?_ | refine m27 ?_ | fail)) | refine m42 ?_ | refine zad ?_ | refine zae ?_ | refine m08 ?_ | refine zbm (by (conv => {lhs; whnf}); done) (by first | rfl | assumption) ?_ | refine m01 ?_ | fail))
 |refine za2 ?_ | refine za3 ?_ | refine za1 ?_
 |(refine za6 ?_; (first | refine za0 ?_ | refine zab ?_ | (refine m06 ?_; (first | refine c_T ?_ | refine c_F ?_ | refine c_P ?_ ?_ | refine c_B ?_ ?_ | fail)) | refine zaz ?_ | refine zaq ?_ | refine zai ?_ | refine b_exit ?_ | fail))
 |refine m05 ?_
 |refine m04 ?_ | refine m02 ?_ | refine m03 ?_ | refine zar ?_
 |intro _)
  all_goals first | refine zan rfl (by simp [mx, mxL, aOf, zb1, zaf]) ?_ | (trace_state; fail)
  all_goals first
    | exact rtF (by omega)
    | exact rtT (by omega)
    | exact rvT (by omega)
    | exact rvP (by omega)
theorem zk2 (H : List (List AV)) (D : AV) (l : List Nat) (hF : FL H D l) (off rows cols ld : Int) (hI : MI l.length off rows cols ld) (hG : zac l.length off rows cols ld) (hr : rows ≤ 1000) (hc : cols ≤ 1000) :
    zaa Try.prog 28 [mt D off rows cols ld] H (.sl none (rows.toNat * cols.toNat) (fl (cmA (mel l off ld) rows.toNat cols.toNat))) H := by
  obtain ⟨r, rfl⟩ : ∃ r : Nat, rows = (r : Int) := ⟨rows.toNat, by have := hG.1; omega⟩
  obtain ⟨c, rfl⟩ : ∃ c : Nat, cols = (c : Int) := ⟨cols.toNat, by have := hG.2.1; omega⟩
  simp only [Int.toNat_natCast]
  obtain ⟨hn, ho1, ho2, hr1, hr2, hc1, hc2, hl1, hl2⟩ := id hI
  have hrc : c * r ≤ 1000000 := by (have := Nat.mul_le_mul (show c ≤ 1000 by omega) (show r ≤ 1000 by omega); omega)
  have hcO : ∀ k : Nat, 0 < r → zcj off (r : Int) ld (k : Int) = off + (k : Int) * ld := fun k h => by (unfold zcj; exact if_pos (by omega))
  have hx : ∀ k j, k < c → j < r → l.getD (zcj off (r : Int) ld (k : Int) + (j : Int)).toNat 0 = (fun n => mel l off ld (n % r) (n / r)) (k * r + j) := fun k j hk hj => by
    simp only [zm9 hj, zm8 hj, mel, hcO k (by omega)]
    congr 2; omega
  refine .go Try.call28 Try.func28 false [40] dOk ?_
  simp only [zbp, Nat.reduceAdd]
  repeat' (first
 |(refine za4 ?_; (first | refine zcm ?_ | refine zay ?_ | fail))
 |(refine za5 ?_; (first | refine m41 ?_ | refine zbj ?_ | refine m14 ?_ | (refine m17 ?_; first | refine m19 ?_ | refine m18 ?_) | (refine m07 ?_; (first | refine m15 ?_ | refine m16 ?_ | refine zqm (FL.app hF _) (by first | omega | (have hp := zak hG (i := (j : Int)) (j := (k : Int)) (by omega) (by omega) (by omega) (by omega); have hco := hcO k (by omega); omega) | fail) ?_ | fail)) | refine zpd (by (conv => {lhs; whnf}); done) (by (conv => {lhs; whnf}); done) (by exact hF.len) (by first | omega | (have hp := zak hG (i := (j : Int)) (j := (k : Int)) (by omega) (by omega) (by omega) (by omega); have hco := hcO k (by omega); omega) | fail) ?_ | refine zu5 (i := 0) (N₀ := []) (by (conv => {lhs; whnf}); done) (by (conv => {lhs; whnf}); done) (by exact rfl) (by exact rfl) (by simp) (by have := zw9 hk hj; omega) (by exact rfl) (by exact rfl) (l' := fl (rml (fun n => mel l off ld (n % r) (n / r)) (k * r + j + 1))) (by rw [hx k j hk hj]; exact zvv (fun n => mel l off ld (n % r) (n / r)) _) ?_ | (refine m00 ?_; (first | refine v_w (by first | omega | (have hp := zak hG (i := (j : Int)) (j := (k : Int)) (by omega) (by omega) (by omega) (by omega); have hco := hcO k (by omega); omega) | fail) ?_ | refine m47 ?_ | refine m48 ?_ | refine m49 ?_ | refine m50 ?_ | refine zdk ?_ | refine zdi ?_ | refine zdj ?_ | refine v_k ?_ | refine m51 ?_ | fail)) | refine m42 ?_ | refine zad ?_ | refine zae ?_ | refine m08 ?_ | (refine m20 ?_; (first | refine v_w (by first | omega | (have hp := zak hG (i := (j : Int)) (j := (k : Int)) (by omega) (by omega) (by omega) (by omega); have hco := hcO k (by omega); omega) | fail) ?_ | refine m47 ?_ | refine m48 ?_ | refine m49 ?_ | refine m50 ?_ | refine zdk ?_ | refine zdi ?_ | refine zdj ?_ | refine v_k ?_ | refine m51 ?_ | fail)) | refine zao ?_ | refine m23 ?_ | refine m25 ?_ | refine m01 ?_ | refine m24 ?_ | refine zgg (by exact rfl) (by exact rfl) (by decide) ?_ | fail))
 |refine za2 ?_ | refine za3 ?_ | refine za1 ?_
 |(refine za6 ?_; (first | refine za0 ?_ | refine zab ?_ | (refine m06 ?_; (first | refine c_T ?_ | refine c_F ?_ | refine c_P ?_ ?_ | refine c_B ?_ ?_ | fail)) | refine zaz ?_ | refine zaq ?_ | refine zai ?_ | refine b_exit ?_ | (refine zbc [28, 27, 20, 19, 1, 6, 8] r (fun j => ⟨[(28, .val (.int .i64 (j : Int))), (27, .val (.int .i64 (r : Int))), (20, .val (.int .i64 (k : Int))), (19, .val (.int .i64 (c : Int))), (1, .loc 1 0), (6, .val (gV H.length 0 (k * r + j))), (8, .loc 8 0)], [(1, [D, .int .i64 off, .int .i64 (r : Int), .int .i64 (c : Int), .int .i64 ld]), (8, [D, .int .i64 (zcj off (r : Int) ld (k : Int)), .int .i64 (r : Int), .int .i64 1])], H ++ ([] ++ gN (fl (rml (fun n => mel l off ld (n % r) (n / r)) (k * r + j))))⟩) (by exact rfl) ?_ ?_ <;> (first | intro j hj K hK | intro K) <;> (try dsimp only at *) <;> (try simp only [Int.natCast_add, Int.natCast_one] at *)) | (refine zbc [20, 19, 1, 6] c (fun k => ⟨[(20, .val (.int .i64 (k : Int))), (19, .val (.int .i64 (c : Int))), (1, .loc 1 0), (6, .val (gV H.length 0 (k * r)))], [(1, [D, .int .i64 off, .int .i64 (r : Int), .int .i64 (c : Int), .int .i64 ld])], H ++ ([] ++ gN (fl (rml (fun n => mel l off ld (n % r) (n / r)) (k * r))))⟩) (by simp only [Nat.zero_mul]; exact rfl) ?_ ?_ <;> (first | intro k hk K hK | intro K) <;> (try dsimp only at *) <;> (try simp only [Int.natCast_add, Int.natCast_one, Nat.add_mul, Nat.one_mul] at *)) | fail))
 |refine m21 ?_
 |refine zbb ?_
 |(refine zbd ?_; (first | refine cA (znq _ D l.length off _ _ ld hF.len hI) ?_ | refine cA (zpo _ D l (FL.app hF _) off _ _ ld hI hG (k : Int) (by omega) (by omega)) ?_ | fail))
 |refine m44 ?_
 |refine m40 ?_
 |(refine zdq (by (conv => {lhs; simp only [List.nil_append, List.cons_append]}); done) ?_; first | refine ⟨by exact rfl, ?_⟩ | skip)
 |refine zd9 ?_
 |(intro N' hN'; simp only [List.nil_append, List.cons_append] at hN'; subst hN')
 |refine zbz ?_ | refine zb0 ?_ | refine zby ?_ | refine m57 ?_
 |refine zfn ?_ | refine zfo ?_ | refine zfm ?_
 |(refine zfp (by exact rfl) ?_; first | exact hK | fail | (exfalso; first | omega | (simp_all; done) | (simp_all; omega)))
 |refine m05 ?_
 |refine m04 ?_ | refine m02 ?_ | refine m03 ?_ | refine zar ?_
 |intro _)
  all_goals first
    | (refine zmi rfl ?_; have hz : r * c = 0 := by (have hsp : ¬ zeo l.length off r c ld := by assumption); (have : r = 0 ∨ c = 0 := by (rcases Nat.eq_zero_or_pos r with h | h; exact .inl h; rcases Nat.eq_zero_or_pos c with h' | h'; exact .inr h'; exact absurd ⟨hG, by omega, by omega⟩ hsp)); rcases this with h | h <;> simp [h]
       rw [show fl (cmA (mel l off ld) r c) = [] from by rw [cmA, hz]; rfl, hz]; exact Fr.nil)
    | (refine zmi rfl ?_; rw [Nat.mul_comm r c, cmA, Nat.mul_comm r c]; exact zz1 (N₀ := []) (i := 0) rfl rfl (by simp) (by rw [zbs]; exact Nat.zero_le _))
theorem zsc (H : List (List AV)) (D : AV) (l : List Nat) (hF : FL H D l) (off rows cols ld : Int) (hI : MI l.length off rows cols ld) (hG : zac l.length off rows cols ld) (i j : Int) (hi : 0 ≤ i) (hj : 0 ≤ j) (hi' : i < rows) (hj' : j < cols) :
    zaa Try.prog 65 [mt D off rows cols ld, .int .i64 i, .int .i64 j] H (.flt (mel l off ld i.toNat j.toNat)) H := by
  obtain ⟨hn, ho1, ho2, hr1, hr2, hc1, hc2, hl1, hl2⟩ := id hI
  have hpl := (z01 (show zgc l.length off rows cols ld i j from ⟨hG, hi, hj, hi', hj'⟩)).1
  have hpl0 := (z01 (show zgc l.length off rows cols ld i j from ⟨hG, hi, hj, hi', hj'⟩)).2
  have hpl9 := z4d hpl0
  have hij : (i.toNat : Int) = i ∧ (j.toNat : Int) = j := ⟨by omega, by omega⟩
  have hmul : (j.toNat : Int) * ld = j * ld := by rw [hij.2]
  refine .go Try.call65 Try.func65 false [] dOk ?_
  simp only [zbp, Nat.reduceAdd]
  repeat' (first
 |(refine za4 ?_; (first | refine zcm ?_ | refine zay ?_ | fail))
 |(refine za5 ?_; (first | refine m14 ?_ | (refine m17 ?_; first | refine m19 ?_ | refine m18 ?_) | (refine m07 ?_; (first | refine m15 ?_ | refine m16 ?_ | refine zqm (FL.app hF _) (by omega) ?_ | fail)) | refine zpd (by (conv => {lhs; whnf}); done) (by (conv => {lhs; whnf}); done) (by exact hF.len) (by omega) ?_ | (refine m00 ?_; (first | refine m47 ?_ | refine m48 ?_ | refine m49 ?_ | refine m50 ?_ | refine v_k ?_ | refine m51 ?_ | fail)) | refine m42 ?_ | refine zad ?_ | refine zae ?_ | refine m08 ?_ | refine zao ?_ | refine m01 ?_ | fail))
 |refine za2 ?_ | refine za3 ?_ | refine za1 ?_
 |(refine za6 ?_; (first | refine za0 ?_ | refine zab ?_ | (refine m06 ?_; (first | refine c_T ?_ | refine c_F ?_ | refine c_P ?_ ?_ | refine c_B ?_ ?_ | fail)) | refine zaz ?_ | refine zaq ?_ | refine zai ?_ | refine b_exit ?_ | fail))
 |refine m21 ?_
 |refine zbb ?_
 |(refine zbd ?_; (first | refine cA (zxx _ D l.length off rows cols ld hF.len hI i j (by omega) (by omega) (by omega) (by omega)) ?_ | fail))
 |refine m05 ?_
 |refine m04 ?_ | refine m02 ?_ | refine m03 ?_ | refine zar ?_
 |intro _)
  all_goals first | refine zan rfl (by simp [mx, mxL, aOf, zb1, zaf]) ?_ | (trace_state; fail)
  all_goals first
    | (refine congrArg AV.flt ?_; rw [zbr, hpl]; unfold pos; congr 2; omega)
    | (exfalso; omega)
theorem zvj (H : List (List AV)) (D : AV) (l : List Nat) (hF : FL H D l) (off n inc : Int) (hI : VI l.length off n inc) :
    zaa Try.prog 94 [vt D off n inc] H (mt D off 1 n inc) H := by
  refine .go Try.call94 Try.func94 false [] dOk ?_
  simp only [zbp, Nat.reduceAdd]
  repeat' (first
 |(refine za4 ?_; (first | refine zcm ?_ | refine zay ?_ | fail))
 |(refine za5 ?_; (first | (refine m17 ?_; first | refine m19 ?_ | refine m18 ?_) | (refine m07 ?_; (first | refine m15 ?_ | refine m16 ?_ | fail)) | refine m25 ?_ | refine m01 ?_ | refine m24 ?_ | refine zco ?_ | fail))
 |refine za2 ?_ | refine za3 ?_ | refine za1 ?_
 |(refine za6 ?_; (first | refine za0 ?_ | refine zab ?_ | (refine m06 ?_; (first | refine c_T ?_ | refine c_F ?_ | refine c_P ?_ ?_ | refine c_B ?_ ?_ | fail)) | refine zaz ?_ | refine zaq ?_ | refine zai ?_ | refine b_exit ?_ | fail))
 |refine m58 ?_
 |refine zdu ?_
 |refine m05 ?_
 |refine m04 ?_ | refine m02 ?_ | refine m03 ?_ | refine zar ?_
 |intro _)
  all_goals first
    | (refine zan rfl (by have := hF.mx; simp [mx, mxL, zaf, aOf, zb1]; omega) ?_; exact rfl)
theorem z1f (H H' : List (List AV)) (b : Nat) (l : List Nat) (hb : H[b]? = some (fl l)) (off ld : Int) (r c : Nat) (hI : MI l.length off r c ld) (hG : zac l.length off r c ld) (i k : Nat) (hi : i < r) (hk : k < r) (hik : i ≠ k) (hH : H.set b (fl (zah l off ld r c (zh3 (mel l off ld) i k))) = H') :
    zaa Try.prog 113 [vt (.slm b l.length 0 l.length 1) (zrm off (c : Int) (i : Int)) c ld, vt (.slm b l.length 0 l.length 1) (zrm off (c : Int) (k : Int)) c ld] H (.tup []) H' := by
  subst hH
  obtain ⟨hn, ho1, ho2, hr1, hr2, hc1, hc2, hl1, hl2⟩ := id hI
  have hbl : b < H.length := (List.getElem?_eq_some_iff.1 hb).1
  have hgd := id hG
  obtain ⟨hg1, hg2, hg3, hg4, hg5, hg6⟩ := hgd
  have hS0 : H.set b (fl (zah l off ld r c (znr (mel l off ld) i k 0))) = H := by (rw [zam (g' := mel l off ld) (by omega) (by omega) (fun i' j _ _ => by simp [znr]), zd3 (by omega) (by omega)]; exact set_self hb)
  have hS9 : zah l off ld r c (zh3 (mel l off ld) i k) = zah l off ld r c (znr (mel l off ld) i k c) := zam (by omega) (by omega) (fun i' j _ hj => by simp [znr, hj])
  rw [hS9]
  refine .go Try.call113 Try.func113 false [] dOk ?_
  simp only [zbp, Nat.reduceAdd]
  repeat' (first
 |(refine za4 ?_; (first | refine zcm ?_ | refine zay ?_ | fail))
 |(refine za5 ?_; (first | refine m41 ?_ | refine zbj ?_ | refine m14 ?_ | (refine m17 ?_; first | refine m19 ?_ | refine m18 ?_) | (refine m07 ?_; (first | refine m15 ?_ | refine m16 ?_ | refine z18 hbl (by simp) (by simp; first | exact zb2 hG hi ht | exact zb2 hG hk ht | fail) ?_ | fail)) | refine zek (by (conv => {lhs; whnf}); done) ?_ | refine zi7 (m := pos off ld i t) (by (conv => {lhs; whnf}); done) (by (conv => {lhs; whnf}); done) (by exact rfl) (by exact zj3 hG hi ht) (by exact zb2 hG hi ht) ?_ | refine zi7 (m := pos off ld k t) (by (conv => {lhs; whnf}); done) (by (conv => {lhs; whnf}); done) (by exact rfl) (by exact zj3 hG hk ht) (by exact zb2 hG hk ht) ?_ | refine zkh (X' := zah l off ld r c (zmo (znr (mel l off ld) i k t) i t (mel l off ld k t))) (by (conv => {lhs; whnf}); done) (by (conv => {lhs; whnf}); done) hbl (by simp) (by simp; exact zb2 hG hi ht) (by rw [Nat.zero_add, Nat.zero_add, ← zbr, zc6 hG hk ht, zf5 hG hi ht]; simp [znr]) ?_ | refine zkh (X' := zah l off ld r c (znr (mel l off ld) i k (t + 1))) (by (conv => {lhs; whnf}); done) (by (conv => {lhs; whnf}); done) hbl (by simp) (by simp; exact zb2 hG hk ht) (by rw [Nat.zero_add, Nat.zero_add, ← zbr, zc6 hG hi ht, zf5 hG hk ht]; exact zam (by omega) (by omega) (fun i' j _ _ => by rw [← zr9 hik]; simp [znr])) ?_ | (refine m00 ?_; (first | refine v_w (by first | omega | (have h1 := zj3 hG hi ht; have h2 := zb2 hG hi ht; have h3 := zj3 hG hk ht; have h4 := zb2 hG hk ht; have h5 := zak hG (i := 0) (j := (t : Int)) (by omega) (by omega) (by omega) (by omega); omega) | fail) ?_ | refine m47 ?_ | refine m48 ?_ | refine m49 ?_ | refine m50 ?_ | refine v_k ?_ | refine m51 ?_ | fail)) | refine m08 ?_ | refine m25 ?_ | refine m01 ?_ | fail))
 |(refine zcv ?_; (first | refine m36 ?_ | refine zct ?_ | fail))
 |(refine zcu ?_; (first | refine zfe ?_ | refine m34 ?_ | refine m35 ?_ | refine m33 ?_ | refine zff ?_ | refine m56 ?_ | refine zcw ?_ | fail))
 |refine za2 ?_ | refine za3 ?_ | refine za1 ?_
 |(refine za6 ?_; (first | refine za0 ?_ | refine zab ?_ | (refine m06 ?_; (first | refine c_T ?_ | refine c_F ?_ | refine c_P ?_ ?_ | refine c_B ?_ ?_ | fail)) | refine zaz ?_ | refine zaq ?_ | refine zai ?_ | refine b_exit ?_ | refine zax (id := 4) [] [] [(0, .lt), (1, .ld true), (2, .lt), (3, .ld true), (4, .lt), (5, .lt), (6, .ld true), (7, .lt), (8, .lt), (9, .lt), (10, .lt), (11, .ld true), (12, .lt), (13, .ld true), (14, .lt), (15, .lt), (16, .ld true), (17, .lt), (18, .lt), (19, .lt), (20, .lt), (21, .lt)] (by kernel_rfl) ?_ | refine zax (id := 5) [] [9, 11] [(0, .lt), (1, .lt), (2, .lt), (3, .lt), (4, .ld true), (5, .lt), (6, .lt), (7, .ld true), (8, .lt), (9, .mn false), (10, .lt), (11, .mn false)] (by kernel_rfl) ?_ | (refine zbc [9, 8, 2, 3] c (fun t => ⟨[(9, .val (.int .i64 (t : Int))), (8, .val (.int .i64 (c : Int))), (2, .loc 2 0), (3, .loc 3 0)], [(2, [(.slm b l.length 0 l.length 1), .int .i64 (zrm off (c : Int) (i : Int)), .int .i64 (c : Int), .int .i64 ld]), (3, [(.slm b l.length 0 l.length 1), .int .i64 (zrm off (c : Int) (k : Int)), .int .i64 (c : Int), .int .i64 ld])], H.set b (fl (zah l off ld r c (znr (mel l off ld) i k t))) ++ []⟩) (by simp only [hS0]; exact rfl) ?_ ?_ <;> (first | intro t ht K hK | intro K) <;> (try dsimp only at *) <;> (try simp only [Int.natCast_add, Int.natCast_one] at *)) | fail))
 |refine zbz ?_ | refine zb0 ?_ | refine zby ?_ | refine m57 ?_
 |refine zfn ?_ | refine zfo ?_ | refine zfm ?_
 |(refine zfp (by exact rfl) ?_; first | exact hK | fail | (exfalso; first | omega | (simp_all; done) | (simp_all; omega)))
 |refine m05 ?_
 |refine m04 ?_ | refine m02 ?_ | refine m03 ?_ | refine zar ?_
 |intro _)
  all_goals first
    | (refine zan (by simp) (by simp [mx, mxL, zaf]) ?_; exact rfl)
theorem z07 (H H' : List (List AV)) (b : Nat) (l : List Nat) (hb : H[b]? = some (fl l)) (off ld : Int) (r c : Nat) (hI : MI l.length off r c ld) (hG : zac l.length off r c ld) (i k : Nat) (hi : i < r) (hk : k < r) (hH : H.set b (fl (zah l off ld r c (zh3 (mel l off ld) i k))) = H') :
    zaa Try.prog 93 [mt (.slm b l.length 0 l.length 1) off r c ld, .int .i64 (i : Int), .int .i64 (k : Int)] H (.int .i64 0) H' := by
  subst hH
  obtain ⟨hn, ho1, ho2, hr1, hr2, hc1, hc2, hl1, hl2⟩ := id hI
  have hbl : b < H.length := (List.getElem?_eq_some_iff.1 hb).1
  have hgd := id hG
  obtain ⟨hg1, hg2, hg3, hg4, hg5, hg6⟩ := hgd
  refine .go Try.call93 Try.func93 false [] dOk ?_
  simp only [zbp, Nat.reduceAdd]
  repeat' (first
 |(refine za4 ?_; (first | refine zcm ?_ | refine zay ?_ | refine m13 ?_ | refine m12 ?_ | refine m11 ?_ | (refine m10 ?_; (first | refine zci ?_ | refine zcd ?_ | refine zch ?_ | refine zce ?_ | refine zcg ?_ ?_ | refine zcf ?_ ?_ | refine zcc ?_ ?_ | refine zcb ?_ ?_ | fail)) | (refine m09 ?_; (first | refine zci ?_ | refine zcd ?_ | refine zch ?_ | refine zce ?_ | refine zcg ?_ ?_ | refine zcf ?_ ?_ | refine zcc ?_ ?_ | refine zcb ?_ ?_ | fail)) | refine m38 ?_ | fail))
 |(refine za5 ?_; (first | refine m14 ?_ | (refine m17 ?_; first | refine m19 ?_ | refine m18 ?_) | (refine m07 ?_; (first | refine m15 ?_ | refine m16 ?_ | fail)) | (refine m00 ?_; (first | refine m54 ?_ | refine m55 ?_ | refine zck ?_ | refine m47 ?_ | refine m48 ?_ | refine m49 ?_ | refine m50 ?_ | refine zdk ?_ | refine zdi ?_ | refine zdj ?_ | refine v_k ?_ | refine m51 ?_ | fail)) | (refine m22 ?_; (first | refine m26 ?_ | refine m27 ?_ | fail)) | refine m42 ?_ | refine zad ?_ | refine zae ?_ | refine m08 ?_ | (refine m20 ?_; (first | refine m54 ?_ | refine m55 ?_ | refine zck ?_ | refine m47 ?_ | refine m48 ?_ | refine m49 ?_ | refine m50 ?_ | refine zdk ?_ | refine zdi ?_ | refine zdj ?_ | refine v_k ?_ | refine m51 ?_ | fail)) | refine zao ?_ | refine m01 ?_ | fail))
 |(refine zcv ?_; (first | refine m36 ?_ | refine zct ?_ | refine m32 ?_ | refine m31 ?_ | refine m30 ?_ | (refine m28 ?_; (first | refine zca ?_ | refine zb5 ?_ | refine zb9 ?_ | refine zb6 ?_ | refine zb8 ?_ ?_ | refine zb7 ?_ ?_ | refine zb4 ?_ ?_ | refine zb3 ?_ ?_ | fail)) | (refine m29 ?_; (first | refine zca ?_ | refine zb5 ?_ | refine zb9 ?_ | refine zb6 ?_ | refine zb8 ?_ ?_ | refine zb7 ?_ ?_ | refine zb4 ?_ ?_ | refine zb3 ?_ ?_ | fail)) | refine m37 ?_ | fail))
 |(refine zcu ?_; (first | refine zfe ?_ | refine m34 ?_ | refine m35 ?_ | refine m33 ?_ | refine zff ?_ | refine m56 ?_ | refine zcw ?_ | fail))
 |refine za2 ?_ | refine za3 ?_ | refine za1 ?_
 |(refine za6 ?_; (first | refine za0 ?_ | refine zab ?_ | (refine m06 ?_; (first | refine c_T ?_ | refine c_F ?_ | refine c_P ?_ ?_ | refine c_B ?_ ?_ | fail)) | refine zaz ?_ | refine zaq ?_ | refine zai ?_ | refine b_exit ?_ | refine zax (id := 4) [] [6] [(0, .ld true), (1, .lt), (3, .ld true), (4, .lt), (2, .mn true), (5, .mn true), (6, .mn false)] (by kernel_rfl) ?_ | fail))
 |refine m21 ?_
 |refine zbb ?_
 |(refine zbd ?_; (first | refine cA (zd1 _ _ l.length off _ _ ld (by exact rfl) hI) ?_ | refine cA (z06 _ _ l ((FL.old hb (by exact rfl) rfl).app _) off _ _ ld hI hG (i : Int) (by omega) (by omega)) ?_ | refine cA (z06 _ _ l ((FL.old hb (by exact rfl) rfl).app _) off _ _ ld hI hG (k : Int) (by omega) (by omega)) ?_ | refine c_call (z1f _ _ b l (zav hb) off ld r c hI hG i k hi hk (by omega) (za9 hbl)) (za7.set (by simp) (by rw [zbs]; omega)) ?_ | fail))
 |refine m05 ?_
 |refine m04 ?_ | refine m02 ?_ | refine m03 ?_ | refine zar ?_
 |intro _)
  all_goals first
    | (exfalso; first | contradiction | omega)
    | (have hik : i = k := by omega
       subst hik
       rw [zam (g' := mel l off ld) (by omega) (by omega) (fun i' j _ _ => zr8 i' j), zd3 (by omega) (by omega), set_self hb]
       refine zan rfl (by simp [mx, mxL, aOf, zb1, zaf]) ?_; exact rfl)
    | (refine zan (by simp) (by simp [mx, mxL, aOf, zb1, zaf]) ?_; exact rfl)
theorem z0o (H : List (List AV)) (D : AV) (l : List Nat) (hF : FL H D l) (off inc : Int) (n : Nat) (hI : VI l.length off n inc) (hR : zal l.length off n inc) (hn0 : 0 < n) :
    zaa Try.prog 92 [vt D off n inc] H (.tup [.int .i64 (moN (zsj l off (n : Int) inc) n : Int), .int .i64 0]) H := by
  obtain ⟨hm, ho1, ho2, hn1, hn2, hi1, hi2⟩ := id hI
  have hlt : ∀ k, 0 < k → moN (zsj l off (n : Int) inc) k < k := fun k hk => zne _ k hk
  have hg : ∀ k : Nat, k < n → l.getD (off + (k : Int) * inc).toNat 0 = (zsj l off (n : Int) inc).getD k 0 := fun k hk => (zuv (by omega)).symm
  refine .go Try.call92 Try.func92 false [] dOk ?_
  simp only [zbp, Nat.reduceAdd]
  repeat' (first
 |(refine za4 ?_; (first | refine zcm ?_ | refine zay ?_ | refine m13 ?_ | refine m12 ?_ | refine m11 ?_ | (refine m10 ?_; (first | refine zci ?_ | refine zcd ?_ | refine zch ?_ | refine zce ?_ | refine zcg ?_ ?_ | refine zcf ?_ ?_ | refine zcc ?_ ?_ | refine zcb ?_ ?_ | fail)) | (refine m09 ?_; (first | refine zci ?_ | refine zcd ?_ | refine zch ?_ | refine zce ?_ | refine zcg ?_ ?_ | refine zcf ?_ ?_ | refine zcc ?_ ?_ | refine zcb ?_ ?_ | fail)) | refine m38 ?_ | fail))
 |(refine za5 ?_; (first | refine m41 ?_ | refine zbj ?_ | refine m14 ?_ | (refine m17 ?_; first | refine m19 ?_ | refine m18 ?_) | (refine m07 ?_; (first | refine m15 ?_ | refine m16 ?_ | fail)) | (refine m00 ?_; (first | refine m47 ?_ | refine m48 ?_ | refine m49 ?_ | refine m50 ?_ | refine zdk ?_ | refine zdi ?_ | refine zdj ?_ | refine v_k ?_ | refine m51 ?_ | fail)) | (refine m22 ?_; (first | refine m26 ?_ | refine m27 ?_ | fail)) | refine m42 ?_ | refine zad ?_ | refine zae ?_ | refine m08 ?_ | (refine m20 ?_; (first | refine m47 ?_ | refine m48 ?_ | refine m49 ?_ | refine m50 ?_ | refine zdk ?_ | refine zdi ?_ | refine zdj ?_ | refine v_k ?_ | refine m51 ?_ | fail)) | refine zao ?_ | refine m01 ?_ | fail))
 |(refine zcv ?_; (first | refine m36 ?_ | refine zct ?_ | refine m32 ?_ | refine m31 ?_ | refine m30 ?_ | (refine m28 ?_; (first | refine zca ?_ | refine zb5 ?_ | refine zb9 ?_ | refine zb6 ?_ | refine zb8 ?_ ?_ | refine zb7 ?_ ?_ | refine zb4 ?_ ?_ | refine zb3 ?_ ?_ | fail)) | (refine m29 ?_; (first | refine zca ?_ | refine zb5 ?_ | refine zb9 ?_ | refine zb6 ?_ | refine zb8 ?_ ?_ | refine zb7 ?_ ?_ | refine zb4 ?_ ?_ | refine zb3 ?_ ?_ | fail)) | refine m37 ?_ | fail))
 |(refine zcu ?_; (first | refine zfe ?_ | refine m34 ?_ | refine m35 ?_ | refine m33 ?_ | refine zff ?_ | refine m56 ?_ | refine zcw ?_ | fail))
 |refine za2 ?_ | refine za3 ?_ | refine za1 ?_
 |(refine za6 ?_; (first | refine za0 ?_ | refine zab ?_ | (refine m06 ?_; (first | refine c_T ?_ | refine c_F ?_ | refine c_P ?_ ?_ | refine c_B ?_ ?_ | fail)) | refine zaz ?_ | refine zaq ?_ | refine zai ?_ | refine b_exit ?_ | refine zax (id := 7) [] [] [(0, .lt), (1, .lt), (2, .lt), (3, .ld true), (4, .lt), (7, .ld true), (8, .lt), (5, .mn true), (6, .mn true), (9, .mn true), (10, .mn true), (11, .lt), (12, .lt)] (by kernel_rfl) ?_ | (refine zbc [11, 10, 1, 4, 3, 2] n (fun k => ⟨[(11, .val (.int .i64 (k : Int))), (10, .val (.int .i64 (n : Int))), (1, .loc 1 0), (4, .val (.int .i64 (moI (zsj l off (n : Int) inc) k))), (3, .val (.int .i64 0)), (2, .val (.int .i64 0))], [(1, [D, .int .i64 off, .int .i64 (n : Int), .int .i64 inc])], H ++ []⟩) (by exact rfl) ?_ ?_ <;> (first | (intro k hk K hK; rcases Nat.eq_zero_or_pos k with h0 | h0) | intro K) <;> (try dsimp only at *) <;> (try simp only [Int.natCast_add, Int.natCast_one] at *) <;> (try (first | (subst h0; simp only [zty, zxj] at *) | (simp only [zl8 h0, zl8 (Nat.succ_pos k)] at *)))) | fail))
 |refine m21 ?_
 |refine zbb ?_
 |(refine zbd ?_; (first | refine cA (zhx _ D l (FL.app hF _) off n inc hI) ?_ | refine cA (z4o _ D l (FL.app hF _) off _ inc hI hR (k : Int) (by omega) (by omega)) ?_ | refine cA (z4o _ D l (FL.app hF _) off _ inc hI hR ((moN _ k : Nat) : Int) (by omega) (by have := hlt k h0; omega)) ?_ | refine cA (z0n _ _) ?_ | fail))
 |refine zbz ?_ | refine zb0 ?_ | refine zby ?_ | refine m57 ?_
 |refine zfn ?_ | refine zfo ?_ | refine zfm ?_
 |(refine zfp (by exact rfl) ?_; first | exact hK | (rw [z3z h0 (by rw [← hg k hk, ← hg _ (by have := hlt k h0; omega)]; assumption)] at hK; exact hK) | (rw [z3y h0 (by rw [← hg k hk, ← hg _ (by have := hlt k h0; omega)]; assumption)] at hK; exact hK) | (exfalso; first | omega | (simp_all; done) | (simp_all; omega)))
 |refine m05 ?_
 |refine m04 ?_ | refine m02 ?_ | refine m03 ?_ | refine zar ?_
 |intro _)
  all_goals first
    | (exfalso; contradiction)
    | (refine zan rfl (by simp [mx, mxL, aOf, zb1, zaf]) ?_; rw [zl8 hn0]; exact rfl)
def zcy (off ld i j r c : Int) : Int := if 0 < r ∧ 0 < c then off + (i + j * ld) else off
theorem zk5 (H : List (List AV)) (D : AV) (l : List Nat) (hF : FL H D l) (off rows cols ld : Int) (hI : MI l.length off rows cols ld) (hG : zac l.length off rows cols ld) (i j r c : Int) (hi : 0 ≤ i) (hj : 0 ≤ j) (hr : 0 ≤ r) (hc : 0 ≤ c) (hir : i + r ≤ rows) (hjc : j + c ≤ cols) :
    zaa Try.prog 33 [mt D off rows cols ld, .int .i64 i, .int .i64 j, .int .i64 r, .int .i64 c] H (mt D (zcy off ld i j r c) r c ld) H := by
  obtain ⟨hn, ho1, ho2, hr1, hr2, hc1, hc2, hl1, hl2⟩ := id hI
  have hgd := id hG
  obtain ⟨hg1, hg2, hg3, hg4, hg5, hg6⟩ := hgd
  refine .go Try.call33 Try.func33 false [] dOk ?_
  simp only [zbp, Nat.reduceAdd]
  repeat' (first
 |(refine za4 ?_; (first | refine zcm ?_ | refine zay ?_ | refine m13 ?_ | refine m12 ?_ | refine m11 ?_ | (refine m10 ?_; (first | refine zci ?_ | refine zcd ?_ | refine zch ?_ | refine zce ?_ | refine zcg ?_ ?_ | refine zcf ?_ ?_ | refine zcc ?_ ?_ | refine zcb ?_ ?_ | fail)) | (refine m09 ?_; (first | refine zci ?_ | refine zcd ?_ | refine zch ?_ | refine zce ?_ | refine zcg ?_ ?_ | refine zcf ?_ ?_ | refine zcc ?_ ?_ | refine zcb ?_ ?_ | fail)) | refine m38 ?_ | fail))
 |(refine za5 ?_; (first | refine m14 ?_ | (refine m17 ?_; first | refine m19 ?_ | refine m18 ?_) | (refine m07 ?_; (first | refine m15 ?_ | refine m16 ?_ | fail)) | (refine m00 ?_; (first | refine v_w (by first | omega | (have hp := zak hG (i := i) (j := j) (by omega) (by omega) (by omega) (by omega); have hp2 := zak hG (i := 0) (j := j) (by omega) (by omega) (by omega) (by omega); omega) | fail) ?_ | refine m47 ?_ | refine m48 ?_ | refine m49 ?_ | refine m50 ?_ | refine zdk ?_ | refine zdi ?_ | refine zdj ?_ | refine v_k ?_ | refine m51 ?_ | fail)) | (refine m22 ?_; (first | refine m26 ?_ | refine m27 ?_ | fail)) | (refine m20 ?_; (first | refine v_w (by first | omega | (have hp := zak hG (i := i) (j := j) (by omega) (by omega) (by omega) (by omega); have hp2 := zak hG (i := 0) (j := j) (by omega) (by omega) (by omega) (by omega); omega) | fail) ?_ | refine m47 ?_ | refine m48 ?_ | refine m49 ?_ | refine m50 ?_ | refine zdk ?_ | refine zdi ?_ | refine zdj ?_ | refine v_k ?_ | refine m51 ?_ | fail)) | refine zao ?_ | refine m25 ?_ | refine m01 ?_ | refine m24 ?_ | refine zco ?_ | fail))
 |refine za2 ?_ | refine za3 ?_ | refine za1 ?_
 |(refine za6 ?_; (first | refine za0 ?_ | refine zab ?_ | (refine m06 ?_; (first | refine c_T ?_ | refine c_F ?_ | refine c_P ?_ ?_ | refine c_B ?_ ?_ | fail)) | refine zaz ?_ | refine zaq ?_ | refine zai ?_ | refine b_exit ?_ | fail))
 |refine m21 ?_
 |refine zbb ?_
 |(refine zbd ?_; (first | refine cA (zd1 _ D l.length off rows cols ld hF.len hI) ?_ | fail))
 |refine m58 ?_
 |refine zdu ?_
 |refine m05 ?_
 |refine m04 ?_ | refine m02 ?_ | refine m03 ?_ | refine zar ?_
 |intro _)
  all_goals first
    | (exfalso; contradiction)
    | (exfalso; omega)
    | (refine zan rfl (by have := hF.mx; simp [mx, mxL, zaf, aOf, zb1]; omega) ?_; unfold zcy; first | (rw [if_pos (by omega)]; exact rfl) | (rw [if_neg (by omega)]; exact rfl) | fail)
theorem zi8 (H H' : List (List AV)) (D : AV) (l : List Nat) (hF : FL H D l) (off ld : Int) (r c : Nat) (hI : MI l.length off r c ld) (hG : zac l.length off r c ld) (hr : r ≤ 64) (hc : c ≤ 64) (m : Nat) (hm : H.length = m) (hH : H ++ [fl (cmA (mel l off ld) r c)] = H') :
    zaa Try.prog 32 [mt D off r c ld] H (.tup [mt (.slm m (r * c) 0 (r * c) 1) 0 r c ((max r 1 : Nat) : Int), .int .i64 0]) H' := by
  subst hH hm
  obtain ⟨hn, ho1, ho2, hr1, hr2, hc1, hc2, hl1, hl2⟩ := id hI
  refine .go Try.call32 Try.func32 false [] dOk ?_
  simp only [zbp, Nat.reduceAdd]
  repeat' (first
 |(refine za4 ?_; (first | refine zcm ?_ | refine zay ?_ | refine m13 ?_ | refine m12 ?_ | refine m11 ?_ | (refine m10 ?_; (first | refine zci ?_ | refine zcd ?_ | refine zch ?_ | refine zce ?_ | refine zcg ?_ ?_ | refine zcf ?_ ?_ | refine zcc ?_ ?_ | refine zcb ?_ ?_ | fail)) | (refine m09 ?_; (first | refine zci ?_ | refine zcd ?_ | refine zch ?_ | refine zce ?_ | refine zcg ?_ ?_ | refine zcf ?_ ?_ | refine zcc ?_ ?_ | refine zcb ?_ ?_ | fail)) | refine m38 ?_ | fail))
 |(refine za5 ?_; (first | refine m14 ?_ | (refine m17 ?_; first | refine m19 ?_ | refine m18 ?_) | (refine m07 ?_; (first | refine m15 ?_ | refine m16 ?_ | fail)) | refine zy7 (by (conv => {lhs; whnf}); done) (by (conv => {lhs; whnf}); done) (by exact rfl) (by exact rfl) (by simp [zd7]) (by exact rfl) (by simp) (by simp) (by exact rfl) (by (conv => {lhs; simp only [List.set_cons_zero, List.set_cons_succ]}); done) ?_ | (refine m00 ?_; (first | refine m47 ?_ | refine m48 ?_ | refine m49 ?_ | refine m50 ?_ | refine zdk ?_ | refine zdi ?_ | refine zdj ?_ | refine v_k ?_ | refine m51 ?_ | fail)) | (refine m22 ?_; (first | refine m26 ?_ | refine m27 ?_ | fail)) | refine m42 ?_ | refine zad ?_ | refine zae ?_ | refine m08 ?_ | (refine m20 ?_; (first | refine m47 ?_ | refine m48 ?_ | refine m49 ?_ | refine m50 ?_ | refine zdk ?_ | refine zdi ?_ | refine zdj ?_ | refine v_k ?_ | refine m51 ?_ | fail)) | refine zao ?_ | refine m25 ?_ | refine m01 ?_ | refine m24 ?_ | refine zco ?_ | fail))
 |(refine zcv ?_; (first | refine m36 ?_ | refine zct ?_ | refine m32 ?_ | refine m31 ?_ | refine m30 ?_ | (refine m28 ?_; (first | refine zca ?_ | refine zb5 ?_ | refine zb9 ?_ | refine zb6 ?_ | refine zb8 ?_ ?_ | refine zb7 ?_ ?_ | refine zb4 ?_ ?_ | refine zb3 ?_ ?_ | fail)) | (refine m29 ?_; (first | refine zca ?_ | refine zb5 ?_ | refine zb9 ?_ | refine zb6 ?_ | refine zb8 ?_ ?_ | refine zb7 ?_ ?_ | refine zb4 ?_ ?_ | refine zb3 ?_ ?_ | fail)) | refine m37 ?_ | fail))
 |(refine zcu ?_; (first | refine zfe ?_ | refine m34 ?_ | refine m35 ?_ | refine m33 ?_ | refine zff ?_ | refine m56 ?_ | refine zcw ?_ | refine zdr (by exact rfl) ?_ | fail))
 |refine za2 ?_ | refine za3 ?_ | refine za1 ?_
 |(refine za6 ?_; (first | refine za0 ?_ | refine zab ?_ | (refine m06 ?_; (first | refine c_T ?_ | refine c_F ?_ | refine c_P ?_ ?_ | refine c_B ?_ ?_ | fail)) | refine zaz ?_ | refine zaq ?_ | refine zai ?_ | refine b_exit ?_ | refine zax (id := 6) [] [4] [(0, .lt), (1, .ld true), (2, .ld true), (3, .mn true), (4, .mn false)] (by kernel_rfl) ?_ | fail))
 |refine m43 ?_
 |refine zcs ?_
 |refine m21 ?_
 |refine zbb ?_
 |(refine zbd ?_; (first | refine cA (zd1 _ D l.length off _ _ ld hF.len hI) ?_ | refine cA (zpr _ _ r c hr hc .slnil [] (FL.nil _) (by simp) _ (by (conv => {lhs; simp only [List.length_append, List.length_cons, List.length_nil, List.length_set, Nat.reduceAdd, Nat.zero_add]}); done) (by (conv => {lhs; simp only [List.append_assoc, List.cons_append, List.nil_append]}); done)) ?_ | refine cA (zk2 _ D l (FL.app hF _) off r c ld hI hG (by omega) (by omega)) ?_ | fail))
 |refine m58 ?_
 |refine zdu ?_
 |refine zbz ?_ | refine zb0 ?_ | refine zby ?_ | refine m57 ?_
 |refine m05 ?_
 |refine m04 ?_ | refine m02 ?_ | refine m03 ?_ | refine zar ?_
 |intro _)
  all_goals first
    | (exfalso; contradiction)
    | (exfalso; omega)
    | exact z08 (j := 0) (cs := fl (cmA (mel l off ld) r c)) rfl rfl (by rw [zbs]; exact Nat.zero_le _) (Fr.tup (Frs.cons (Fr.agg (Frs.cons (Fr.kp (j := 0) (cs := fl (cmA (mel l off ld) r c)) rfl (zbg rfl rfl) (by simp)) (Frs.old (by simp [mxL, mx])))) (Frs.cons (Fr.old (by simp [mx])) Frs.nil)))
theorem zxu (H H' : List (List AV)) (b : Nat) (l : List Nat) (hb : H[b]? = some (fl l)) (off ld : Int) (r c : Nat) (hI : MI l.length off r c ld) (hG : zac l.length off r c ld) (k : Nat) (hk : k < r) (hkc : k < c) (hH : H.set b (fl (zah l off ld r c (swK (mel l off ld) k r))) = H') :
    zaa Try.prog 72 [mt (.slm b l.length 0 l.length 1) off r c ld, .int .i64 (k : Int)] H (.tup [.int .i64 (pvK (mel l off ld) k r : Int), .bool (!(feq (swK (mel l off ld) k r k k) 0))]) H' := by
  subst hH
  obtain ⟨hn, ho1, ho2, hr1, hr2, hc1, hc2, hl1, hl2⟩ := id hI
  have hbl : b < H.length := (List.getElem?_eq_some_iff.1 hb).1
  have hgd := id hG
  obtain ⟨hg1, hg2, hg3, hg4, hg5, hg6⟩ := hgd
  have hvat : ∀ (i j : Nat) (g : Nat → Nat → Nat) (N : List (List AV)), i < r → j < c → zaa Try.prog 65 [mt (.slm b l.length 0 l.length 1) off r c ld, .int .i64 (i : Int), .int .i64 (j : Int)] (H.set b (fl (zah l off ld r c g)) ++ N) (.flt (g i j)) (H.set b (fl (zah l off ld r c g)) ++ N) := fun i j g N h1 h2 => (by (have := zsc (H.set b (fl (zah l off ld r c g)) ++ N) (.slm b l.length 0 l.length 1) _ (FL.set hbl (by simp) (by simp)) off r c ld (by simpa using hI) (by simpa using hG) i j (by omega) (by omega) (by omega) (by omega)); simp only [Int.toNat_natCast] at this; rwa [zc6 hG h1 h2] at this)
  have hco := zpk hG (j := (k : Int)) (by omega) (by omega) hn
  have hco2 := (zf8 hG hkc (Nat.le_of_lt hk)).2.2.1
  have hco3 : zcj off (r : Int) ld (k : Int) + (k : Int) ≤ 9223372036854775807 := by (have h1 := zd6 hG (i := k) (t := k) hk hkc; have h2 := zb2 hG (i := k) (j := k) hk hkc; omega)
  have hco4 := (zc4 hG (j := (k : Int)) (by omega) (by omega)).2.2.1
  have hvr := zf8 hG hkc (Nat.le_of_lt hk)
  have hvi := zuf hvr hn (by omega) (by omega) hco3
  have hmost : ∀ N, zaa Try.prog 92 [vt (.slm b l.length 0 l.length 1) (zcj off (r : Int) ld (k : Int) + (k : Int)) ((r - k : Nat) : Int) 1] (H ++ N) (.tup [.int .i64 ((moN (zov (mel l off ld) k r) (r - k)) : Int), .int .i64 0]) (H ++ N) := fun N => (by (have := z0o (H ++ N) (.slm b l.length 0 l.length 1) l ((FL.old hb rfl rfl).app N) _ 1 (r - k) hvi hvr (by omega)); rwa [zs3 hG hkc (Nat.le_of_lt hk)] at this)
  have hmo : (moN (zov (mel l off ld) k r) (r - k)) < r - k := zne _ _ (by omega)
  refine .go Try.call72 Try.func72 false [] dOk ?_
  simp only [zbp, Nat.reduceAdd]
  repeat' (first
 |(refine za4 ?_; (first | refine zcm ?_ | refine zay ?_ | fail))
 |(refine za5 ?_; (first | refine m14 ?_ | (refine m17 ?_; first | refine m19 ?_ | refine m18 ?_) | (refine m07 ?_; (first | refine m15 ?_ | refine m16 ?_ | fail)) | (refine m00 ?_; (first | refine zvx (by omega) (by omega) ?_ | refine zbk (pvK (mel l off ld) k r : Int) (by have := @zlb (mel l off ld) k r hk; unfold pvK at this; omega) (by unfold pvK; omega) ?_ | refine m54 ?_ | refine m55 ?_ | refine zck ?_ | refine m49 ?_ | refine m50 ?_ | refine v_k ?_ | refine m51 ?_ | fail)) | refine m42 ?_ | refine zad ?_ | refine zae ?_ | refine m08 ?_ | refine zao ?_ | refine m23 ?_ | refine m25 ?_ | refine m01 ?_ | refine m24 ?_ | fail))
 |refine za2 ?_ | refine za3 ?_ | refine za1 ?_
 |(refine za6 ?_; (first | refine za0 ?_ | refine zab ?_ | (refine m06 ?_; (first | refine c_T ?_ | refine c_F ?_ | refine c_P ?_ ?_ | refine c_B ?_ ?_ | fail)) | refine zaz ?_ | refine zaq ?_ | refine zai ?_ | refine b_exit ?_ | fail))
 |refine m21 ?_
 |refine zbb ?_
 |(refine zbd ?_; (first | refine cA (zpo _ (.slm b l.length 0 l.length 1) l ((FL.old hb (by exact rfl) rfl).app _) off _ _ ld hI hG (k : Int) (by omega) (by omega)) ?_ | refine cA (hmost _) ?_ | refine c_call (z07 _ _ b l (zav hb) off ld r c hI hG k (pvK (mel l off ld) k r) hk (zlb hk) (za9 hbl)) (za7.set (by simp) (by rw [zbs]; exact Nat.zero_le _)) ?_ | refine cA (hvat k k _ _ hk hkc) ?_ | fail))
 |refine m05 ?_
 |refine m04 ?_ | refine m02 ?_ | refine m03 ?_ | refine zar ?_
 |intro _)
  all_goals first
    | (refine zan (by simp) (by simp [mx, mxL, aOf, zb1, zaf]) ?_; exact rfl)
theorem zs4 (H H' : List (List AV)) (b : Nat) (l : List Nat) (hb : H[b]? = some (fl l)) (off ld : Int) (r c : Nat) (hI : MI l.length off r c ld) (hG : zac l.length off r c ld) (k : Nat) (hk : k < r) (hkc : k < c) (hH : H.set b (fl (zah l off ld r c (zgx (mel l off ld) k))) = H') :
    zaa Try.prog 73 [mt (.slm b l.length 0 l.length 1) off r c ld, .int .i64 (k : Int)] H (vt (.slm b l.length 0 l.length 1) (zcj off (r : Int) ld (k : Int) + ((k + 1 : Nat) : Int)) ((r - (k + 1) : Nat) : Int) 1) H' := by
  subst hH
  obtain ⟨hn, ho1, ho2, hr1, hr2, hc1, hc2, hl1, hl2⟩ := id hI
  have hbl : b < H.length := (List.getElem?_eq_some_iff.1 hb).1
  have hgd := id hG
  obtain ⟨hg1, hg2, hg3, hg4, hg5, hg6⟩ := hgd
  have hvat : ∀ (i j : Nat) (g : Nat → Nat → Nat) (N : List (List AV)), i < r → j < c → zaa Try.prog 65 [mt (.slm b l.length 0 l.length 1) off r c ld, .int .i64 (i : Int), .int .i64 (j : Int)] (H.set b (fl (zah l off ld r c g)) ++ N) (.flt (g i j)) (H.set b (fl (zah l off ld r c g)) ++ N) := fun i j g N h1 h2 => (by (have := zsc (H.set b (fl (zah l off ld r c g)) ++ N) (.slm b l.length 0 l.length 1) _ (FL.set hbl (by simp) (by simp)) off r c ld (by simpa using hI) (by simpa using hG) i j (by omega) (by omega) (by omega) (by omega)); simp only [Int.toNat_natCast] at this; rwa [zc6 hG h1 h2] at this)
  have hco := zpk hG (j := (k : Int)) (by omega) (by omega) hn
  have hco2 := (zf8 hG hkc (Nat.le_of_lt hk)).2.2.1
  have hco3 : zcj off (r : Int) ld (k : Int) + (k : Int) ≤ 9223372036854775807 := by (have h1 := zd6 hG (i := k) (t := k) hk hkc; have h2 := zb2 hG (i := k) (j := k) hk hkc; omega)
  have hco4 := (zc4 hG (j := (k : Int)) (by omega) (by omega)).2.2.1
  have hco5 : zcj off (r : Int) ld (k : Int) + ((k + 1 : Nat) : Int) ≤ 9223372036854775807 := by (have h1 := zd6 hG (i := k) (t := k) hk hkc; have h2 := zb2 hG (i := k) (j := k) hk hkc; omega)
  have hS0 : H.set b (fl (zah l off ld r c (dvS (mel l off ld) k 0))) = H := by (rw [zam (g' := (mel l off ld)) (by omega) (by omega) (fun i' j _ _ => zs9 i' j), zd3 (by omega) (by omega)]; exact set_self hb)
  have hS9 : zah l off ld r c (zgx (mel l off ld) k) = zah l off ld r c (dvS (mel l off ld) k (r - (k + 1))) := zam (by omega) (by omega) (fun i' j hi _ => (zwq hk i' j hi).symm)
  rw [hS9]
  refine .go Try.call73 Try.func73 false [] dOk ?_
  simp only [zbp, Nat.reduceAdd]
  repeat' (first
 |(refine za4 ?_; (first | refine zcm ?_ | refine zay ?_ | fail))
 |(refine za5 ?_; (first | refine m41 ?_ | refine zbj ?_ | refine m14 ?_ | (refine m17 ?_; first | refine m19 ?_ | refine m18 ?_) | (refine m07 ?_; (first | refine m15 ?_ | refine m16 ?_ | refine z18 hbl (by simp) (by simp; exact zb2 hG (by omega) hkc) ?_ | fail)) | refine zi7 (m := pos off ld (k + 1 + t) k) (by (conv => {lhs; whnf}); done) (by (conv => {lhs; whnf}); done) (by exact rfl) (by exact rfl) (by exact zb2 hG (by omega) hkc) ?_ | refine zkh (X' := zah l off ld r c (dvS (mel l off ld) k (t + 1))) (by (conv => {lhs; whnf}); done) (by (conv => {lhs; whnf}); done) hbl (by simp) (by simp; exact zb2 hG (by omega) hkc) (by rw [Nat.zero_add, ← zbr, zc6 hG (by omega) hkc, zf5 hG (by omega) hkc]; exact zam (by omega) (by omega) (fun i' j _ _ => by rw [← zs8])) ?_ | (refine m00 ?_; (first | refine zbk ((k + 1 : Nat) : Int) (by omega) (by omega) ?_ | refine zvx (by omega) (by omega) ?_ | refine zbk ((pos off ld (k + 1 + t) k : Nat) : Int) (by have h1 := zd6 hG (i := k + 1 + t) (t := k) (by omega) hkc; have h2 := zb2 hG (i := k + 1 + t) (j := k) (by omega) hkc; omega) (by first | (have h1 := zd6 hG (i := k + 1 + t) (t := k) (by omega) hkc; omega) | fail) ?_ | refine m49 ?_ | refine m47 ?_ | refine m48 ?_ | refine m49 ?_ | refine m50 ?_ | refine zyi (by omega) (by omega) ?_ | refine v_k ?_ | refine m51 ?_ | fail)) | refine m08 ?_ | refine zao ?_ | refine m25 ?_ | refine m01 ?_ | refine m24 ?_ | fail))
 |refine za2 ?_ | refine za3 ?_ | refine za1 ?_
 |(refine za6 ?_; (first | refine za0 ?_ | refine zab ?_ | (refine m06 ?_; (first | refine c_T ?_ | refine c_F ?_ | refine c_P ?_ ?_ | refine c_B ?_ ?_ | fail)) | refine zaz ?_ | refine zaq ?_ | refine zai ?_ | refine b_exit ?_ | (refine zbc [29, 28, 6, 5, 4] (r - (k + 1)) (fun t => ⟨[(29, .val (.int .i64 (t : Int))), (28, .val (.int .i64 ((r - (k + 1) : Nat) : Int))), (6, .loc 6 0), (5, .val (.flt ((mel l off ld) k k))), (4, .loc 4 0)], [(6, [(.slm b l.length 0 l.length 1), .int .i64 (zcj off (r : Int) ld (k : Int) + ((k + 1 : Nat) : Int)), .int .i64 ((r - (k + 1) : Nat) : Int), .int .i64 1]), (4, [.slnil, .int .i64 0, .int .i64 0, .int .i64 0])], H.set b (fl (zah l off ld r c (dvS (mel l off ld) k t))) ++ []⟩) (by simp only [hS0]; exact rfl) ?_ ?_ <;> (first | intro t ht K hK | intro K) <;> (try dsimp only at *) <;> (try simp only [Int.natCast_add, Int.natCast_one] at *)) | fail))
 |refine m21 ?_
 |refine zbb ?_
 |(refine zbd ?_; (first | refine cA (zpo _ (.slm b l.length 0 l.length 1) l ((FL.old hb (by exact rfl) rfl).app _) off _ _ ld hI hG (k : Int) (by omega) (by omega)) ?_ | refine cA (zsc _ (.slm b l.length 0 l.length 1) l ((FL.old hb (by exact rfl) rfl).app _) off _ _ ld hI hG (k : Int) (k : Int) (by omega) (by omega) (by omega) (by omega)) ?_ | fail))
 |refine zbz ?_ | refine zb0 ?_ | refine zby ?_ | refine m57 ?_
 |refine zfn ?_ | refine zfo ?_ | refine zfm ?_
 |(refine zfp (by exact rfl) ?_; first | exact hK | fail | (exfalso; first | omega | (simp_all; done) | (simp_all; omega)))
 |refine m05 ?_
 |refine m04 ?_ | refine m02 ?_ | refine m03 ?_ | refine zar ?_
 |intro _)
  all_goals first
    | (refine zan (by simp) (by simp [mx, mxL, aOf, zb1, zaf]; omega) ?_; exact rfl)
theorem zzv (S : Nat → List (List AV)) (Lf : Nat → List Nat) (D : AV) (hF : ∀ t, FL (S t) D (Lf t)) (n : Nat) (hl : ∀ t, (Lf t).length = n) (off ld : Int) (r c : Nat) (hI : MI n off r c ld) (hG : zac n off r c ld) (fid : Nat) (caps : List AV) (hSl : ∀ t, (S t).length = (S 0).length) (hO : ∀ t N N', za7 (S 0).length (S t ++ N) (S (t + 1) ++ N')) (hS : ∀ j i N, j < c → i < r → zaa Try.prog fid ([.int .i64 (i : Int), .int .i64 (j : Int), .eptr D (pos off ld i j)] ++ caps) (S (j * r + i) ++ N) (.tup []) (S (j * r + i + 1) ++ N)) :
    zaa Try.prog 95 [mt D off r c ld, .func fid [] caps] (S 0) (.tup []) (S (c * r)) := by
  obtain ⟨hn, ho1, ho2, hr1, hr2, hc1, hc2, hl1, hl2⟩ := id hI
  refine .go Try.call95 Try.func95 false [] dOk ?_
  simp only [zbp, Nat.reduceAdd]
  repeat' (first
 |(refine za4 ?_; (first | refine zcm ?_ | refine zay ?_ | fail))
 |(refine za5 ?_; (first | refine m41 ?_ | refine zbj ?_ | refine m14 ?_ | (refine m17 ?_; first | refine m19 ?_ | refine m18 ?_) | (refine m07 ?_; (first | refine m15 ?_ | refine m16 ?_ | fail)) | refine zi7 (m := pos off ld i j) (by (conv => {lhs; whnf}); done) (by (conv => {lhs; whnf}); done) (by exact (hl (j * r)) ▸ (hF (j * r)).len) (by exact rfl) (by exact zb2 hG hi hj) ?_ | (refine m45 ?_; (first | refine zbk ((pos off ld i j : Nat) : Int) (by have h1 := zd6 hG (i := i) (t := j) hi hj; have h2 := zb2 hG hi hj; omega) (by have h1 := zd6 hG (i := i) (t := j) hi hj; omega) ?_ | refine zeg (by exact rfl) ?_ | refine v_k ?_ | fail)) | (refine m00 ?_; (first | refine zbk ((pos off ld i j : Nat) : Int) (by have h1 := zd6 hG (i := i) (t := j) hi hj; have h2 := zb2 hG hi hj; omega) (by have h1 := zd6 hG (i := i) (t := j) hi hj; omega) ?_ | refine m52 ?_ | refine m53 ?_ | refine zgv ?_ | refine m47 ?_ | refine m48 ?_ | refine m49 ?_ | refine m50 ?_ | refine v_k ?_ | refine m51 ?_ | fail)) | refine m08 ?_ | refine zao ?_ | refine m39 ?_ | refine m25 ?_ | refine m01 ?_ | refine m24 ?_ | fail))
 |refine za2 ?_ | refine za3 ?_ | refine za1 ?_
 |(refine za6 ?_; (first | refine za0 ?_ | refine zab ?_ | (refine m06 ?_; (first | refine c_T ?_ | refine c_F ?_ | refine c_P ?_ ?_ | refine c_B ?_ ?_ | fail)) | refine zaz ?_ | refine zaq ?_ | refine zai ?_ | refine b_exit ?_ | (refine zbc [20, 19, 12, 11, 2, 5, 4, 1] r (fun i => ⟨[(20, .val (.int .i64 (i : Int))), (19, .val (.int .i64 (r : Int))), (12, .val (.int .i64 (j : Int))), (11, .val (.int .i64 (c : Int))), (2, .loc 2 0), (5, .loc 5 0), (4, .val (.int .i64 (j : Int))), (1, .val (.func fid [] caps))], [(2, [D, .int .i64 off, .int .i64 (r : Int), .int .i64 (c : Int), .int .i64 ld]), (5, [D, .int .i64 (zcj off (r : Int) ld (j : Int)), .int .i64 (r : Int), .int .i64 1])], S (j * r + i) ++ []⟩) (by exact rfl) ?_ ?_ <;> (first | intro i hi K hK | intro K) <;> (try dsimp only at *) <;> (try simp only [Int.natCast_add, Int.natCast_one] at *)) | (refine zbc [12, 11, 2, 1] c (fun j => ⟨[(12, .val (.int .i64 (j : Int))), (11, .val (.int .i64 (c : Int))), (2, .loc 2 0), (1, .val (.func fid [] caps))], [(2, [D, .int .i64 off, .int .i64 (r : Int), .int .i64 (c : Int), .int .i64 ld])], S (j * r) ++ []⟩) (by simp only [Nat.zero_mul]; exact rfl) ?_ ?_ <;> (first | intro j hj K hK | intro K) <;> (try dsimp only at *) <;> (try simp only [Int.natCast_add, Int.natCast_one, Nat.add_mul, Nat.one_mul] at *)) | fail))
 |refine m21 ?_
 |refine zbb ?_
 |(refine zbd ?_; (first | refine c_call (zpo _ D (Lf (j * r)) ((hF _).app _) off _ _ ld (by rw [hl]; exact hI) (by rw [hl]; exact hG) (j : Int) (by omega) (by omega)) (za7.app (Nat.le_of_eq (hSl _).symm)) ?_ | refine c_call (hS j i [] hj hi) (hO _ _ _) ?_ | fail))
 |refine m44 ?_
 |refine m40 ?_
 |(refine zdq (by (conv => {lhs; simp only [List.nil_append, List.cons_append]}); done) ?_; first | refine ⟨by exact rfl, ?_⟩ | skip)
 |refine zd9 ?_
 |(intro N' hN'; simp only [List.nil_append, List.cons_append] at hN'; subst hN')
 |refine zbz ?_ | refine zb0 ?_ | refine zby ?_ | refine m57 ?_
 |refine zfn ?_ | refine zfo ?_ | refine zfm ?_
 |(refine zfp (by exact rfl) ?_; first | exact hK | fail | (exfalso; first | omega | (simp_all; done) | (simp_all; omega)))
 |refine m05 ?_
 |refine m04 ?_ | refine m02 ?_ | refine m03 ?_ | refine zar ?_
 |intro _)
  all_goals first
    | (have hr0 : r = 0 := by omega
       subst hr0; rw [Nat.mul_zero]; refine zan rfl (by simp [mx, mxL, zaf]) ?_; exact rfl)
    | (refine zan (hSl _) (by simp [mx, mxL, zaf]) ?_; exact rfl)
theorem zz8 (H H' : List (List AV)) (b : Nat) (l : List Nat) (hb : H[b]? = some (fl l)) (p : Nat) (hp : p < l.length) (a ba : Nat) (hba : H[ba]? = some [.flt a]) (Y : AV) (ly : List Nat) (hFY : FL H Y ly) (oY nY iY : Int) (hIY : VI ly.length oY nY iY) (hRY : zal ly.length oY nY iY) (bY : Nat) (hbY : H[bY]? = some [Y, .int .i64 oY, .int .i64 nY, .int .i64 iY]) (X : AV) (lx : List Nat) (hFX : FL H X lx) (oX nX iX : Int) (hIX : VI lx.length oX nX iX) (hRX : zal lx.length oX nX iX) (bX : Nat) (hbX : H[bX]? = some [X, .int .i64 oX, .int .i64 nX, .int .i64 iX]) (i j : Nat) (hi : (i : Int) < nX) (hj : (j : Int) < nY) (hH : H.set b (fl (l.set p (zmy (l.getD p 0) (zd8 (zd8 a (ly.getD (oY + (j : Int) * iY).toNat 0)) (lx.getD (oX + (i : Int) * iX).toNat 0))))) = H') :
    zaa Try.prog 96 [.int .i64 (i : Int), .int .i64 (j : Int), .eptr (.slm b l.length 0 l.length 1) p, .eptr (.slm ba 1 0 1 1) 0, .eptr (.slm bY 4 0 1 4) 0, .eptr (.slm bX 4 0 1 4) 0] H (.tup []) H' := by
  subst hH
  have hbl : b < H.length := (List.getElem?_eq_some_iff.1 hb).1
  have h1 := zbv hRX (i := (i : Int)) (by omega) hi
  have h2 := zbv hRY (i := (j : Int)) (by omega) hj
  obtain ⟨hmY, ho1Y, ho2Y, hn1Y, hn2Y, hi1Y, hi2Y⟩ := id hIY
  obtain ⟨hmX, ho1X, ho2X, hn1X, hn2X, hi1X, hi2X⟩ := id hIX
  refine .go Try.call96 Try.func96 false [] dOk ?_
  simp only [zbp, Nat.reduceAdd]
  repeat' (first
 |(refine za4 ?_; (first | refine zcm ?_ | refine zay ?_ | fail))
 |(refine za5 ?_; (first | refine m14 ?_ | (refine m17 ?_; first | refine m19 ?_ | refine m18 ?_) | (refine m07 ?_; (first | refine m15 ?_ | refine m16 ?_ | refine zqm (FL.app hFX _) (by omega) ?_ | refine zqm (FL.app hFY _) (by omega) ?_ | refine zsg hba (by exact rfl) (by exact rfl) ?_ | refine zsg hbY (by exact rfl) (by exact rfl) ?_ | refine zsg hbX (by exact rfl) (by exact rfl) ?_ | refine zsg hb (by simp) (by rw [Nat.zero_add]; exact zm0 hp) ?_ | fail)) | refine zek (by (conv => {lhs; whnf}); done) ?_ | refine zpd (by (conv => {lhs; whnf}); done) (by (conv => {lhs; whnf}); done) (by exact hFX.len) (by omega) ?_ | refine zpd (by (conv => {lhs; whnf}); done) (by (conv => {lhs; whnf}); done) (by exact hFY.len) (by omega) ?_ | refine zzf (by (conv => {lhs; whnf}); done) (by (conv => {lhs; whnf}); done) hb (by exact rfl) (by omega) (m' := l.set p (zmy (l.getD p 0) (zd8 (zd8 a (ly.getD (oY + (j : Int) * iY).toNat 0)) (lx.getD (oX + (i : Int) * iX).toNat 0)))) (by rw [Nat.zero_add]) ?_ | (refine m00 ?_; (first | refine m49 ?_ | refine m49 ?_ | refine m50 ?_ | refine v_k ?_ | refine m51 ?_ | fail)) | refine m08 ?_ | refine m25 ?_ | fail))
 |(refine zcv ?_; (first | refine m36 ?_ | refine zct ?_ | fail))
 |(refine zcu ?_; (first | refine zfe ?_ | refine m34 ?_ | refine m35 ?_ | refine m33 ?_ | refine zff ?_ | refine m56 ?_ | refine zcw ?_ | refine zdr (by exact rfl) ?_ | fail))
 |refine za2 ?_ | refine za3 ?_ | refine za1 ?_
 |(refine za6 ?_; (first | refine za0 ?_ | refine zab ?_ | (refine m06 ?_; (first | refine c_T ?_ | refine c_F ?_ | refine c_P ?_ ?_ | refine c_B ?_ ?_ | fail)) | refine zaz ?_ | refine zaq ?_ | refine zai ?_ | refine b_exit ?_ | refine zax (id := 0) [] [] [(0, .ld true), (1, .lt), (2, .ld true), (3, .lt), (4, .ld true), (5, .lt), (6, .lt), (7, .ld true), (8, .lt), (9, .lt), (10, .lt), (11, .ld true), (12, .lt), (13, .lt)] (by kernel_rfl) ?_ | refine zax (id := 1) [] [18] [(0, .lt), (1, .lt), (2, .ld true), (3, .lt), (4, .lt), (5, .ld true), (6, .lt), (7, .ld true), (8, .lt), (9, .lt), (10, .ld true), (11, .lt), (12, .lt), (13, .lt), (14, .ld true), (15, .lt), (16, .lt), (17, .lt), (18, .mn false)] (by kernel_rfl) ?_ | fail))
 |refine m05 ?_
 |refine m04 ?_ | refine m02 ?_ | refine m03 ?_ | refine zar ?_
 |intro _)
  all_goals first
    | (refine zan (by simp) (by simp [mx, mxL, zaf]) ?_; exact rfl)
theorem ztl (H : List (List AV)) (b : Nat) (l : List Nat) (hb : H[b]? = some (fl l)) (off ld : Int) (r c : Nat) (hI : MI l.length off r c ld) (hG : zac l.length off r c ld) (a : Nat) (X : AV) (nX : Nat) (oX iX : Int) (hIX : VI nX oX r iX) (hRX : zal nX oX r iX) (xs : Nat → Nat) (hXe : ∀ g, ∃ lX, FL (H.set b (fl (zah l off ld r c g))) X lX ∧ lX.length = nX ∧ ∀ k : Nat, k < r → lX.getD (oX + (k : Int) * iX).toNat 0 = xs k) (hMX : ∀ N, zaa Try.prog 34 [mt X oX 1 r iX, mt (.slm b l.length 0 l.length 1) off r c ld] (H ++ N) (.bool false) (H ++ N)) (Y : AV) (nY : Nat) (oY iY : Int) (hIY : VI nY oY c iY) (hRY : zal nY oY c iY) (ys : Nat → Nat) (hYe : ∀ g, ∃ lY, FL (H.set b (fl (zah l off ld r c g))) Y lY ∧ lY.length = nY ∧ ∀ k : Nat, k < c → lY.getD (oY + (k : Int) * iY).toNat 0 = ys k) (hMY : ∀ N, zaa Try.prog 34 [mt Y oY 1 c iY, mt (.slm b l.length 0 l.length 1) off r c ld] (H ++ N) (.bool false) (H ++ N)) :
    zaa Try.prog 95 [mt (.slm b l.length 0 l.length 1) off r c ld, .func 96 [] [.eptr (.slm (H.length + 0) 1 0 1 1) 0, .eptr (.slm (H.length + 2) 4 0 1 4) 0, .eptr (.slm (H.length + 1) 4 0 1 4) 0]] (H ++ [[.flt a], [X, .int .i64 oX, .int .i64 (r : Int), .int .i64 iX], [Y, .int .i64 oY, .int .i64 (c : Int), .int .i64 iY], [(.slm b l.length 0 l.length 1), .int .i64 off, .int .i64 (r : Int), .int .i64 (c : Int), .int .i64 ld]]) (.tup []) (H.set b (fl (zah l off ld r c (zw1 (mel l off ld) a xs ys))) ++ [[.flt a], [X, .int .i64 oX, .int .i64 (r : Int), .int .i64 iX], [Y, .int .i64 oY, .int .i64 (c : Int), .int .i64 iY], [(.slm b l.length 0 l.length 1), .int .i64 off, .int .i64 (r : Int), .int .i64 (c : Int), .int .i64 ld]]) := by
  obtain ⟨hn, ho1, ho2, hr1, hr2, hc1, hc2, hl1, hl2⟩ := id hI
  have hbl : b < H.length := (List.getElem?_eq_some_iff.1 hb).1
  have hgd := id hG
  obtain ⟨hg1, hg2, hg3, hg4, hg5, hg6⟩ := hgd
  have hS0 : H.set b (fl (zah l off ld r c (zim (mel l off ld) a xs ys r 0))) = H := by (rw [zam (g' := (mel l off ld)) (by omega) (by omega) (fun i' j _ _ => zp8 i' j), zd3 (by omega) (by omega)]; exact set_self hb)
  have hS9 : zah l off ld r c (zw1 (mel l off ld) a xs ys) = zah l off ld r c (zim (mel l off ld) a xs ys r (c * r)) := zam (by omega) (by omega) (fun i' j hi hj => (ztk i' j hi hj).symm)
  have h := zzv (fun t => H.set b (fl (zah l off ld r c (zim (mel l off ld) a xs ys r t))) ++ [[.flt a], [X, .int .i64 oX, .int .i64 (r : Int), .int .i64 iX], [Y, .int .i64 oY, .int .i64 (c : Int), .int .i64 iY], [(.slm b l.length 0 l.length 1), .int .i64 off, .int .i64 (r : Int), .int .i64 (c : Int), .int .i64 ld]]) (fun t => zah l off ld r c (zim (mel l off ld) a xs ys r t)) (.slm b l.length 0 l.length 1) (fun t => FL.set hbl (by simp) (by simp)) l.length (by simp) off ld r c hI hG 96 [.eptr (.slm (H.length + 0) 1 0 1 1) 0, .eptr (.slm (H.length + 2) 4 0 1 4) 0, .eptr (.slm (H.length + 1) 4 0 1 4) 0] (by simp) (fun t N N' => ?_) (fun j i N hj hi => ?_)
  · simp only [hS0] at h
    rw [hS9]; exact h
  · have ho := za7.set (A := H.set b (fl (zah l off ld r c (zim (mel l off ld) a xs ys r t))) ++ [[.flt a], [X, .int .i64 oX, .int .i64 (r : Int), .int .i64 iX], [Y, .int .i64 oY, .int .i64 (c : Int), .int .i64 iY], [(.slm b l.length 0 l.length 1), .int .i64 off, .int .i64 (r : Int), .int .i64 (c : Int), .int .i64 ld]]) (N := N) (N' := N') (n := (H ++ [[.flt a], [X, .int .i64 oX, .int .i64 (r : Int), .int .i64 iX], [Y, .int .i64 oY, .int .i64 (c : Int), .int .i64 iY], [(.slm b l.length 0 l.length 1), .int .i64 off, .int .i64 (r : Int), .int .i64 (c : Int), .int .i64 ld]]).length) (i := b) (cs := fl (zah l off ld r c (zim (mel l off ld) a xs ys r (t + 1)))) (by simp) (by rw [zbs]; exact Nat.zero_le _)
    rw [zl5 hbl] at ho
    simpa using ho
  · obtain ⟨lX, hFX, hlX, hgX⟩ := hXe (zim (mel l off ld) a xs ys r (j * r + i))
    obtain ⟨lY, hFY, hlY, hgY⟩ := hYe (zim (mel l off ld) a xs ys r (j * r + i))
    subst hlX hlY
    have hp := zb2 hG hi hj
    simp only [List.append_assoc]
    refine zz8 _ _ b (zah l off ld r c (zim (mel l off ld) a xs ys r (j * r + i))) (ze8 hbl) (pos off ld i j) (by simpa using hp) a (H.length + 0) (zbg (by simp) rfl) Y lY (hFY.app _) oY c iY hIY hRY (H.length + 2) (zbg (by simp) rfl) X lX (hFX.app _) oX r iX hIX hRX (H.length + 1) (zbg (by simp) rfl) i j (by omega) (by omega) ?_ |> fun h => (by simpa using h)
    rw [hgX i hi, hgY j hj, ← zbr, zc6 hG hi hj, zw2, zf5 hG hi hj, zl5 hbl]
    rw [show zah l off ld r c (zmo (zim (mel l off ld) a xs ys r (j * r + i)) i j (zmy ((mel l off ld) i j) (zd8 (zd8 a (ys j)) (xs i)))) = zah l off ld r c (zim (mel l off ld) a xs ys r (j * r + i + 1)) from zam (by omega) (by omega) (fun i' j' h1 h2 => zp7 hi i' j' h1)]
theorem z3k (H H' : List (List AV)) (b : Nat) (l : List Nat) (hb : H[b]? = some (fl l)) (off ld : Int) (r c : Nat) (hI : MI l.length off r c ld) (hG : zac l.length off r c ld) (a : Nat) (X : AV) (nX : Nat) (oX iX : Int) (hIX : VI nX oX r iX) (hRX : zal nX oX r iX) (xs : Nat → Nat) (hXe : ∀ g, ∃ lX, FL (H.set b (fl (zah l off ld r c g))) X lX ∧ lX.length = nX ∧ ∀ k : Nat, k < r → lX.getD (oX + (k : Int) * iX).toNat 0 = xs k) (hMX : ∀ N, zaa Try.prog 34 [mt X oX 1 r iX, mt (.slm b l.length 0 l.length 1) off r c ld] (H ++ N) (.bool false) (H ++ N)) (Y : AV) (nY : Nat) (oY iY : Int) (hIY : VI nY oY c iY) (hRY : zal nY oY c iY) (ys : Nat → Nat) (hYe : ∀ g, ∃ lY, FL (H.set b (fl (zah l off ld r c g))) Y lY ∧ lY.length = nY ∧ ∀ k : Nat, k < c → lY.getD (oY + (k : Int) * iY).toNat 0 = ys k) (hMY : ∀ N, zaa Try.prog 34 [mt Y oY 1 c iY, mt (.slm b l.length 0 l.length 1) off r c ld] (H ++ N) (.bool false) (H ++ N)) (hH : H.set b (fl (zah l off ld r c (zw1 (mel l off ld) a xs ys))) = H') :
    zaa Try.prog 74 [.flt a, vt X oX r iX, vt Y oY c iY, mt (.slm b l.length 0 l.length 1) off r c ld] H (.int .i64 0) H' := by
  subst hH
  obtain ⟨hn, ho1, ho2, hr1, hr2, hc1, hc2, hl1, hl2⟩ := id hI
  have hbl : b < H.length := (List.getElem?_eq_some_iff.1 hb).1
  have hgd := id hG
  obtain ⟨hg1, hg2, hg3, hg4, hg5, hg6⟩ := hgd
  have heach := ztl H b l hb off ld r c hI hG a X nX oX iX hIX hRX xs hXe hMX Y nY oY iY hIY hRY ys hYe hMY
  obtain ⟨lX, hFX, hlX, _⟩ := hXe (mel l off ld)
  obtain ⟨lY, hFY, hlY, _⟩ := hYe (mel l off ld)
  rw [zd3 (by omega) (by omega), set_self hb] at hFX hFY
  rw [← hlX] at hRX
  rw [← hlY] at hRY
  refine .go Try.call74 Try.func74 true [] dOk ?_
  simp only [zbp, Nat.reduceAdd]
  repeat' (first
 |(refine za4 ?_; (first | refine zcm ?_ | refine zay ?_ | refine m13 ?_ | refine m12 ?_ | refine m11 ?_ | (refine m10 ?_; (first | refine zci ?_ | refine zcd ?_ | refine zch ?_ | refine zce ?_ | refine zcg ?_ ?_ | refine zcf ?_ ?_ | refine zcc ?_ ?_ | refine zcb ?_ ?_ | fail)) | (refine m09 ?_; (first | refine zci ?_ | refine zcd ?_ | refine zch ?_ | refine zce ?_ | refine zcg ?_ ?_ | refine zcf ?_ ?_ | refine zcc ?_ ?_ | refine zcb ?_ ?_ | fail)) | refine m38 ?_ | fail))
 |(refine za5 ?_; (first | refine m14 ?_ | (refine m17 ?_; first | refine m19 ?_ | refine m18 ?_) | (refine m07 ?_; (first | refine m15 ?_ | refine m16 ?_ | refine z0h (by exact rfl) (by exact rfl) (by exact rfl) (by exact rfl) ?_ | refine zqn (by exact rfl) (by exact rfl) (by exact rfl) (by exact rfl) ?_ | fail)) | refine zms (by (conv => {lhs; whnf}); done) (by exact rfl) (by exact rfl) (by exact rfl) (by (conv => {lhs; whnf}); done) (by (conv => {lhs; simp only [List.nil_append, List.cons_append]}); done) ?_ | refine zzb ?_ | (refine m00 ?_; (first | refine m54 ?_ | refine m55 ?_ | refine zck ?_ | refine m49 ?_ | refine m50 ?_ | refine zdk ?_ | refine zdi ?_ | refine zdj ?_ | refine v_k ?_ | refine m51 ?_ | fail)) | (refine m22 ?_; (first | refine m26 ?_ | refine m27 ?_ | fail)) | refine m42 ?_ | refine zad ?_ | refine zae ?_ | refine m08 ?_ | (refine m20 ?_; (first | refine m54 ?_ | refine m55 ?_ | refine zck ?_ | refine m49 ?_ | refine m50 ?_ | refine zdk ?_ | refine zdi ?_ | refine zdj ?_ | refine v_k ?_ | refine m51 ?_ | fail)) | refine zao ?_ | refine m01 ?_ | fail))
 |(refine zcv ?_; (first | refine m36 ?_ | refine zct ?_ | refine m32 ?_ | refine m31 ?_ | refine m30 ?_ | (refine m28 ?_; (first | refine zca ?_ | refine zb5 ?_ | refine zb9 ?_ | refine zb6 ?_ | refine zb8 ?_ ?_ | refine zb7 ?_ ?_ | refine zb4 ?_ ?_ | refine zb3 ?_ ?_ | fail)) | (refine m29 ?_; (first | refine zca ?_ | refine zb5 ?_ | refine zb9 ?_ | refine zb6 ?_ | refine zb8 ?_ ?_ | refine zb7 ?_ ?_ | refine zb4 ?_ ?_ | refine zb3 ?_ ?_ | fail)) | refine m37 ?_ | fail))
 |(refine zcu ?_; (first | refine zfe ?_ | refine m34 ?_ | refine m35 ?_ | refine m33 ?_ | refine zff ?_ | refine m56 ?_ | refine zcw ?_ | refine zdr (by exact rfl) ?_ | fail))
 |refine za2 ?_ | refine za3 ?_ | refine za1 ?_
 |(refine za6 ?_; (first | refine za0 ?_ | refine zab ?_ | (refine m06 ?_; (first | refine c_T ?_ | refine c_F ?_ | refine c_P ?_ ?_ | refine c_B ?_ ?_ | fail)) | refine zaz ?_ | refine zaq ?_ | refine zai ?_ | refine b_exit ?_ | refine zax (id := 5) [] [] [(0, .ld true), (2, .ld true), (1, .mn true), (3, .mn true), (4, .lt), (5, .ld true), (7, .ld true), (6, .mn true), (8, .mn true), (9, .lt), (10, .lt)] (by kernel_rfl) ?_ | fail))
 |refine m21 ?_
 |refine zbb ?_
 |(refine zbd ?_; (first | refine cA (zhx _ X lX (FL.app hFX _) oX r iX (by rw [hlX]; exact hIX)) ?_ | refine cA (zhx _ Y lY (FL.app hFY _) oY c iY (by rw [hlY]; exact hIY)) ?_ | refine cA (zd1 _ (.slm b l.length 0 l.length 1) l.length off _ _ ld (by exact rfl) hI) ?_ | refine cA (zvj _ X lX (FL.app hFX _) oX r iX (by rw [hlX]; exact hIX)) ?_ | refine cA (zvj _ Y lY (FL.app hFY _) oY c iY (by rw [hlY]; exact hIY)) ?_ | refine cA (hMX _) ?_ | refine cA (hMY _) ?_ | refine c_call heach (za7.set (by simp) (by rw [zbs]; exact Nat.zero_le _)) ?_ | fail))
 |refine m44 ?_
 |refine m40 ?_
 |(refine zdq (by (conv => {lhs; simp only [List.nil_append, List.cons_append]}); done) ?_; first | refine ⟨by exact rfl, ?_⟩ | skip)
 |refine zd9 ?_
 |(intro N' hN'; simp only [List.nil_append, List.cons_append] at hN'; subst hN')
 |refine zbz ?_ | refine zb0 ?_ | refine zby ?_ | refine m57 ?_
 |refine m05 ?_
 |refine m04 ?_ | refine m02 ?_ | refine m03 ?_ | refine zar ?_
 |intro _)
  all_goals first
    | (exfalso; contradiction)
    | (exfalso; omega)
    | (refine zan (by simp) (by simp [mx, mxL, zaf]) ?_; exact rfl)
theorem z1w (H : List (List AV)) (D : AV) (l : List Nat) (hF : FL H D l) (off ld : Int) (n : Nat) (hI : MI l.length off n n ld) (hG : zac l.length off n n ld) (i j : Nat) (hi : i < n) (hj : j < n) (x : Nat) (hx : mel l off ld i j = x) :
    zaa Try.prog 65 [mt D off n n ld, .int .i64 (i : Int), .int .i64 (j : Int)] H (.flt x) H := by
  have h := zsc H D l hF off n n ld hI hG i j (by omega) (by omega) (by omega) (by omega)
  simp only [Int.toNat_natCast] at h
  rwa [hx] at h
end
theorem z5v {x : Nat} (h1 : feq x 0 = false) (h2 : feq x (cn 0) = true) : False := by
  have h3 : cn 0 = 0 := by decide
  rw [h3, h1] at h2; cases h2
theorem z4u {x : Nat} (h1 : feq x 0 = true) (h2 : ¬ feq x (cn 0) = true) : False := by
  have h3 : cn 0 = 0 := by decide
  rw [h3] at h2; exact h2 h1
theorem z5w {x : Nat} (h1 : feq x 0 = true) (h2 : feq x (cn 0) = false) : False := z4u h1 (by simp [h2])
section
attribute [local irreducible] Ex zau exD opX opE zdh zfd zfl Spec zaa Fr zdg zbf zbe ckK zcq zda zbo faK zcz ze4 gK fK rK zgd lpX prK
theorem z1b (H : List (List AV)) (b : Nat) (l : List Nat) (hb : H[b]? = some (fl l)) (xo xi : Int) (n : Nat) (hxI : VI l.length xo n xi) (hxR : zal l.length xo n xi) (D : AV) (hD : mx D ≤ H.length) (mo ld : Int) (i : Nat) (hi : i < n) :
    zaa Try.prog 88 [(.agg [D, .int .i64 mo, .int .i64 (n : Int), .int .i64 (n : Int), .int .i64 ld, (.slm b l.length 0 l.length 1), .int .i64 xo, .int .i64 (n : Int), .int .i64 xi]), .int .i64 (i : Int)] H (.eptr (.slm b l.length 0 l.length 1) (pos xo xi 0 i)) H := by
  obtain ⟨vn, vo1, vo2, vn1, vn2, vi1, vi2⟩ := id hxI
  have hbl : b < H.length := (List.getElem?_eq_some_iff.1 hb).1
  refine .go Try.call88 Try.func88 false [] dOk ?_
  simp only [zbp, Nat.reduceAdd]
  repeat' (first
 |(refine za4 ?_; (first | refine zcm ?_ | refine zay ?_ | fail))
 |(refine za5 ?_; (first | refine m14 ?_ | (refine m17 ?_; first | refine m19 ?_ | refine m18 ?_) | (refine m07 ?_; (first | refine m15 ?_ | refine m16 ?_ | fail)) | refine zi7 (m := pos xo xi 0 i) (by (conv => {lhs; whnf}); done) (by (conv => {lhs; whnf}); done) (by exact rfl) (by exact zyl hxR hi) (by exact zeh hxR hi) ?_ | (refine m00 ?_; (first | refine v_w (by first | omega | (have h1 := zbv hxR (i := (i : Int)) (by omega) (by omega); omega) | fail) ?_ | refine m49 ?_ | refine m50 ?_ | refine v_k ?_ | refine m51 ?_ | fail)) | refine m42 ?_ | refine zad ?_ | refine zae ?_ | refine m08 ?_ | refine m01 ?_ | fail))
 |refine za2 ?_ | refine za3 ?_ | refine za1 ?_
 |(refine za6 ?_; (first | refine za0 ?_ | refine zab ?_ | (refine m06 ?_; (first | refine c_T ?_ | refine c_F ?_ | refine c_P ?_ ?_ | refine c_B ?_ ?_ | fail)) | refine zaz ?_ | refine zaq ?_ | refine zai ?_ | refine b_exit ?_ | fail))
 |refine m05 ?_
 |refine m04 ?_ | refine m02 ?_ | refine m03 ?_ | refine zar ?_
 |intro _)
  all_goals first
    | (refine zan rfl (by simp [mx, mxL, zaf, aOf, zb1]; omega) ?_; exact rfl)
theorem zxh {off ld : Int} {r c m i j : Nat} (hG : zac m off r c ld) (hi : i < r) (hj : j < c) : off + (i : Int) + (j : Int) * ld = ((pos off ld i j : Nat) : Int) := by
  have hp := zak hG (i := (i : Int)) (j := (j : Int)) (by omega) (by omega) (by omega) (by omega)
  unfold pos
  omega
theorem z4f (H : List (List AV)) (D : AV) (l : List Nat) (hF : FL H D l) (mo ld : Int) (n : Nat) (hI : MI l.length mo n n ld) (hG : zac l.length mo n n ld) (X : AV) (xo xi : Int) (i j : Nat) (hi : i < n) (hj : j < n) (x : Nat) (hx : mel l mo ld i j = x) :
    zaa Try.prog 87 [(.agg [D, .int .i64 mo, .int .i64 (n : Int), .int .i64 (n : Int), .int .i64 ld, X, .int .i64 xo, .int .i64 (n : Int), .int .i64 xi]), .int .i64 (i : Int), .int .i64 (j : Int)] H (.flt x) H := by
  obtain ⟨hm, ho1, ho2, hr1, hr2, hc1, hc2, hl1, hl2⟩ := id hI
  refine .go Try.call87 Try.func87 false [] dOk ?_
  simp only [zbp, Nat.reduceAdd]
  repeat' (first
 |(refine za4 ?_; (first | refine zcm ?_ | refine zay ?_ | fail))
 |(refine za5 ?_; (first | refine m14 ?_ | (refine m17 ?_; first | refine m19 ?_ | refine m18 ?_) | (refine m07 ?_; (first | refine m15 ?_ | refine m16 ?_ | refine zqm (FL.app hF _) (by exact zb2 hG hi hj) ?_ | fail)) | refine zi7 (m := pos mo ld i j) (by (conv => {lhs; whnf}); done) (by (conv => {lhs; whnf}); done) (by exact hF.len) (by exact zxh hG hi hj) (by exact zb2 hG hi hj) ?_ | (refine m00 ?_; (first | refine v_w (by first | omega | (have hp := zak hG (i := (i : Int)) (j := (j : Int)) (by omega) (by omega) (by omega) (by omega); omega) | fail) ?_ | refine m49 ?_ | refine m50 ?_ | refine v_k ?_ | refine m51 ?_ | fail)) | refine m42 ?_ | refine zad ?_ | refine zae ?_ | refine m08 ?_ | refine m01 ?_ | fail))
 |refine za2 ?_ | refine za3 ?_ | refine za1 ?_
 |(refine za6 ?_; (first | refine za0 ?_ | refine zab ?_ | (refine m06 ?_; (first | refine c_T ?_ | refine c_F ?_ | refine c_P ?_ ?_ | refine c_B ?_ ?_ | fail)) | refine zaz ?_ | refine zaq ?_ | refine zai ?_ | refine b_exit ?_ | fail))
 |refine m05 ?_
 |refine m04 ?_ | refine m02 ?_ | refine m03 ?_ | refine zar ?_
 |intro _)
  all_goals first | refine zan rfl (by simp [mx, mxL, aOf, zb1, zaf]) ?_ | (trace_state; fail)
  all_goals first
    | (rw [← hx]; exact rfl)
theorem zqh {H N : List (List AV)} {b : Nat} {X : List AV} (h : b < H.length) : (H.set b X ++ N)[b]? = some X := zav (zgm h)
theorem zr0 (H : List (List AV)) (b : Nat) (l l' : List Nat) (hb : H[b]? = some (fl l')) (hl : l'.length = l.length) (xo xi : Int) (n : Nat) (hxI : VI l.length xo n xi) (hxR : zal l.length xo n xi) (D : AV) (hD : mx D ≤ H.length) (mo ld : Int) (i : Nat) (hi : i < n) :
    zaa Try.prog 88 [(.agg [D, .int .i64 mo, .int .i64 (n : Int), .int .i64 (n : Int), .int .i64 ld, (.slm b l.length 0 l.length 1), .int .i64 xo, .int .i64 (n : Int), .int .i64 xi]), .int .i64 (i : Int)] H (.eptr (.slm b l.length 0 l.length 1) (pos xo xi 0 i)) H := by
  have h := z1b H b l' hb xo xi n (by rw [hl]; exact hxI) (by rw [hl]; exact hxR) D hD mo ld i hi
  rwa [hl] at h
theorem z4w {P : Program} {e : List (Nat × EV)} {L : List (Nat × List AV)} {H N : List (List AV)} {K : St → Prop} {dd : Nat} {t : TypeId} {b : Nat} {l : List Nat} {xo xi : Int} {n : Nat} {f : Nat → Nat} {i : Nat} [ti : TyI P t 1 false] (hb : b < H.length) (hxR : zal l.length xo n xi) (hi : i < n) (h : K ⟨(dd, .val (.flt (f i))) :: e, L, H.set b (fl (zaw l xo xi n f)) ++ N⟩) :
    zbo P t dd K ⟨e, L, H.set b (fl (zaw l xo xi n f)) ++ N⟩ (.val (.eptr (.slm b l.length 0 l.length 1) (pos xo xi 0 i))) :=
  z18 hb (by simp) (by rw [Nat.zero_add]; simp; exact zeh hxR hi) (by rw [Nat.zero_add, znn hxR hi]; exact h)
theorem zx7 (H H' : List (List AV)) (b : Nat) (l : List Nat) (hbl : b < H.length) (xo xi : Int) (n : Nat) (hxI : VI l.length xo n xi) (hxR : zal l.length xo n xi) (D : AV) (hD : mx D ≤ H.length) (mo ld : Int) (f : Nat → Nat) (i k : Nat) (hi : i < n) (hk : k < n) (y : Nat) (g : Nat → Nat) (hg : ∀ t, t < n → zow f i (zoe (f i) (zd8 y (f k))) t = g t) (hH : H.set b (fl (zaw l xo xi n g)) = H') :
    zaa Try.prog 86 [(.agg [D, .int .i64 mo, .int .i64 (n : Int), .int .i64 (n : Int), .int .i64 ld, (.slm b l.length 0 l.length 1), .int .i64 xo, .int .i64 (n : Int), .int .i64 xi]), .int .i64 (i : Int), .int .i64 (k : Int), .flt y] (H.set b (fl (zaw l xo xi n f))) (.tup []) H' := by
  subst hH
  obtain ⟨vn, vo1, vo2, vn1, vn2, vi1, vi2⟩ := id hxI
  have hs : (zaw l xo xi n f).set (pos xo xi 0 i) (zoe (f i) (zd8 y (f k))) = zaw l xo xi n g := by (rw [zg8 hxR hi]; exact zbh hxR.2.2.1 hxR.2.1 hg)
  refine .go Try.call86 Try.func86 false [] dOk ?_
  simp only [zbp, Nat.reduceAdd]
  repeat' (first
 |(refine za4 ?_; (first | refine zcm ?_ | refine zay ?_ | fail))
 |(refine za5 ?_; (first | refine m14 ?_ | (refine m07 ?_; (first | refine m15 ?_ | refine m16 ?_ | refine z4w hbl hxR hi ?_ | refine z4w hbl hxR hk ?_ | fail)) | refine zek (by (conv => {lhs; whnf}); done) ?_ | refine zkh (X' := zaw l xo xi n g) (by (conv => {lhs; whnf}); done) (by (conv => {lhs; whnf}); done) hbl (by simp) (by simp; exact zeh hxR hi) (by rw [Nat.zero_add]; exact hs) ?_ | (refine m00 ?_; (first | refine m49 ?_ | refine m50 ?_ | refine v_k ?_ | refine m51 ?_ | fail)) | refine zao ?_ | refine m25 ?_ | refine m01 ?_ | fail))
 |(refine zcv ?_; (first | refine m36 ?_ | refine zct ?_ | fail))
 |(refine zcu ?_; (first | refine zfe ?_ | refine zh6 ?_ | refine zh7 (by (conv => {lhs; whnf}); done) ?_ | refine zh8 ?_ | refine zh5 (by exact rfl) (by exact rfl) ?_ | refine m34 ?_ | refine m35 ?_ | refine m33 ?_ | refine zff ?_ | refine m56 ?_ | refine zcw ?_ | refine zdr (by exact rfl) ?_ | fail))
 |refine za2 ?_ | refine za3 ?_ | refine za1 ?_
 |(refine za6 ?_; (first | refine za0 ?_ | refine zab ?_ | (refine m06 ?_; (first | refine c_T ?_ | refine c_F ?_ | refine c_P ?_ ?_ | refine c_B ?_ ?_ | fail)) | refine zaz ?_ | refine zaq ?_ | refine zai ?_ | refine b_exit ?_ | refine zax (id := 1) [] [14] [(0, .ld true), (1, .lt), (5, .lt), (6, .ld true), (7, .lt), (2, .mn true), (3, .lt), (4, .ld true), (8, .mn true), (9, .lt), (10, .ld true), (11, .lt), (12, .lt), (13, .lt), (14, .mn false)] (by kernel_rfl) ?_ | fail))
 |refine m21 ?_
 |refine zbb ?_
 |(refine zbd ?_; (first | refine cA (zr0 _ b l _ (zqh hbl) (by simp) xo xi n hxI hxR D (by simpa using hD) mo ld i hi) ?_ | refine cA (zr0 _ b l _ (zqh hbl) (by simp) xo xi n hxI hxR D (by simpa using hD) mo ld k hk) ?_ | fail))
 |refine m05 ?_
 |refine m04 ?_ | refine m02 ?_ | refine m03 ?_ | refine zar ?_
 |intro _)
  all_goals first
    | (refine zan (by simp) (by simp [mx, mxL, zaf]) ?_; exact rfl)
theorem z1d (H : List (List AV)) (D : AV) (l : List Nat) (hF : FL H D l) (off n inc : Int) (hI : VI l.length off n inc) :
    zaa Try.prog 84 [vt D off n inc] H (mt D off 1 n inc) H := by
  refine .go Try.call84 Try.func84 false [] dOk ?_
  simp only [zbp, Nat.reduceAdd]
  repeat' (first
 |(refine za4 ?_; (first | refine zcm ?_ | refine zay ?_ | fail))
 |(refine za5 ?_; (first | (refine m17 ?_; first | refine m19 ?_ | refine m18 ?_) | (refine m07 ?_; (first | refine m15 ?_ | refine m16 ?_ | fail)) | refine m25 ?_ | refine m01 ?_ | refine m24 ?_ | refine zco ?_ | fail))
 |refine za2 ?_ | refine za3 ?_ | refine za1 ?_
 |(refine za6 ?_; (first | refine za0 ?_ | refine zab ?_ | (refine m06 ?_; (first | refine c_T ?_ | refine c_F ?_ | refine c_P ?_ ?_ | refine c_B ?_ ?_ | fail)) | refine zaz ?_ | refine zaq ?_ | refine zai ?_ | refine b_exit ?_ | fail))
 |refine m58 ?_
 |refine zdu ?_
 |refine m05 ?_
 |refine m04 ?_ | refine m02 ?_ | refine m03 ?_ | refine zar ?_
 |intro _)
  all_goals first
    | (refine zan rfl (by have := hF.mx; simp [mx, mxL, zaf, aOf, zb1]; omega) ?_; exact rfl)
theorem zyf (H : List (List AV)) (D : AV) (l : List Nat) (hF : FL H D l) (mo ld : Int) (n : Nat) (hI : MI l.length mo n n ld) (hG : zac l.length mo n n ld) (kd : Int) (hz : (kd = 2 ∨ kd = 4) → ∀ k, k < n → feq (mel l mo ld k k) 0 = false) :
    zaa Try.prog 85 [.int .i64 kd, mt D mo (n : Int) (n : Int) ld] H (.bool false) H := by
  obtain ⟨hm, ho1, ho2, hr1, hr2, hc1, hc2, hl1, hl2⟩ := id hI
  refine .go Try.call85 Try.func85 false [] dOk ?_
  simp only [zbp, Nat.reduceAdd]
  repeat' (first
 |(refine za4 ?_; (first | refine zcm ?_ | refine zay ?_ | refine m13 ?_ | refine m12 ?_ | refine m11 ?_ | (refine m10 ?_; (first | refine zci ?_ | refine zcd ?_ | refine zch ?_ | refine zce ?_ | refine zcg ?_ ?_ | refine zcf ?_ ?_ | refine zcc ?_ ?_ | refine zcb ?_ ?_ | fail)) | (refine m09 ?_; (first | refine zci ?_ | refine zcd ?_ | refine zch ?_ | refine zce ?_ | refine zcg ?_ ?_ | refine zcf ?_ ?_ | refine zcc ?_ ?_ | refine zcb ?_ ?_ | fail)) | refine m38 ?_ | fail))
 |(refine za5 ?_; (first | refine m41 ?_ | refine zbj ?_ | refine m14 ?_ | (refine m17 ?_; first | refine m19 ?_ | refine m18 ?_) | (refine m07 ?_; (first | refine m15 ?_ | refine m16 ?_ | fail)) | (refine m45 ?_; (first | refine zbk ((k + 1 : Nat) : Int) (by omega) (by omega) ?_ | refine zeg (by exact rfl) ?_ | refine v_k ?_ | fail)) | (refine m00 ?_; (first | refine zbk ((k + 1 : Nat) : Int) (by omega) (by omega) ?_ | refine m52 ?_ | refine m53 ?_ | refine zgv ?_ | refine m47 ?_ | refine m48 ?_ | refine m49 ?_ | refine m50 ?_ | refine v_k ?_ | refine m51 ?_ | fail)) | (refine m22 ?_; (first | refine m26 ?_ | refine m27 ?_ | fail)) | refine m42 ?_ | refine zad ?_ | refine zae ?_ | refine m08 ?_ | refine zao ?_ | refine m01 ?_ | fail))
 |refine za2 ?_ | refine za3 ?_ | refine za1 ?_
 |(refine za6 ?_; (first | refine za0 ?_ | refine zab ?_ | (refine m06 ?_; (first | refine c_T ?_ | refine c_F ?_ | refine c_P ?_ ?_ | refine c_B ?_ ?_ | fail)) | refine zaz ?_ | refine zaq ?_ | refine zai ?_ | refine b_exit ?_ | (refine zbc [0, 3, 7, 8] n (fun k => ⟨[(0, .val (.int .i64 kd)), (3, .loc 3 0), (7, .val (.int .i64 ((n : Nat) : Int))), (8, .val (.int .i64 ((k : Nat) : Int)))], [(3, [D, .int .i64 mo, .int .i64 (n : Int), .int .i64 (n : Int), .int .i64 ld])], H ++ []⟩) (by exact rfl) ?_ ?_ <;> (first | intro k hk K hK | intro K) <;> (try dsimp only at *)) | fail))
 |refine m21 ?_
 |refine zbb ?_
 |(refine zbd ?_; (first | refine cA (z1w _ D l (FL.app hF _) mo ld n hI hG k k (by omega) (by omega) _ rfl) ?_ | fail))
 |refine zbz ?_ | refine zb0 ?_ | refine zby ?_ | refine m57 ?_
 |refine zfn ?_ | refine zfo ?_ | refine zfm ?_
 |(refine zfp (by exact rfl) ?_; first | exact hK | (exact (z5w hz1 (by assumption)).elim) | (exfalso; first | omega | (simp_all; done) | (simp_all; omega)))
 |refine m05 ?_
 |refine m04 ?_ | refine m02 ?_ | refine m03 ?_ | refine zar ?_
 |intro _)
  all_goals first | refine zan rfl (by simp [mx, mxL, aOf, zb1, zaf]) ?_ | (trace_state; fail)
  all_goals first
    | exact rfl
    | exact False.elim (z5v (hz (by omega) k (by omega)) (by assumption))
    | (exfalso; omega)
end
section
variable (H : List (List AV)) (b : Nat) (l : List Nat) (hbl : b < H.length) (xo xi : Int) (n : Nat) (hxI : VI l.length xo n xi) (hxR : zal l.length xo n xi) (D : AV) (hD : mx D ≤ H.length) (ml : Nat) (mo ld : Int) (hI : MI ml mo n n ld) (hG : zac ml mo n n ld) (a : Nat → Nat → Nat) (hrd : ∀ f, ∃ l', FL (H.set b (fl (zaw l xo xi n f))) D l' ∧ l'.length = ml ∧ ∀ i j, i < n → j < n → mel l' mo ld i j = a i j)
include hbl hxI hxR hD hI hG hrd in
theorem z4g (f : Nat → Nat) (N : List (List AV)) (i j : Nat) (hi : i < n) (hj : j < n) (ii jj : Int) (hii : ii = (i : Int)) (hjj : jj = (j : Int)) :
    zaa Try.prog 87 [(.agg [D, .int .i64 mo, .int .i64 (n : Int), .int .i64 (n : Int), .int .i64 ld, (.slm b l.length 0 l.length 1), .int .i64 xo, .int .i64 (n : Int), .int .i64 xi]), .int .i64 ii, .int .i64 jj] (H.set b (fl (zaw l xo xi n f)) ++ N) (.flt (a i j)) (H.set b (fl (zaw l xo xi n f)) ++ N) := by
  subst hii hjj
  obtain ⟨l', h1, h2, h3⟩ := hrd f
  subst h2
  exact z4f _ D l' (h1.app N) mo ld n hI hG _ xo xi i j hi hj _ (h3 i j hi hj)
end
section
variable (H : List (List AV)) (b : Nat) (l : List Nat) (hbl : b < H.length) (xo xi : Int) (n : Nat) (hxI : VI l.length xo n xi) (hxR : zal l.length xo n xi) (D : AV) (hD : mx D ≤ H.length) (ml : Nat) (mo ld : Int) (hI : MI ml mo n n ld) (hG : zac ml mo n n ld) (a : Nat → Nat → Nat) (hrd : ∀ f, ∃ l', FL (H.set b (fl (zaw l xo xi n f))) D l' ∧ l'.length = ml ∧ ∀ i j, i < n → j < n → mel l' mo ld i j = a i j)
include hbl hxI hxR hD hI hG hrd in
end
section
variable (H : List (List AV)) (b : Nat) (l : List Nat) (hbl : b < H.length) (xo xi : Int) (n : Nat) (hxI : VI l.length xo n xi) (hxR : zal l.length xo n xi) (D : AV) (hD : mx D ≤ H.length) (ml : Nat) (mo ld : Int) (hI : MI ml mo n n ld) (hG : zac ml mo n n ld) (a : Nat → Nat → Nat) (hrd : ∀ f, ∃ l', FL (H.set b (fl (zaw l xo xi n f))) D l' ∧ l'.length = ml ∧ ∀ i j, i < n → j < n → mel l' mo ld i j = a i j)
include hbl hxI hxR hD hI hG hrd in
theorem zx8 (f g : Nat → Nat) (N : List (List AV)) (i k : Nat) (hi : i < n) (hk : k < n) (ii kk : Int) (hii : ii = (i : Int)) (hkk : kk = (k : Int)) (y : Nat) (hg : ∀ t, t < n → zow f i (zoe (f i) (zd8 y (f k))) t = g t) :
    zaa Try.prog 86 [(.agg [D, .int .i64 mo, .int .i64 (n : Int), .int .i64 (n : Int), .int .i64 ld, (.slm b l.length 0 l.length 1), .int .i64 xo, .int .i64 (n : Int), .int .i64 xi]), .int .i64 ii, .int .i64 kk, .flt y] (H.set b (fl (zaw l xo xi n f)) ++ N) (.tup []) (H.set b (fl (zaw l xo xi n g)) ++ N) := by
  subst hii hkk
  have h := zx7 (H ++ N) _ b l (by simp; omega) xo xi n hxI hxR D (by simp; omega) mo ld f i k hi hk y g hg rfl
  rwa [za9 hbl, za9 hbl] at h
end
section
variable (H : List (List AV)) (b : Nat) (l : List Nat) (hbl : b < H.length) (xo xi : Int) (n : Nat) (hxI : VI l.length xo n xi) (hxR : zal l.length xo n xi) (D : AV) (hD : mx D ≤ H.length) (ml : Nat) (mo ld : Int) (hI : MI ml mo n n ld) (hG : zac ml mo n n ld) (a : Nat → Nat → Nat) (hrd : ∀ f, ∃ l', FL (H.set b (fl (zaw l xo xi n f))) D l' ∧ l'.length = ml ∧ ∀ i j, i < n → j < n → mel l' mo ld i j = a i j)
include hbl hxI hxR hD hI hG hrd in
theorem zup (f : Nat → Nat) (N : List (List AV)) : zaa Try.prog 82 [vt (.slm b l.length 0 l.length 1) xo (n : Int) xi] (H.set b (fl (zaw l xo xi n f)) ++ N) (.bool true) (H.set b (fl (zaw l xo xi n f)) ++ N) := by
  have hF : FL (H.set b (fl (zaw l xo xi n f)) ++ N) (.slm b l.length 0 l.length 1) (zaw l xo xi n f) := FL.set hbl (by simp) (by simp)
  have h := zhx _ _ _ hF xo n xi (by simpa using hxI)
  rwa [decide_eq_true (by simpa using hxR)] at h
end
section
variable (H : List (List AV)) (b : Nat) (l : List Nat) (hbl : b < H.length) (xo xi : Int) (n : Nat) (hxI : VI l.length xo n xi) (hxR : zal l.length xo n xi) (D : AV) (hD : mx D ≤ H.length) (ml : Nat) (mo ld : Int) (hI : MI ml mo n n ld) (hG : zac ml mo n n ld) (a : Nat → Nat → Nat) (hrd : ∀ f, ∃ l', FL (H.set b (fl (zaw l xo xi n f))) D l' ∧ l'.length = ml ∧ ∀ i j, i < n → j < n → mel l' mo ld i j = a i j)
include hbl hxI hxR hD hI hG hrd in
theorem z1e (f : Nat → Nat) (N : List (List AV)) : zaa Try.prog 84 [vt (.slm b l.length 0 l.length 1) xo (n : Int) xi] (H.set b (fl (zaw l xo xi n f)) ++ N) (mt (.slm b l.length 0 l.length 1) xo 1 (n : Int) xi) (H.set b (fl (zaw l xo xi n f)) ++ N) :=
  z1d _ _ (zaw l xo xi n f) (FL.set hbl (by simp) (by simp)) xo n xi (by simpa using hxI)
end
section
variable (H : List (List AV)) (b : Nat) (l : List Nat) (hbl : b < H.length) (xo xi : Int) (n : Nat) (hxI : VI l.length xo n xi) (hxR : zal l.length xo n xi) (D : AV) (hD : mx D ≤ H.length) (ml : Nat) (mo ld : Int) (hI : MI ml mo n n ld) (hG : zac ml mo n n ld) (a : Nat → Nat → Nat) (hrd : ∀ f, ∃ l', FL (H.set b (fl (zaw l xo xi n f))) D l' ∧ l'.length = ml ∧ ∀ i j, i < n → j < n → mel l' mo ld i j = a i j)
include hbl hxI hxR hD hI hG hrd in
theorem zx4 (f : Nat → Nat) (N : List (List AV)) : zaa Try.prog 30 [mt D mo (n : Int) (n : Int) ld] (H.set b (fl (zaw l xo xi n f)) ++ N) (.bool true) (H.set b (fl (zaw l xo xi n f)) ++ N) := by
  obtain ⟨l', h1, h2, h3⟩ := hrd f
  have h := zd1 (H.set b (fl (zaw l xo xi n f)) ++ N) D ml mo n n ld (h2 ▸ h1.len) hI
  rwa [decide_eq_true hG] at h
end
section
variable (H : List (List AV)) (b : Nat) (l : List Nat) (hbl : b < H.length) (xo xi : Int) (n : Nat) (hxI : VI l.length xo n xi) (hxR : zal l.length xo n xi) (D : AV) (hD : mx D ≤ H.length) (ml : Nat) (mo ld : Int) (hI : MI ml mo n n ld) (hG : zac ml mo n n ld) (a : Nat → Nat → Nat) (hrd : ∀ f, ∃ l', FL (H.set b (fl (zaw l xo xi n f))) D l' ∧ l'.length = ml ∧ ∀ i j, i < n → j < n → mel l' mo ld i j = a i j)
include hbl hxI hxR hD hI hG hrd in
theorem zyg (f : Nat → Nat) (N : List (List AV)) (kd : Int) (hz : (kd = 2 ∨ kd = 4) → ∀ k, k < n → feq (a k k) 0 = false) : zaa Try.prog 85 [.int .i64 kd, mt D mo (n : Int) (n : Int) ld] (H.set b (fl (zaw l xo xi n f)) ++ N) (.bool false) (H.set b (fl (zaw l xo xi n f)) ++ N) := by
  obtain ⟨l', h1, h2, h3⟩ := hrd f
  subst h2
  exact zyf _ D l' (h1.app N) mo ld n hI hG kd (fun h k hk => by rw [h3 k k hk hk]; exact hz h k hk)
end
section
attribute [local irreducible] Ex zau exD opX opE zdh zfd zfl Spec zaa Fr zdg zbf zbe ckK zcq zda zbo faK zcz ze4 gK fK rK zgd lpX prK
theorem zr4 (H : List (List AV)) (b : Nat) (l : List Nat) (hbl : b < H.length) (xo xi : Int) (n : Nat) (hxI : VI l.length xo n xi) (hxR : zal l.length xo n xi) (D : AV) (hD : mx D ≤ H.length) (ml : Nat) (mo ld : Int) (hI : MI ml mo n n ld) (hG : zac ml mo n n ld) (a : Nat → Nat → Nat) (hrd : ∀ f, ∃ l', FL (H.set b (fl (zaw l xo xi n f))) D l' ∧ l'.length = ml ∧ ∀ i j, i < n → j < n → mel l' mo ld i j = a i j) (f : Nat → Nat) (kd : Int) (hk1 : 1 ≤ kd) (hk4 : kd ≤ 4) :
    zaa Try.prog 83 [.int .i64 kd, mt D mo (n : Int) (n : Int) ld, .int .i64 (n : Int)] (H.set b (fl (zaw l xo xi n f))) (.int .i64 0) (H.set b (fl (zaw l xo xi n f))) := by
  obtain ⟨hm, ho1, ho2, hr1, hr2, hc1, hc2, hl1, hl2⟩ := id hI
  refine .go Try.call83 Try.func83 false [] dOk ?_
  simp only [zbp, Nat.reduceAdd]
  repeat' (first
 |(refine za4 ?_; (first | refine zcm ?_ | refine zay ?_ | refine m13 ?_ | refine m12 ?_ | refine m11 ?_ | (refine m10 ?_; (first | refine zci ?_ | refine zcd ?_ | refine zch ?_ | refine zce ?_ | refine zcg ?_ ?_ | refine zcf ?_ ?_ | refine zcc ?_ ?_ | refine zcb ?_ ?_ | fail)) | (refine m09 ?_; (first | refine zci ?_ | refine zcd ?_ | refine zch ?_ | refine zce ?_ | refine zcg ?_ ?_ | refine zcf ?_ ?_ | refine zcc ?_ ?_ | refine zcb ?_ ?_ | fail)) | refine m38 ?_ | fail))
 |(refine za5 ?_; (first | refine m14 ?_ | (refine m17 ?_; first | refine m19 ?_ | refine m18 ?_) | (refine m07 ?_; (first | refine m15 ?_ | refine m16 ?_ | fail)) | (refine m00 ?_; (first | refine m54 ?_ | refine m55 ?_ | refine zck ?_ | refine m47 ?_ | refine m48 ?_ | refine m49 ?_ | refine m50 ?_ | refine zdk ?_ | refine zdi ?_ | refine zdj ?_ | refine v_k ?_ | refine m51 ?_ | fail)) | (refine m22 ?_; (first | refine m26 ?_ | refine m27 ?_ | fail)) | refine m42 ?_ | refine zad ?_ | refine zae ?_ | refine m08 ?_ | (refine m20 ?_; (first | refine m54 ?_ | refine m55 ?_ | refine zck ?_ | refine m47 ?_ | refine m48 ?_ | refine m49 ?_ | refine m50 ?_ | refine zdk ?_ | refine zdi ?_ | refine zdj ?_ | refine v_k ?_ | refine m51 ?_ | fail)) | refine zao ?_ | refine m01 ?_ | fail))
 |refine za2 ?_ | refine za3 ?_ | refine za1 ?_
 |(refine za6 ?_; (first | refine za0 ?_ | refine zab ?_ | (refine m06 ?_; (first | refine c_T ?_ | refine c_F ?_ | refine c_P ?_ ?_ | refine c_B ?_ ?_ | fail)) | refine zaz ?_ | refine zaq ?_ | refine zai ?_ | refine b_exit ?_ | fail))
 |refine m21 ?_
 |refine zbb ?_
 |(refine zbd ?_; (first | refine cA (zx4 H b l hbl xo xi n hxI hxR D hD ml mo ld hI hG a hrd f []) ?_ | fail))
 |refine zbz ?_ | refine zb0 ?_ | refine zby ?_ | refine m57 ?_
 |refine m05 ?_
 |refine m04 ?_ | refine m02 ?_ | refine m03 ?_ | refine zar ?_
 |intro _)
  all_goals first
    | (exfalso; contradiction)
    | (exfalso; omega)
    | (refine zan (by simp) (by simp [mx, mxL, zaf, aOf, zb1]) ?_; exact rfl)
theorem zr3 (H : List (List AV)) (b : Nat) (l : List Nat) (hbl : b < H.length) (xo xi : Int) (n : Nat) (hxI : VI l.length xo n xi) (hxR : zal l.length xo n xi) (D : AV) (hD : mx D ≤ H.length) (ml : Nat) (mo ld : Int) (hI : MI ml mo n n ld) (hG : zac ml mo n n ld) (a : Nat → Nat → Nat) (hrd : ∀ f, ∃ l', FL (H.set b (fl (zaw l xo xi n f))) D l' ∧ l'.length = ml ∧ ∀ i j, i < n → j < n → mel l' mo ld i j = a i j) (f : Nat → Nat) (N : List (List AV)) (kd : Int) (hk1 : 1 ≤ kd) (hk4 : kd ≤ 4) : zaa Try.prog 83 [.int .i64 kd, mt D mo (n : Int) (n : Int) ld, .int .i64 (n : Int)] (H.set b (fl (zaw l xo xi n f)) ++ N) (.int .i64 0) (H.set b (fl (zaw l xo xi n f)) ++ N) := by
  have hs : ∀ X, (H ++ N).set b X = H.set b X ++ N := fun X => za9 hbl
  have h := zr4 (H ++ N) b l (by simp; omega) xo xi n hxI hxR D (by simp; omega) ml mo ld hI hG a (fun f => by obtain ⟨l', h1, h2⟩ := hrd f; rw [hs]; exact ⟨l', h1.app N, h2⟩) f kd hk1 hk4
  rwa [hs] at h
theorem z1m (H : List (List AV)) (b : Nat) (l : List Nat) (hbl : b < H.length) (xo xi : Int) (n : Nat) (hxI : VI l.length xo n xi) (hxR : zal l.length xo n xi) (D : AV) (hD : mx D ≤ H.length) (ml : Nat) (mo ld : Int) (hI : MI ml mo n n ld) (hG : zac ml mo n n ld) (a : Nat → Nat → Nat) (hrd : ∀ f, ∃ l', FL (H.set b (fl (zaw l xo xi n f))) D l' ∧ l'.length = ml ∧ ∀ i j, i < n → j < n → mel l' mo ld i j = a i j) (hmeet : ∀ f N, zaa Try.prog 34 [mt (.slm b l.length 0 l.length 1) xo 1 (n : Int) xi, mt D mo (n : Int) (n : Int) ld] (H.set b (fl (zaw l xo xi n f)) ++ N) (.bool false) (H.set b (fl (zaw l xo xi n f)) ++ N)) (f : Nat → Nat) :
    zaa Try.prog 66 [.int .i64 1, mt D mo (n : Int) (n : Int) ld, vt (.slm b l.length 0 l.length 1) xo (n : Int) xi] (H.set b (fl (zaw l xo xi n f))) (.int .i64 0) (H.set b (fl (zaw l xo xi n (lo1 a f n)))) := by
  obtain ⟨hm, ho1, ho2, hr1, hr2, hc1, hc2, hl1, hl2⟩ := id hI
  obtain ⟨vn, vo1, vo2, vn1, vn2, vi1, vi2⟩ := id hxI
  have hA : ∀ k, (zaw l xo xi n (ziq a f k (k + 1 + 0))) = (zaw l xo xi n (lo1 a f k)) := fun k => zbh hxR.2.2.1 hxR.2.1 fun i hi => zog i
  have hB : ∀ k, k < n → (zaw l xo xi n (ziq a f k (k + 1 + (n - (k + 1))))) = (zaw l xo xi n (lo1 a f (k + 1))) := fun k hk => (by rw [show k + 1 + (n - (k + 1)) = n by omega]; exact zbh hxR.2.2.1 hxR.2.1 fun i hi => zqq i hi)
  refine .go Try.call66 Try.func66 false [] dOk ?_
  simp only [zbp, Nat.reduceAdd]
  repeat' (first
 |(refine za4 ?_; (first | refine zcm ?_ | refine zay ?_ | fail))
 |(refine za5 ?_; (first | refine m41 ?_ | refine zbj ?_ | refine m14 ?_ | (refine m17 ?_; first | refine m19 ?_ | refine m18 ?_) | (refine m07 ?_; (first | refine m15 ?_ | refine m16 ?_ | fail)) | refine zek (by (conv => {lhs; whnf}); done) ?_ | (refine m45 ?_; (first | refine zbk ((k + 1 : Nat) : Int) (by omega) (by omega) ?_ | refine zbk ((k + 1 + t + 1 : Nat) : Int) (by omega) (by omega) ?_ | refine zeg (by exact rfl) ?_ | refine v_k ?_ | fail)) | (refine m00 ?_; (first | refine zbk ((k + 1 : Nat) : Int) (by omega) (by omega) ?_ | refine zbk ((k + 1 + t + 1 : Nat) : Int) (by omega) (by omega) ?_ | refine m52 ?_ | refine m53 ?_ | refine zgv ?_ | refine m54 ?_ | refine m55 ?_ | refine zck ?_ | refine m47 ?_ | refine m48 ?_ | refine m49 ?_ | refine m50 ?_ | refine zyi (by omega) (by omega) ?_ | refine zdk ?_ | refine zdi ?_ | refine zdj ?_ | refine v_k ?_ | refine m51 ?_ | fail)) | refine m42 ?_ | refine zad ?_ | refine zae ?_ | refine m08 ?_ | (refine m20 ?_; (first | refine zbk ((k + 1 : Nat) : Int) (by omega) (by omega) ?_ | refine zbk ((k + 1 + t + 1 : Nat) : Int) (by omega) (by omega) ?_ | refine m52 ?_ | refine m53 ?_ | refine zgv ?_ | refine m54 ?_ | refine m55 ?_ | refine zck ?_ | refine m47 ?_ | refine m48 ?_ | refine m49 ?_ | refine m50 ?_ | refine zyi (by omega) (by omega) ?_ | refine zdk ?_ | refine zdi ?_ | refine zdj ?_ | refine v_k ?_ | refine m51 ?_ | fail)) | refine zao ?_ | refine m25 ?_ | refine m01 ?_ | refine m24 ?_ | refine zco ?_ | fail))
 |(refine zcv ?_; (first | refine m36 ?_ | refine zct ?_ | fail))
 |(refine zcu ?_; (first | refine zfe ?_ | refine zh6 ?_ | refine zh7 (by (conv => {lhs; whnf}); done) ?_ | refine zh8 ?_ | refine zh5 (by exact rfl) (by exact rfl) ?_ | refine m34 ?_ | refine m35 ?_ | refine m33 ?_ | refine zff ?_ | refine m56 ?_ | refine zcw ?_ | refine zdr (by exact rfl) ?_ | fail))
 |refine za2 ?_ | refine za3 ?_ | refine za1 ?_
 |(refine za6 ?_; (first | refine za0 ?_ | refine zab ?_ | (refine m06 ?_; (first | refine c_T ?_ | refine c_F ?_ | refine c_P ?_ ?_ | refine c_B ?_ ?_ | fail)) | refine zaz ?_ | refine zaq ?_ | refine zai ?_ | refine b_exit ?_ | refine zax (id := 6) [] [] [(0, .ld true), (2, .ld true), (1, .mn true), (3, .mn true), (4, .lt)] (by kernel_rfl) ?_ | refine zax (id := 10) [8] [] [(0, .ld true), (1, .ld true), (2, .lt), (3, .lt), (4, .ld true), (5, .bx), (6, .mn true), (7, .lt)] (by kernel_rfl) ?_ | refine zax (id := 19) [] [7] [(0, .ld true), (1, .lt), (2, .lt), (3, .ld true), (4, .lt), (5, .lt), (6, .mn true), (7, .mn false)] (by kernel_rfl) ?_ | refine zax (id := 25) [] [11] [(0, .ld true), (1, .lt), (5, .ld true), (6, .lt), (7, .lt), (2, .mn true), (3, .lt), (4, .ld true), (8, .mn true), (9, .lt), (10, .lt), (11, .mn false)] (by kernel_rfl) ?_ | refine zax (id := 29) [] [7] [(0, .ld true), (1, .lt), (2, .lt), (3, .ld true), (4, .lt), (5, .lt), (6, .mn true), (7, .mn false)] (by kernel_rfl) ?_ | refine zax (id := 38) [] [7] [(0, .ld true), (1, .lt), (2, .lt), (3, .ld true), (4, .lt), (5, .lt), (6, .mn true), (7, .mn false)] (by kernel_rfl) ?_ | refine zax (id := 46) [] [7] [(0, .ld true), (1, .lt), (2, .lt), (3, .ld true), (4, .lt), (5, .lt), (6, .mn true), (7, .mn false)] (by kernel_rfl) ?_ | refine zax (id := 48) [] [11] [(0, .ld true), (1, .lt), (5, .ld true), (6, .lt), (7, .lt), (2, .mn true), (3, .lt), (4, .ld true), (8, .mn true), (9, .lt), (10, .lt), (11, .mn false)] (by kernel_rfl) ?_ | (refine zbc [8, 9, 10, 11, 46, 47] (n - (k + 1)) (fun t => ⟨[(8, .loc 8 0), (9, .val (.int .i64 ((n : Nat) : Int))), (10, .val (.int .i64 ((k : Nat) : Int))), (11, .val (.int .i64 ((k + 1 + t : Nat) : Int))), (46, .val (.int .i64 ((n : Nat) : Int))), (47, .val (.int .i64 ((k : Nat) : Int)))], [(8, [D, .int .i64 mo, .int .i64 (n : Int), .int .i64 (n : Int), .int .i64 ld, (.slm b l.length 0 l.length 1), .int .i64 xo, .int .i64 (n : Int), .int .i64 xi])], H.set b (fl (zaw l xo xi n (ziq a f k (k + 1 + t)))) ++ []⟩) (by simp only [hA]; exact rfl) ?_ ?_ <;> (first | intro t ht K hK | intro K) <;> (try dsimp only at *)) | (refine zbc [8, 9, 46, 47] n (fun k => ⟨[(8, .loc 8 0), (9, .val (.int .i64 ((n : Nat) : Int))), (46, .val (.int .i64 ((n : Nat) : Int))), (47, .val (.int .i64 ((k : Nat) : Int)))], [(8, [D, .int .i64 mo, .int .i64 (n : Int), .int .i64 (n : Int), .int .i64 ld, (.slm b l.length 0 l.length 1), .int .i64 xo, .int .i64 (n : Int), .int .i64 xi])], H.set b (fl (zaw l xo xi n (lo1 a f k))) ++ []⟩) (by exact rfl) ?_ ?_ <;> (first | intro k hk K hK | intro K) <;> (try dsimp only at *)) | fail))
 |refine m21 ?_
 |refine zbb ?_
 |(refine zbd ?_; (first | refine cA (zup H b l hbl xo xi n hxI hxR D hD ml mo ld hI hG a hrd f []) ?_ | refine cA (zr3 H b l hbl xo xi n hxI hxR D hD ml mo ld hI hG a hrd f [] 1 (by omega) (by omega)) ?_ | refine cA (z1e H b l hbl xo xi n hxI hxR D hD ml mo ld hI hG a hrd f []) ?_ | refine cA (hmeet f []) ?_ | refine cA (zyg H b l hbl xo xi n hxI hxR D hD ml mo ld hI hG a hrd f [] 1 (fun h => absurd h (by omega))) ?_ | refine cA (z4g H b l hbl xo xi n hxI hxR D hD ml mo ld hI hG a hrd _ [] (k + 1 + t) (k) (by omega) (by omega) _ _ (by omega) (by omega)) ?_ | refine c_call (zx8 H b l hbl xo xi n hxI hxR D hD ml mo ld hI hG a hrd (ziq a f k (k + 1 + t)) (ziq a f k (k + 1 + t + 1)) [] (k + 1 + t) (k) (by omega) (by omega) _ _ (by omega) (by omega) _ (fun t' ht' => zqr (by omega) t')) (za7.set2 hbl (by simp) (by rw [zbs]; omega)) ?_ | fail))
 |refine m58 ?_
 |refine zdu ?_
 |refine zbz ?_ | refine zb0 ?_ | refine zby ?_ | refine m57 ?_
 |refine zfn ?_ | refine zfo ?_ | refine zfm ?_
 |(refine zfp (by exact rfl) ?_; first | exact hK | (rw [hB k (by omega)]; exact hK) | (exfalso; first | omega | (simp_all; done) | (simp_all; omega)))
 |refine m05 ?_
 |refine m04 ?_ | refine m02 ?_ | refine m03 ?_ | refine zar ?_
 |intro _)
  all_goals first
    | (exfalso; contradiction)
    | (exfalso; omega)
    | (refine zan (by simp) (by simp [mx, mxL, zaf, aOf, zb1]) ?_; exact rfl)
end
section
attribute [local irreducible] Ex zau exD opX opE zdh zfd zfl Spec zaa Fr zdg zbf zbe ckK zcq zda zbo faK zcz ze4 gK fK rK zgd lpX prK
end
theorem zx2 (H : List (List AV)) (D : AV) (l : List Nat) (hF : FL H D l) (off n inc : Int) (hI : VI l.length off n inc) (r : Bool) (hr : decide (zal l.length off n inc) = r) : zaa Try.prog 82 [vt D off n inc] H (.bool r) H := by
  subst hr; exact zhx H D l hF off n inc hI
def nb : Nat → DV → AV
  | 0, _ => .bool false
  | _ + 1, d => .bool d.neg
end Go.Sx
set_option linter.unusedVariables false
set_option linter.unusedSimpArgs false
set_option maxRecDepth 20000
namespace Go.Sx
open Ieee
theorem ztc (x y : Nat) : cn (zmy x y) = zmy x y ∧ zmy x y < 2 ^ 64 := by
  unfold zmy fop
  split
  · rename_i r hr
    exact ⟨zpn _, zwi (Ieee.Format.add_lt _ hr)⟩
  · exact ⟨by decide, by decide⟩
end Go.Sx
set_option linter.unusedVariables false
set_option linter.unusedSimpArgs false
namespace Go.Sx
def gmB (B y : Nat) : Nat := if feq B 0 = true then 0 else zd8 B y
def gmS (A : Nat) (row x : Nat → Nat) (s : Nat) : Nat → Nat
  | 0 => s
  | k + 1 => zmy (gmS A row x s k) (zd8 (zd8 A (x k)) (row k))
theorem zhp {A s n : Nat} {row row' x x' : Nat → Nat} (h : ∀ k, k < n → row k = row' k) (hx : ∀ k, k < n → x k = x' k) : gmS A row x s n = gmS A row' x' s n := by
  induction n with
  | zero => rfl
  | succ n ih => simp only [gmS]; rw [ih (fun k hk => h k (by omega)) (fun k hk => hx k (by omega)), h n (by omega), hx n (by omega)]
theorem zw6 {s n : Nat} {row x : Nat → Nat} : gmS zcn row x s (n + 1) = zoe (gmS zcn row x s n) (zd8 (row n) (x n)) := by
  simp only [gmS]; exact zm4
theorem zrn : Ieee.double.read 4607182418800017408 = .number false 4503599627370496 (-52) := by decide
theorem ztz {k : Nat} (hk : k ≤ 9218868437227405312) (s : Bool) : Ieee.double.mul 4607182418800017408 (Ieee.double.word s k) = some (Ieee.double.word s k) := by
  unfold Ieee.Format.mul
  rw [zrn, zdy _ _ hk]
  rcases Nat.lt_or_ge k 9218868437227405312 with h | h
  · obtain ⟨m, e, h1, h2⟩ := zgb h
    rw [h1]
    have e1 : (-52 + e : Int) = e + -52 := by omega
    cases s with
    | false => simp [Ieee.Datum.product, Ieee.Format.write, zeb, e1, h2]
    | true => simp [Ieee.Datum.product, Ieee.Datum.opposite, Ieee.Format.write, zeb, e1, h2]
  · have hke : k = 9218868437227405312 := by omega
    subst hke
    have hi : Ieee.double.read 9218868437227405312 = .infinity false := by decide
    rw [hi]
    cases s with
    | false => simp [Ieee.Datum.product, Ieee.Format.write, zps]
    | true => simp [Ieee.Datum.product, Ieee.Datum.opposite, Ieee.Format.write, zps]
theorem zuw {x : Nat} (hn : isNaN x = false) (h2 : x < 2 ^ 64) : ∃ s k, k ≤ 9218868437227405312 ∧ x = Ieee.double.word s k := by
  have h3 : x % 9223372036854775808 ≤ 9218868437227405312 := by
    rcases Nat.lt_or_ge 9218868437227405312 (x % 9223372036854775808) with h | h
    · have : isNaN x = true := by
        unfold isNaN Ieee.Format.read
        simp only [zta, zyp, zps]
        rw [if_neg (by omega), if_neg (by omega), if_neg (by omega)]
        rfl
      rw [this] at hn; cases hn
    · exact h
  by_cases h : x < 9223372036854775808
  · refine ⟨false, x, by omega, ?_⟩
    simp [Ieee.Format.word, zta]
  · refine ⟨true, x - 9223372036854775808, by omega, ?_⟩
    simp [Ieee.Format.word, zta]; omega
theorem zt4 {x : Nat} (h : cn x = x) (h2 : x < 2 ^ 64) : zd8 4607182418800017408 x = x := by
  have ff : ∀ (f : Nat → Nat → Option Nat) a b, fop f a b = (match f a b with | some r => cn r | none => qn) := fun _ _ _ => rfl
  show fop _ _ _ = _
  rw [ff]
  rcases zc3 x with ⟨h3, h4⟩ | ⟨h3, h4⟩
  · rw [(zjr _ h3).1]; rw [← h, h4]
  · obtain ⟨s, k, hk, e⟩ := zuw (by simpa using h3) h2
    subst e
    rw [ztz hk]; exact h
theorem Spec.canB {P : Program} {f : Nat} {args : List AV} {H H' : List (List AV)} {r : AV} {b : Nat} {l : List Nat} (hb : H[b]? = some (fl l)) (h : (∀ x ∈ l, cn x = x ∧ x < 2 ^ 64) → Spec P f args H r H') : Spec P f args H r H' := by
  intro w g c hw hl
  refine h (fun x hx => ?_) w g c hw hl
  obtain ⟨b', δ, c', e, -, -, -, hc, -⟩ := hw.blk b _ hb
  obtain ⟨i, hi, rfl⟩ := List.mem_iff_getElem.1 hx
  obtain ⟨v, -, -, hv⟩ := zdl.1 hc i (.flt l[i]) (by simp [fl, hi])
  simp only [zaj] at hv
  obtain ⟨q, rfl, h1, h2⟩ := hv
  rw [← h2]
  exact ⟨zpn q, zwi h1⟩
theorem zqu (a : Nat → Nat → Nat) (f : Nat → Nat) (p : Nat) (k t : Nat) : lo1 (fun i j => a (p + i) (p + j)) (fun t => lo1 a f p (p + t)) k t = lo1 a f (p + k) (p + t) := by
  induction k generalizing t with
  | zero => rfl
  | succ k ih =>
    by_cases h : k < t
    · rw [zhq h, ih t, ih k, show p + (k + 1) = (p + k) + 1 from rfl, zhq (by omega)]
    · rw [zgp (by omega), ih t, show p + (k + 1) = (p + k) + 1 from rfl, zgp (by omega)]
theorem zqs (a : Nat → Nat → Nat) (f : Nat → Nat) (p i : Nat) (m k : Nat) (hk : k ≤ m) (hi : p + m ≤ i) : gmS zcn (fun t => a i (p + t)) (fun t => lo1 a f (p + m) (p + t)) (lo1 a f p i) k = lo1 a f (p + k) i := by
  induction k with
  | zero => rfl
  | succ k ih =>
    rw [zw6, ih (by omega), show p + (k + 1) = (p + k) + 1 from rfl, zhq (by omega), zjn (j := p + m) (i := p + k) (by omega)]
def zed (g : Nat → Nat → Nat) (r0 m j0 : Nat) (f : Nat → Nat) : Nat → Nat → Nat := fun i j => if j = j0 ∧ r0 ≤ i ∧ i < r0 + m then f (i - r0) else g i j
theorem zec {k : Nat} {off xl : Int} {n c r0 m j : Nat} (hG : zac k off n c xl) (hr : r0 + m ≤ n) (hj : j < c) (hm : 0 < m) : zal k (off + ((r0 : Int) + (j : Int) * xl)) m 1 := by
  have h1 := zak hG (i := ((r0 + (m - 1) : Nat) : Int)) (j := (j : Int)) (by omega) (by omega) (by omega) (by omega)
  have h2 := zak hG (i := (r0 : Int)) (j := (j : Int)) (by omega) (by omega) (by omega) (by omega)
  obtain ⟨g1, g2, g3, g4, g5, g6⟩ := hG
  refine ⟨by omega, by omega, by omega, .inr ⟨by omega, by omega⟩⟩
theorem zrb {k : Nat} {off xl : Int} {n c r0 m j : Nat} (hG : zac k off n c xl) (hr : r0 + m ≤ n) (hj : j < c) (hm : 0 < m) : zac k (off + ((r0 : Int) + (j : Int) * xl)) 1 m 1 := (zec hG hr hj hm).good
theorem zmb {off xl : Int} {r0 j k : Nat} : pos (off + ((r0 : Int) + (j : Int) * xl)) 1 0 k = pos off xl (r0 + k) j := by
  unfold pos; congr 1; omega
theorem zxi {L : List Nat} {off xl : Int} {r0 j k : Nat} : mel L (off + ((r0 : Int) + (j : Int) * xl)) 1 0 k = mel L off xl (r0 + k) j := by
  rw [zbr, zbr, zmb]
theorem zum {L : List Nat} {off xl : Int} {n c r0 m j : Nat} {f : Nat → Nat} (hG : zac L.length off n c xl) (hr : r0 + m ≤ n) (hj : j < c) (hm : 0 < m) :
    zaw L (off + ((r0 : Int) + (j : Int) * xl)) 1 m f = zah L off xl n c (zed (mel L off xl) r0 m j f) := by
  have hC := zrb hG hr hj hm
  obtain ⟨h1, h2, h3, h4, h5, h6⟩ := id hG
  unfold zaw zah
  refine zdo fun p hp => ?_
  cases hl : loc (off + ((r0 : Int) + (j : Int) * xl)) 1 1 m p with
  | some q =>
    obtain ⟨i, k⟩ := q
    obtain ⟨hi', hj', rfl⟩ := zd2 (by omega) hC.2.2.1 hl
    have : i = 0 := by omega
    subst this
    rw [zmb, zfg hG (by omega) hj]
    simp only [zed]
    rw [if_pos ⟨trivial, by omega, by omega⟩]
    congr 1; omega
  | none =>
    cases hl' : loc off xl n c p with
    | some q =>
      obtain ⟨i', j'⟩ := q
      obtain ⟨hi', hj', rfl⟩ := zd2 h4 h3 hl'
      simp only [zed]
      rw [if_neg]
      · rfl
      · rintro ⟨k1, k2, k3⟩
        subst k1
        have := zfg (r := 1) (c := m) hC (i := 0) (j := i' - r0) (by omega) (by omega)
        rw [zmb, show r0 + (i' - r0) = i' from by omega, hl] at this
        cases this
    | none => rfl
theorem zh0 {l : List Nat} {off xl : Int} {n c r0 m j : Nat} {g : Nat → Nat → Nat} {f : Nat → Nat} (hG : zac l.length off n c xl) (hr : r0 + m ≤ n) (hj : j < c) (hm : 0 < m) :
    zaw (zah l off xl n c g) (off + ((r0 : Int) + (j : Int) * xl)) 1 m f = zah l off xl n c (zed g r0 m j f) := by
  rw [zum (by simpa using hG) hr hj hm, zlf]
  refine zam hG.2.2.2.1 hG.2.2.1 fun i k hi hk => ?_
  unfold zed
  split
  · rfl
  · exact zc6 hG hi hk
theorem zsd {l : List Nat} {off xl : Int} {n c r0 m j k : Nat} {g : Nat → Nat → Nat} (hG : zac l.length off n c xl) (hr : r0 + m ≤ n) (hj : j < c) (hk : k < m) :
    vf (zah l off xl n c g) (off + ((r0 : Int) + (j : Int) * xl)) 1 k = g (r0 + k) j := by
  unfold vf; rw [zxi, zc6 hG (by omega) hj]
def Can (x : Nat) : Prop := cn x = x ∧ x < 2 ^ 64
theorem zp1 (h : Nat → Nat → Option Nat) (hl : ∀ x y r, h x y = some r → r < 2 ^ 64) (x y : Nat) : Can (fop h x y) := by
  unfold fop
  split
  · rename_i r hr; exact ⟨zpn _, zwi (hl _ _ _ hr)⟩
  · exact ⟨by decide, by decide⟩
theorem zpz (x y : Nat) : Can (zmy x y) := ztc x y
theorem zp4 (x y : Nat) : Can (zoe x y) := zp1 _ (fun x y r h => Ieee.Format.sub_lt Ieee.double h) x y
theorem zp0 (x y : Nat) : Can (zd8 x y) := zp1 _ (fun x y r h => Ieee.Format.mul_lt Ieee.double h) x y
theorem zqa {x : Nat} (h : Can x) : gmB 4607182418800017408 x = x := by
  unfold gmB
  rw [if_neg (by decide +kernel), zt4 h.1 h.2]
theorem zxc {a : Nat → Nat → Nat} {f : Nat → Nat} (h : ∀ i, Can (f i)) (j i : Nat) : Can (lo1 a f j i) := by
  induction j generalizing i with
  | zero => exact h i
  | succ j ih =>
    show Can (if j < i then _ else _)
    split
    · exact zp4 _ _
    · exact ih i
def wrC (g g' : Nat → Nat → Nat) (k : Nat) : Nat → Nat → Nat := fun i j => if j < k then g' i j else g i j
theorem zhc {g g' : Nat → Nat → Nat} (i j : Nat) : wrC g g' 0 i j = g i j := by simp [wrC]
theorem zj6 {g g' : Nat → Nat → Nat} {c i j : Nat} (h : j < c) : wrC g g' c i j = g' i j := by simp [wrC, h]
theorem zvz {g g' : Nat → Nat → Nat} {c i : Nat} : wrC g g' c i c = g i c := by simp [wrC]
theorem zj7 {g g' : Nat → Nat → Nat} {k r0 m n : Nat} {f : Nat → Nat} (h : ∀ i, i < n → g' i k = (if r0 ≤ i ∧ i < r0 + m then f (i - r0) else g i k)) (i j : Nat) (hi : i < n) : zed (wrC g g' k) r0 m k f i j = wrC g g' (k + 1) i j := by
  unfold zed wrC
  by_cases hj : j = k
  · subst hj
    rw [if_pos (show j < j + 1 by omega), h i hi]
    by_cases hr : r0 ≤ i ∧ i < r0 + m
    · rw [if_pos ⟨rfl, hr⟩, if_pos hr]
    · rw [if_neg (fun q => hr q.2), if_neg hr, if_neg (by omega)]
  · rw [if_neg (fun q => hj q.1)]
    by_cases h2 : j < k
    · rw [if_pos h2, if_pos (by omega)]
    · rw [if_neg h2, if_neg (by omega)]
def loX (a x : Nat → Nat → Nat) (p : Nat) : Nat → Nat → Nat := fun i j => lo1 a (fun i => x i j) p i
def loA (a x : Nat → Nat → Nat) (p m : Nat) : Nat → Nat → Nat := fun i j => if p ≤ i ∧ i < p + m then lo1 a (fun i => x i j) (p + m) i else lo1 a (fun i => x i j) p i
theorem z0m (a x : Nat → Nat → Nat) (p m i j : Nat) : loA a x p m i j = (if p ≤ i ∧ i < p + m then lo1 (fun s t => a (p + s) (p + t)) (fun t => loX a x p (p + t) j) m (i - p) else loX a x p i j) := by
  unfold loA
  split
  · rename_i h
    have := zqu a (fun i => x i j) p m (i - p)
    rw [show p + (i - p) = i by omega] at this
    exact this.symm
  · rfl
theorem zvo (a x : Nat → Nat → Nat) (hx : ∀ i j, Can (x i j)) (p m n i j : Nat) (hi : i < n) (hp : p + m ≤ n) : loX a x (p + m) i j = (if p + m ≤ i ∧ i < p + m + (n - (p + m)) then gmS zcn (fun t => a i (p + t)) (fun t => loA a x p m (p + t) j) (gmB 4607182418800017408 (loA a x p m i j)) m else loA a x p m i j) := by
  by_cases h : p + m ≤ i
  · rw [if_pos (by omega)]
    have e : loA a x p m i j = lo1 a (fun i => x i j) p i := by unfold loA; rw [if_neg (by omega)]
    rw [e, zqa (zxc (fun i => hx i j) _ _), zhp (row' := fun t => a i (p + t)) (x' := fun t => lo1 a (fun i => x i j) (p + m) (p + t)) (fun _ _ => rfl) (fun t ht => by unfold loA; rw [if_pos (by omega)]), zqs a _ p i m m (by omega) h]
    rfl
  · rw [if_neg (by omega)]
    unfold loX loA
    split
    · rfl
    · rw [zjn (j := p + m) (by omega), zjn (j := p) (by omega)]
theorem zw4 (A : Nat) (row x : Nat → Nat) (s p m : Nat) : gmS A (fun k => row (p + k)) (fun k => x (p + k)) (gmS A row x s p) m = gmS A row x s (p + m) := by
  induction m with
  | zero => rfl
  | succ m ih => simp only [gmS]; rw [ih]; rfl
theorem zw3 (B y : Nat) : Can (gmB B y) := by
  unfold gmB; split
  · exact ⟨by decide, by decide⟩
  · exact zp0 _ _
theorem zw5 {A s : Nat} {row x : Nat → Nat} (h : Can s) (n : Nat) : Can (gmS A row x s n) := by
  cases n with
  | zero => exact h
  | succ n => exact zpz _ _
def gmM (a : Nat) (x y z : Nat → Nat → Nat) (p : Nat) : Nat → Nat → Nat := fun i j => gmS a (x i) (fun k => y k j) (z i j) p
def gmT (g g' : Nat → Nat → Nat) (j0 j1 i0 : Nat) : Nat → Nat → Nat := fun i j => if j < j0 ∨ (j < j1 ∧ i < i0) then g' i j else g i j
theorem zqc {g g' : Nat → Nat → Nat} {j1 : Nat} (i j : Nat) : gmT g g' 0 j1 0 i j = g i j := by
  unfold gmT; rw [if_neg (by omega)]
theorem zqd {g g' : Nat → Nat → Nat} {j0 j1 j2 : Nat} (i j : Nat) : gmT g g' j0 j1 0 i j = gmT g g' j0 j2 0 i j := by
  unfold gmT
  by_cases h : j < j0
  · rw [if_pos (.inl h), if_pos (.inl h)]
  · rw [if_neg (by omega), if_neg (by omega)]
theorem ztr {g g' : Nat → Nat → Nat} {j0 j1 j2 r : Nat} (h : j0 ≤ j1) (i j : Nat) (hi : i < r) : gmT g g' j0 j1 r i j = gmT g g' j1 j2 0 i j := by
  unfold gmT
  by_cases h2 : j < j1
  · rw [if_pos (.inr ⟨h2, hi⟩), if_pos (.inl h2)]
  · rw [if_neg (by omega), if_neg (by omega)]
theorem ztq {g g' : Nat → Nat → Nat} {c j2 : Nat} (i j : Nat) (hj : j < c) : gmT g g' c j2 0 i j = g' i j := by
  unfold gmT; rw [if_pos (.inl hj)]
theorem zts {g g' f : Nat → Nat → Nat} {j0 j1 i0 i1 : Nat} (hj : j0 ≤ j1) (hi : i0 ≤ i1) (hf : ∀ i j, i0 ≤ i → i < i1 → j0 ≤ j → j < j1 → f (i - i0) (j - j0) = g' i j) (i j : Nat) :
    zbw (gmT g g' j0 j1 i0) f i0 j0 (i1 - i0) (j1 - j0) i j = gmT g g' j0 j1 i1 i j := by
  unfold zbw
  by_cases h : i0 ≤ i ∧ i < i0 + (i1 - i0) ∧ j0 ≤ j ∧ j < j0 + (j1 - j0)
  · rw [if_pos h, hf i j h.1 (by omega) h.2.2.1 (by omega)]
    unfold gmT; rw [if_pos (.inr ⟨by omega, by omega⟩)]
  · rw [if_neg h]
    unfold gmT
    by_cases h1 : j < j0 ∨ (j < j1 ∧ i < i0)
    · rw [if_pos h1, if_pos (by omega)]
    · rw [if_neg h1, if_neg (by omega)]
theorem z0a {g g' : Nat → Nat → Nat} {j0 j1 i0 i j : Nat} (hi : i0 ≤ i) (hj : j0 ≤ j) : gmT g g' j0 j1 i0 i j = g i j := by
  unfold gmT; rw [if_neg (by omega)]
theorem zw7 (a : Nat) (x y z : Nat → Nat → Nat) (hz : ∀ i j, Can (z i j)) (p q : Nat) (hpq : p ≤ q) (i0 j0 i j : Nat) (hi : i0 ≤ i) (hj : j0 ≤ j) :
    gmS a (fun k => x (i0 + (i - i0)) (p + k)) (fun k => y (p + k) (j0 + (j - j0))) (gmB 4607182418800017408 (gmM a x y z p i j)) (q - p) = gmM a x y z q i j := by
  rw [show i0 + (i - i0) = i by omega, show j0 + (j - j0) = j by omega]
  unfold gmM
  rw [zqa (zw5 (hz i j) _), zw4 a (x i) (fun k => y k j) (z i j) p (q - p), show p + (q - p) = q by omega]
def gbP (B : Nat) (f : Nat → Nat) (t : Nat) : Nat → Nat := fun i => if i < t then gmB B (f i) else f i
def gmP (A : Nat) (a : Nat → Nat → Nat) (xv f : Nat → Nat) (j t : Nat) : Nat → Nat := fun i => if i < t then gmS A (a i) xv (f i) (j + 1) else gmS A (a i) xv (f i) j
def gmC (A : Nat) (a : Nat → Nat → Nat) (xv f : Nat → Nat) (j : Nat) : Nat → Nat := fun i => gmS A (a i) xv (f i) j
theorem ztj {B t : Nat} {f : Nat → Nat} (i : Nat) : zow (gbP B f t) t (gmB B (f t)) i = gbP B f (t + 1) i := by
  unfold zow gbP
  by_cases h : i = t
  · subst h; rw [if_pos rfl, if_pos (by omega)]
  · rw [if_neg h]
    by_cases h2 : i < t
    · rw [if_pos h2, if_pos (by omega)]
    · rw [if_neg h2, if_neg (by omega)]
theorem zz3 {B t : Nat} {f : Nat → Nat} : gbP B f t t = f t := by unfold gbP; rw [if_neg (by omega)]
theorem zp5 {B : Nat} {f : Nat → Nat} (i : Nat) : gbP B f 0 i = f i := by unfold gbP; rw [if_neg (by omega)]
theorem zti {B n : Nat} {f : Nat → Nat} (i : Nat) (h : i < n) : gbP B f n i = gmB B (f i) := by unfold gbP; rw [if_pos h]
theorem z3m {B y : Nat} (h : feq B 0 = true) : gmB B y = 0 := if_pos h
theorem z3l {B y : Nat} (h : feq B 0 = false) : gmB B y = zd8 B y := by unfold gmB; rw [h]; rfl
theorem ztp {A : Nat} {a : Nat → Nat → Nat} {xv f : Nat → Nat} {j t : Nat} (i : Nat) : zow (gmP A a xv f j t) t (zmy (gmP A a xv f j t t) (zd8 (zd8 A (xv j)) (a t j))) i = gmP A a xv f j (t + 1) i := by
  unfold zow
  by_cases h : i = t
  · subst h
    rw [if_pos rfl]
    have e : gmP A a xv f j i i = gmS A (a i) xv (f i) j := by unfold gmP; rw [if_neg (by omega)]
    rw [e]
    unfold gmP; rw [if_pos (by omega)]; rfl
  · rw [if_neg h]
    unfold gmP
    by_cases h2 : i < t
    · rw [if_pos h2, if_pos (by omega)]
    · rw [if_neg h2, if_neg (by omega)]
theorem zqb {A : Nat} {a : Nat → Nat → Nat} {xv f : Nat → Nat} {j : Nat} (i : Nat) : gmP A a xv f j 0 i = gmC A a xv f j i := by unfold gmP; rw [if_neg (by omega)]; rfl
theorem zto {A : Nat} {a : Nat → Nat → Nat} {xv f : Nat → Nat} {j n : Nat} (i : Nat) (h : i < n) : gmP A a xv f j n i = gmC A a xv f (j + 1) i := by unfold gmP; rw [if_pos h]; rfl
theorem znj {off xl : Int} {j k : Nat} : pos (off + (j : Int) * xl) 1 0 k = pos off xl k j := by
  unfold pos; congr 1; omega
variable {P : Program} {e : List (Nat × EV)} {L : List (Nat × List AV)} {H N : List (List AV)} {K : St → Prop} {dd : Nat}
theorem z3v {t : TypeId} {D : AV} {ml r c p i j : Nat} {mo ld : Int} {a : Nat → Nat → Nat} [ti : TyI P t 1 false] (h : ∃ l', FL H D l' ∧ l'.length = ml ∧ ∀ i j, i < r → j < c → mel l' mo ld i j = a i j) (hG : zac ml mo r c ld) (hi : i < r) (hj : j < c) (hp : p = pos mo ld i j)
    (hk : K ⟨(dd, .val (.flt (a i j))) :: e, L, H ++ N⟩) : zbo P t dd K ⟨e, L, H ++ N⟩ (.val (.eptr D p)) := by
  obtain ⟨l', h1, h2, h3⟩ := h
  subst h2 hp
  refine zqm (h1.app N) (zb2 hG hi hj) ?_
  have := h3 i j hi hj
  rw [zbr] at this
  rw [this]; exact hk
theorem z0j {t : TypeId} {X : AV} {ml n p i : Nat} {xo xi : Int} {xv : Nat → Nat} [ti : TyI P t 1 false] (h : ∃ l', FL H X l' ∧ l'.length = ml ∧ ∀ i, i < n → vf l' xo xi i = xv i) (hR : zal ml xo n xi) (hi : i < n) (hp : p = pos xo xi 0 i)
    (hk : K ⟨(dd, .val (.flt (xv i))) :: e, L, H ++ N⟩) : zbo P t dd K ⟨e, L, H ++ N⟩ (.val (.eptr X p)) := by
  obtain ⟨l', h1, h2, h3⟩ := h
  subst h2 hp
  refine zqm (h1.app N) (zeh hR hi) ?_
  have := h3 i hi
  unfold vf at this
  rw [zbr] at this
  rw [this]; exact hk
end Go.Sx
