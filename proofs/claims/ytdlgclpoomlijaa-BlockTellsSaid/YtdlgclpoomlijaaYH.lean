/- A part of the proofs of this seat: YH. No condition is set. -/
import Derived.Test.YtdlgclpoomlijaaYE
import Derived.Test.YtdlgclpoomlijaaYF
import Derived.Test.YtdlgclpoomlijaaYG
set_option maxHeartbeats 60000000
set_option linter.unusedVariables false
set_option linter.unusedSimpArgs false
set_option maxRecDepth 20000
namespace Go.Sx
open Go.Proofs
attribute [local irreducible] Ex zas exD opX opE zdd zfl zfs Spec zab Fr zda zbc zbb ckK zcd zc0 zbt faK zcs ze5 gK fK rK zg7 lpX prK
theorem ze8 (H : List (List AV)) (s1 s2 s3 : Int) (h1 : 1 ≤ s1) (h2 : 1 ≤ s2) (h3 : 1 ≤ s3) :
    zab Try.prog 13 [.agg [.int .i64 s1, .int .i64 s2, .int .i64 s3]] H (.bool true) H := by
  refine .go Try.call13 Try.func13 false [] dOk ?_
  simp only [zbf, Nat.reduceAdd]
  repeat' (first
 |(refine za1 ?_; (first | refine zce ?_ | refine zav ?_ | refine m13 ?_ | refine m12 ?_ | refine m11 ?_ | (refine m10 ?_; (first | refine zbr ?_ | refine zbm ?_ | refine zbq ?_ | refine zbn ?_ | refine zbp ?_ ?_ | refine zbo ?_ ?_ | refine zbl ?_ ?_ | refine zbk ?_ ?_ | fail)) | (refine m09 ?_; (first | refine zbr ?_ | refine zbm ?_ | refine zbq ?_ | refine zbn ?_ | refine zbp ?_ ?_ | refine zbo ?_ ?_ | refine zbl ?_ ?_ | refine zbk ?_ ?_ | fail)) | refine m38 ?_ | fail))
 |(refine za2 ?_; (first | refine m14 ?_ | (refine m17 ?_; first | refine m19 ?_ | refine m18 ?_) | (refine m07 ?_; (first | refine m15 ?_ | refine m16 ?_ | fail)) | (refine m00 ?_; (first | refine m47 ?_ | refine m48 ?_ | refine m49 ?_ | refine m50 ?_ | refine v_k ?_ | refine m51 ?_ | fail)) | (refine m22 ?_; (first | refine m26 ?_ | refine m27 ?_ | fail)) | refine m42 ?_ | refine zad ?_ | refine zae ?_ | refine m08 ?_ | refine m01 ?_ | fail))
 |refine zaz ?_ | refine za0 ?_ | refine zay ?_
 |(refine za3 ?_; (first | refine zax ?_ | refine zac ?_ | (refine m06 ?_; (first | refine c_T ?_ | refine c_F ?_ | refine c_P ?_ ?_ | refine c_B ?_ ?_ | fail)) | refine zaw ?_ | refine zam ?_ | refine zaf ?_ | refine b_exit ?_ | fail))
 |refine m05 ?_
 |refine m04 ?_ | refine m02 ?_ | refine m03 ?_ | refine zan ?_
 |intro _)
  all_goals first | refine zao rfl (by simp [mx, mxL, aOf, zb5, zai]) ?_ | (trace_state; fail)
  all_goals first
    | exact rfl
    | (exfalso; omega)
    | (refine congrArg AV.bool ?_; exact decide_eq_true (by omega))
theorem zk1 (H : List (List AV)) (s1 s2 s3 : Int) (h : ¬ (1 ≤ s1 ∧ 1 ≤ s2 ∧ 1 ≤ s3)) :
    zab Try.prog 13 [.agg [.int .i64 s1, .int .i64 s2, .int .i64 s3]] H (.bool false) H := by
  refine .go Try.call13 Try.func13 false [] dOk ?_
  simp only [zbf, Nat.reduceAdd]
  repeat' (first
 |(refine za1 ?_; (first | refine zce ?_ | refine zav ?_ | refine m13 ?_ | refine m12 ?_ | refine m11 ?_ | (refine m10 ?_; (first | refine zbr ?_ | refine zbm ?_ | refine zbq ?_ | refine zbn ?_ | refine zbp ?_ ?_ | refine zbo ?_ ?_ | refine zbl ?_ ?_ | refine zbk ?_ ?_ | fail)) | (refine m09 ?_; (first | refine zbr ?_ | refine zbm ?_ | refine zbq ?_ | refine zbn ?_ | refine zbp ?_ ?_ | refine zbo ?_ ?_ | refine zbl ?_ ?_ | refine zbk ?_ ?_ | fail)) | refine m38 ?_ | fail))
 |(refine za2 ?_; (first | refine m14 ?_ | (refine m17 ?_; first | refine m19 ?_ | refine m18 ?_) | (refine m07 ?_; (first | refine m15 ?_ | refine m16 ?_ | fail)) | (refine m00 ?_; (first | refine m47 ?_ | refine m48 ?_ | refine m49 ?_ | refine m50 ?_ | refine v_k ?_ | refine m51 ?_ | fail)) | (refine m22 ?_; (first | refine m26 ?_ | refine m27 ?_ | fail)) | refine m42 ?_ | refine zad ?_ | refine zae ?_ | refine m08 ?_ | refine m01 ?_ | fail))
 |refine zaz ?_ | refine za0 ?_ | refine zay ?_
 |(refine za3 ?_; (first | refine zax ?_ | refine zac ?_ | (refine m06 ?_; (first | refine c_T ?_ | refine c_F ?_ | refine c_P ?_ ?_ | refine c_B ?_ ?_ | fail)) | refine zaw ?_ | refine zam ?_ | refine zaf ?_ | refine b_exit ?_ | fail))
 |refine m05 ?_
 |refine m04 ?_ | refine m02 ?_ | refine m03 ?_ | refine zan ?_
 |intro _)
  all_goals first | refine zao rfl (by simp [mx, mxL, aOf, zb5, zai]) ?_ | (trace_state; fail)
  all_goals first
    | exact rfl
    | (exfalso; omega)
    | (refine congrArg AV.bool ?_; exact decide_eq_false (by omega))
theorem zej :
    (∀ (H : List (List AV)) (X : AV) (xm : Nat) (hX : slen X = some xm) (hmX : mx X ≤ H.length) (xo xr xc xl : Int) (hxI : MI xm xo xr xc xl) (Y : AV) (ym : Nat) (hY : slen Y = some ym) (hmY : mx Y ≤ H.length) (yo yr yc yl : Int) (hyI : MI ym yo yr yc yl) (Z : AV) (zm : Nat) (hZ : slen Z = some zm) (hmZ : mx Z ≤ H.length) (zo zr zc zl : Int) (hzI : MI zm zo zr zc zl) (hbad : ¬ (zaa xm xo xr xc xl ∧ zaa ym yo yr yc yl ∧ zaa zm zo zr zc zl)), zab Try.prog 59 [mt X xo xr xc xl, mt Y yo yr yc yl, mt Z zo zr zc zl] H (.int .i64 1) H) ∧
    (∀ (H : List (List AV)) (X : AV) (xm : Nat) (hX : slen X = some xm) (hmX : mx X ≤ H.length) (xo xr xc xl : Int) (hxI : MI xm xo xr xc xl) (Y : AV) (ym : Nat) (hY : slen Y = some ym) (hmY : mx Y ≤ H.length) (yo yr yc yl : Int) (hyI : MI ym yo yr yc yl) (Z : AV) (zm : Nat) (hZ : slen Z = some zm) (hmZ : mx Z ≤ H.length) (zo zr zc zl : Int) (hzI : MI zm zo zr zc zl) (hg : (zaa xm xo xr xc xl ∧ zaa ym yo yr yc yl ∧ zaa zm zo zr zc zl)) (hne : ¬ (xc = yr ∧ zr = xr ∧ zc = yc)), zab Try.prog 59 [mt X xo xr xc xl, mt Y yo yr yc yl, mt Z zo zr zc zl] H (.int .i64 3) H) := by
  refine ⟨?_, ?_⟩
  (intro H X xm hX hmX xo xr xc xl hxI Y ym hY hmY yo yr yc yl hyI Z zm hZ hmZ zo zr zc zl hzI hbad
   obtain ⟨xm1, xo1, xo2, xr1, xr2, xc1, xc2, xl1, xl2⟩ := id hxI
   obtain ⟨ym1, yo1, yo2, yr1, yr2, yc1, yc2, yl1, yl2⟩ := id hyI
   obtain ⟨zm1, zo1, zo2, zr1, zr2, zc1, zc2, zl1, zl2⟩ := id hzI
   refine .go Try.call59 Try.func59 false [] dOk ?_
   simp only [zbf, Nat.reduceAdd])
  rotate_left
  (intro H X xm hX hmX xo xr xc xl hxI Y ym hY hmY yo yr yc yl hyI Z zm hZ hmZ zo zr zc zl hzI hg hne
   obtain ⟨xm1, xo1, xo2, xr1, xr2, xc1, xc2, xl1, xl2⟩ := id hxI
   obtain ⟨ym1, yo1, yo2, yr1, yr2, yc1, yc2, yl1, yl2⟩ := id hyI
   obtain ⟨zm1, zo1, zo2, zr1, zr2, zc1, zc2, zl1, zl2⟩ := id hzI
   obtain ⟨hg1, hg2, hg3⟩ := hg
   refine .go Try.call59 Try.func59 false [] dOk ?_
   simp only [zbf, Nat.reduceAdd])
  rotate_left
  all_goals (repeat' (first
 |(refine za1 ?_; (first | refine zce ?_ | refine zav ?_ | refine m13 ?_ | refine m12 ?_ | refine m11 ?_ | (refine m10 ?_; (first | refine zbr ?_ | refine zbm ?_ | refine zbq ?_ | refine zbn ?_ | refine zbp ?_ ?_ | refine zbo ?_ ?_ | refine zbl ?_ ?_ | refine zbk ?_ ?_ | fail)) | (refine m09 ?_; (first | refine zbr ?_ | refine zbm ?_ | refine zbq ?_ | refine zbn ?_ | refine zbp ?_ ?_ | refine zbo ?_ ?_ | refine zbl ?_ ?_ | refine zbk ?_ ?_ | fail)) | refine m38 ?_ | fail))
 |(refine za2 ?_; (first | refine m14 ?_ | (refine m17 ?_; first | refine m19 ?_ | refine m18 ?_) | (refine m07 ?_; (first | refine m15 ?_ | refine m16 ?_ | fail)) | (refine m00 ?_; (first | refine m54 ?_ | refine m55 ?_ | refine zcb ?_ | refine m49 ?_ | refine m50 ?_ | refine zd3 ?_ | refine zd1 ?_ | refine zd2 ?_ | refine v_k ?_ | refine m51 ?_ | fail)) | (refine m22 ?_; (first | refine m26 ?_ | refine m27 ?_ | fail)) | refine m42 ?_ | refine zad ?_ | refine zae ?_ | refine m08 ?_ | (refine m20 ?_; (first | refine m54 ?_ | refine m55 ?_ | refine zcb ?_ | refine m49 ?_ | refine m50 ?_ | refine zd3 ?_ | refine zd1 ?_ | refine zd2 ?_ | refine v_k ?_ | refine m51 ?_ | fail)) | refine zar ?_ | refine m01 ?_ | fail))
 |refine zaz ?_ | refine za0 ?_ | refine zay ?_
 |(refine za3 ?_; (first | refine zax ?_ | refine zac ?_ | (refine m06 ?_; (first | refine c_T ?_ | refine c_F ?_ | refine c_P ?_ ?_ | refine c_B ?_ ?_ | fail)) | refine zaw ?_ | refine zam ?_ | refine zaf ?_ | refine b_exit ?_ | fail))
 |refine m21 ?_
 |refine zbi ?_
 |(refine zbj ?_; (first | refine cA (zd0 _ X xm xo xr xc xl hX hxI) ?_ | refine cA (zd0 _ Y ym yo yr yc yl hY hyI) ?_ | refine cA (zd0 _ Z zm zo zr zc zl hZ hzI) ?_ | fail))
 |refine zc7 ?_ | refine zc8 ?_ | refine zc6 ?_ | refine m57 ?_
 |refine m05 ?_
 |refine m04 ?_ | refine m02 ?_ | refine m03 ?_ | refine zan ?_
 |intro _))
  all_goals first
    | (exfalso; contradiction)
    | (exfalso; omega)
    | (exfalso; simp_all; done)
    | (exfalso; rename_i a1 a2 a3; exact hbad ⟨by simpa using a1, by simpa using a2, by simpa using a3⟩)
    | (exfalso; simp_all; omega)
    | (refine zao rfl (by simp [mx, mxL, zai, aOf, zb5]) ?_; exact rfl)
theorem zp4 : type_of% @zej.1 := @zej.1
theorem zp5 : type_of% @zej.2 := @zej.2
theorem zvs (H : List (List AV)) (X Y Z : AV) (xo xr xc xl yo yr yc yl zo zr zc zl : Int) (A B : Nat) (er : Int) (hne : er ≠ 0) (hck : ∀ N, zab Try.prog 59 [mt X xo xr xc xl, mt Y yo yr yc yl, mt Z zo zr zc zl] (H ++ N) (.int .i64 er) (H ++ N)) :
    zab Try.prog 31 [.flt A, mt X xo xr xc xl, mt Y yo yr yc yl, .flt B, mt Z zo zr zc zl] H (.int .i64 er) H := by
  refine .go Try.call31 Try.func31 false [] dOk ?_
  simp only [zbf, Nat.reduceAdd]
  repeat' (first
 |(refine za1 ?_; (first | refine zce ?_ | refine zav ?_ | refine m13 ?_ | refine m12 ?_ | refine m11 ?_ | (refine m10 ?_; (first | refine zbr ?_ | refine zbm ?_ | refine zbq ?_ | refine zbn ?_ | refine zbp ?_ ?_ | refine zbo ?_ ?_ | refine zbl ?_ ?_ | refine zbk ?_ ?_ | fail)) | (refine m09 ?_; (first | refine zbr ?_ | refine zbm ?_ | refine zbq ?_ | refine zbn ?_ | refine zbp ?_ ?_ | refine zbo ?_ ?_ | refine zbl ?_ ?_ | refine zbk ?_ ?_ | fail)) | refine m38 ?_ | fail))
 |(refine za2 ?_; (first | refine m41 ?_ | refine zc9 ?_ | refine m14 ?_ | (refine m17 ?_; first | refine m19 ?_ | refine m18 ?_) | (refine m07 ?_; (first | refine m15 ?_ | refine m16 ?_ | fail)) | (refine m45 ?_; (first | refine zde (by exact rfl) ?_ | refine v_k ?_ | fail)) | (refine m00 ?_; (first | refine m52 ?_ | refine m53 ?_ | refine ze3 ?_ | refine m54 ?_ | refine m55 ?_ | refine zcb ?_ | refine m47 ?_ | refine m48 ?_ | refine m49 ?_ | refine m50 ?_ | refine v_k ?_ | refine m51 ?_ | fail)) | (refine m22 ?_; (first | refine m26 ?_ | refine m27 ?_ | fail)) | refine m42 ?_ | refine zad ?_ | refine zae ?_ | refine m08 ?_ | refine zar ?_ | refine m01 ?_ | fail))
 |(refine zcy ?_; (first | refine m36 ?_ | refine zcw ?_ | refine m32 ?_ | refine m31 ?_ | refine m30 ?_ | (refine m28 ?_; (first | refine zb2 ?_ | refine zbx ?_ | refine zb1 ?_ | refine zby ?_ | refine zb0 ?_ ?_ | refine zbz ?_ ?_ | refine zbw ?_ ?_ | refine zbv ?_ ?_ | fail)) | (refine m29 ?_; (first | refine zb2 ?_ | refine zbx ?_ | refine zb1 ?_ | refine zby ?_ | refine zb0 ?_ ?_ | refine zbz ?_ ?_ | refine zbw ?_ ?_ | refine zbv ?_ ?_ | fail)) | refine m37 ?_ | fail))
 |(refine zcx ?_; (first | refine zgb ?_ | refine zh9 ?_ | refine zia (by (conv => {lhs; whnf}); done) ?_ | refine zib ?_ | refine zh8 (by exact rfl) (by exact rfl) ?_ | refine m34 ?_ | refine m35 ?_ | refine m33 ?_ | refine zgc ?_ | refine m56 ?_ | refine zcz ?_ | refine zdr (by exact rfl) ?_ | fail))
 |refine zaz ?_ | refine za0 ?_ | refine zay ?_
 |(refine za3 ?_; (first | refine zax ?_ | refine zac ?_ | (refine m06 ?_; (first | refine c_T ?_ | refine c_F ?_ | refine c_P ?_ ?_ | refine c_B ?_ ?_ | fail)) | refine zaw ?_ | refine zam ?_ | refine zaf ?_ | refine b_exit ?_ | refine zba (id := 7) [] [9] [(0, .lt), (1, .ld true), (2, .ld true), (3, .lt), (5, .lt), (6, .ld true), (7, .lt), (4, .mn true), (8, .mn true), (9, .mn false)] (by kernel_rfl) ?_ | fail))
 |refine m21 ?_
 |refine zbi ?_
 |(refine zbj ?_; (first | refine cA (hck _) ?_ | fail))
 |refine zc7 ?_ | refine zc8 ?_ | refine zc6 ?_ | refine m57 ?_
 |refine zkg ?_ | refine zkh ?_ | refine zkf ?_
 |(refine zkk (by exact rfl) ?_; first | exact hK | (exfalso; first | omega | (simp_all; done) | (simp_all; omega)))
 |refine m05 ?_
 |refine m04 ?_ | refine m02 ?_ | refine m03 ?_ | refine zan ?_
 |intro _)
  all_goals first
    | (exfalso; contradiction)
    | (exfalso; omega)
    | (exfalso; simp_all; done)
    | (exfalso; simp_all; omega)
    | (refine zao rfl (by simp [mx, mxL, zai, aOf, zb5]) ?_; exact rfl)
theorem zga :
    (∀ (H : List (List AV)) (s1 s2 s3 : Int) (hbad : ¬ (1 ≤ s1 ∧ 1 ≤ s2 ∧ 1 ≤ s3)) (X Y Z : AV) (xo xr xc xl yo yr yc yl zo zr zc zl : Int) (A B : Nat), zab Try.prog 11 [.agg [.int .i64 s1, .int .i64 s2, .int .i64 s3], .flt A, mt X xo xr xc xl, mt Y yo yr yc yl, .flt B, mt Z zo zr zc zl] H (.int .i64 1) H) ∧
    (∀ (H : List (List AV)) (s1 s2 s3 : Int) (h1 : 1 ≤ s1) (h2 : 1 ≤ s2) (h3 : 1 ≤ s3) (X : AV) (xm : Nat) (hX : slen X = some xm) (hmX : mx X ≤ H.length) (xo xr xc xl : Int) (hxI : MI xm xo xr xc xl) (Y : AV) (ym : Nat) (hY : slen Y = some ym) (hmY : mx Y ≤ H.length) (yo yr yc yl : Int) (hyI : MI ym yo yr yc yl) (Z : AV) (zm : Nat) (hZ : slen Z = some zm) (hmZ : mx Z ≤ H.length) (zo zr zc zl : Int) (hzI : MI zm zo zr zc zl) (hbad : ¬ (zaa xm xo xr xc xl ∧ zaa ym yo yr yc yl ∧ zaa zm zo zr zc zl)) (A B : Nat), zab Try.prog 11 [.agg [.int .i64 s1, .int .i64 s2, .int .i64 s3], .flt A, mt X xo xr xc xl, mt Y yo yr yc yl, .flt B, mt Z zo zr zc zl] H (.int .i64 1) H) := by
  refine ⟨?_, ?_⟩
  (intro H s1 s2 s3 hbad X Y Z xo xr xc xl yo yr yc yl zo zr zc zl A B
   refine .go Try.call11 Try.func11 false [] dOk ?_
   simp only [zbf, Nat.reduceAdd])
  rotate_left
  (intro H s1 s2 s3 h1 h2 h3 X xm hX hmX xo xr xc xl hxI Y ym hY hmY yo yr yc yl hyI Z zm hZ hmZ zo zr zc zl hzI hbad A B
   obtain ⟨xm1, xo1, xo2, xr1, xr2, xc1, xc2, xl1, xl2⟩ := id hxI
   obtain ⟨ym1, yo1, yo2, yr1, yr2, yc1, yc2, yl1, yl2⟩ := id hyI
   obtain ⟨zm1, zo1, zo2, zr1, zr2, zc1, zc2, zl1, zl2⟩ := id hzI
   refine .go Try.call11 Try.func11 false [] dOk ?_
   simp only [zbf, Nat.reduceAdd])
  rotate_left
  all_goals (repeat' (first
 |(refine za1 ?_; (first | refine zce ?_ | refine zav ?_ | refine m13 ?_ | refine m12 ?_ | refine m11 ?_ | (refine m10 ?_; (first | refine zbr ?_ | refine zbm ?_ | refine zbq ?_ | refine zbn ?_ | refine zbp ?_ ?_ | refine zbo ?_ ?_ | refine zbl ?_ ?_ | refine zbk ?_ ?_ | fail)) | (refine m09 ?_; (first | refine zbr ?_ | refine zbm ?_ | refine zbq ?_ | refine zbn ?_ | refine zbp ?_ ?_ | refine zbo ?_ ?_ | refine zbl ?_ ?_ | refine zbk ?_ ?_ | fail)) | refine m38 ?_ | fail))
 |(refine za2 ?_; (first | refine m14 ?_ | (refine m17 ?_; first | refine m19 ?_ | refine m18 ?_) | (refine m07 ?_; (first | refine m15 ?_ | refine m16 ?_ | fail)) | refine zmy (by first | (conv => {lhs; whnf}; done) | exact (by exact rfl) | fail) (by first | (conv => {lhs; whnf}; done) | exact (by exact rfl) | fail) (by first | (conv => {lhs; whnf}; done) | exact (by exact rfl) | fail) (by exact rfl) ?_ | (refine m00 ?_; (first | refine m54 ?_ | refine m55 ?_ | refine zcb ?_ | refine m47 ?_ | refine m48 ?_ | refine m49 ?_ | refine m50 ?_ | refine zd3 ?_ | refine zd1 ?_ | refine zd2 ?_ | refine v_k ?_ | refine m51 ?_ | fail)) | (refine m22 ?_; (first | refine m26 ?_ | refine m27 ?_ | fail)) | refine m42 ?_ | refine zad ?_ | refine zae ?_ | refine m08 ?_ | (refine m20 ?_; (first | refine m54 ?_ | refine m55 ?_ | refine zcb ?_ | refine m47 ?_ | refine m48 ?_ | refine m49 ?_ | refine m50 ?_ | refine zd3 ?_ | refine zd1 ?_ | refine zd2 ?_ | refine v_k ?_ | refine m51 ?_ | fail)) | refine zar ?_ | refine m23 ?_ | refine m25 ?_ | refine m01 ?_ | refine m24 ?_ | refine zca ?_ | refine zky (by first | (conv => {lhs; whnf}; done) | exact (by exact rfl) | fail) (by first | (conv => {lhs; whnf}; done) | exact (by exact rfl) | fail) (by first | assumption | exact rfl) ?_ | fail))
 |(refine zcy ?_; (first | refine m36 ?_ | refine zcw ?_ | refine m32 ?_ | refine m31 ?_ | refine m30 ?_ | (refine m28 ?_; (first | refine zb2 ?_ | refine zbx ?_ | refine zb1 ?_ | refine zby ?_ | refine zb0 ?_ ?_ | refine zbz ?_ ?_ | refine zbw ?_ ?_ | refine zbv ?_ ?_ | fail)) | (refine m29 ?_; (first | refine zb2 ?_ | refine zbx ?_ | refine zb1 ?_ | refine zby ?_ | refine zb0 ?_ ?_ | refine zbz ?_ ?_ | refine zbw ?_ ?_ | refine zbv ?_ ?_ | fail)) | refine m37 ?_ | fail))
 |(refine zcx ?_; (first | refine zgb ?_ | refine zh9 ?_ | refine zia (by (conv => {lhs; whnf}); done) ?_ | refine zib ?_ | refine zh8 (by exact rfl) (by exact rfl) ?_ | refine m34 ?_ | refine m35 ?_ | refine m33 ?_ | refine zgc ?_ | refine m56 ?_ | refine zcz ?_ | refine zdr (by exact rfl) ?_ | fail))
 |refine zaz ?_ | refine za0 ?_ | refine zay ?_
 |(refine za3 ?_; (first | refine zax ?_ | refine zac ?_ | (refine m06 ?_; (first | refine c_T ?_ | refine c_F ?_ | refine c_P ?_ ?_ | refine c_B ?_ ?_ | fail)) | refine zaw ?_ | refine zam ?_ | refine zaf ?_ | refine b_exit ?_ | refine zba (id := 6) [] [11] [(0, .lt), (1, .ld true), (2, .lt), (3, .ld true), (5, .ld true), (6, .lt), (7, .ld true), (9, .lt), (10, .ld true), (4, .mn true), (8, .mn true), (11, .mn false), (12, .lt)] (by kernel_rfl) ?_ | fail))
 |refine m43 ?_
 |refine zd7 ?_
 |refine m21 ?_
 |refine zbi ?_
 |(refine zbj ?_; (first | refine cA (zk1 _ s1 s2 s3 hbad) ?_ | refine cA (ze8 _ s1 s2 s3 h1 h2 h3) ?_ | refine cA (zd0 _ X xm xo xr xc xl hX hxI) ?_ | refine cA (zd0 _ Y ym yo yr yc yl hY hyI) ?_ | refine cA (zd0 _ Z zm zo zr zc zl hZ hzI) ?_ | refine cA (zvs _ X Y Z xo xr xc xl yo yr yc yl zo zr zc zl A B 1 (by decide) (fun N => zp4 _ X xm hX (by simp; omega) xo xr xc xl hxI Y ym hY (by simp; omega) yo yr yc yl hyI Z zm hZ (by simp; omega) zo zr zc zl hzI hbad)) ?_ | fail))
 |refine m58 ?_
 |refine zdb ?_
 |refine zc7 ?_ | refine zc8 ?_ | refine zc6 ?_ | refine m57 ?_
 |refine m05 ?_
 |refine m04 ?_ | refine m02 ?_ | refine m03 ?_ | refine zan ?_
 |intro _))
  all_goals first
    | (exfalso; contradiction)
    | (exfalso; omega)
    | (exfalso; simp_all; done)
    | (exfalso; rename_i a1 a2 a3; exact hbad ⟨by simpa using a1, by simpa using a2, by simpa using a3⟩)
    | (exfalso; simp_all; omega)
    | (refine zao rfl (by simp [mx, mxL, zai, aOf, zb5]) ?_; exact rfl)
theorem zm2 : type_of% @zga.1 := @zga.1
theorem zm0 : type_of% @zga.2 := @zga.2
theorem zfd (H : List (List AV)) (D : AV) (l : List Nat) (hF : FL H D l) (off rows cols ld : Int) (hI : MI l.length off rows cols ld) (hG : zaa l.length off rows cols ld) : zab Try.prog 30 [mt D off rows cols ld] H (.bool true) H := by
  have h := zd0 H D l.length off rows cols ld hF.len hI
  rwa [decide_eq_true hG] at h
theorem zep {m : Nat} {off ld : Int} {r c r' c' : Nat} (hG : zaa m off r c ld) (hr : r' ≤ r) (hc : c' ≤ c) (h0 : r' = 0 ∨ c' = 0) : zaa m (zii off ld 0 0 (r' : Int) (c' : Int)) r' c' ld := by
  obtain ⟨g1, g2, g3, g4, g5, g6⟩ := hG
  unfold zii; rw [if_neg (by omega)]
  exact ⟨by omega, by omega, g3, g4, by omega, by omega⟩
theorem zgg {m : Nat} {off ld : Int} {r c r' c' : Nat} (hI : MI m off r c ld) (hr : r' ≤ r) (hc : c' ≤ c) (h0 : r' = 0 ∨ c' = 0) : MI m (zii off ld 0 0 (r' : Int) (c' : Int)) r' c' ld := by
  obtain ⟨hm, ho1, ho2, hr1, hr2, hc1, hc2, hl1, hl2⟩ := id hI
  unfold zii; rw [if_neg (by omega)]
  exact ⟨hm, ho1, ho2, by omega, by omega, by omega, by omega, hl1, hl2⟩
theorem zsj (H : List (List AV)) (X : AV) (lx : List Nat) (hxF : FL H X lx) (xo xl : Int) (xr xc : Nat) (hxI : MI lx.length xo xr xc xl) (hxG : zaa lx.length xo xr xc xl) (Y : AV) (ly : List Nat) (hyF : FL H Y ly) (yo yl : Int) (yr yc : Nat) (hyI : MI ly.length yo yr yc yl) (hyG : zaa ly.length yo yr yc yl) (zg : Nat → Nat → Nat) (zr zc : Nat) (hzr : zr ≤ 64) (hzc : zc ≤ 64) (A B : Nat) (N : List (List AV)) (hne : ¬ (zr = xr ∧ zc = yc)) :
    zab Try.prog 31 [.flt A, mt X (zii xo xl 0 0 (xr : Int) 0) (xr : Int) 0 xl, mt Y (zii yo yl 0 0 0 (yc : Int)) 0 (yc : Int) yl, .flt B, mt (.slm (H.length + 0) (zr * zc) 0 (zr * zc) 1) 0 (zr : Int) (zc : Int) ((max zr 1 : Nat) : Int)] (H ++ [fl (cmA zg zr zc)] ++ N) (.int .i64 3) (H ++ [fl (cmA zg zr zc)] ++ N) := by
  have hm1 := hxF.mx
  have hm2 := hyF.mx
  have e : (cmA zg zr zc).length = zr * zc := by simp [cmA]
  refine zvs _ X Y _ _ _ _ _ _ _ _ _ _ _ _ _ A B 3 (by decide) fun N' => zp5 _ X lx.length hxF.len (by simp; omega) _ _ _ _ (zgg (r' := xr) (c' := 0) hxI (by omega) (by omega) (.inr rfl)) Y ly.length hyF.len (by simp; omega) _ _ _ _ (zgg (r' := 0) (c' := yc) hyI (by omega) (by omega) (.inl rfl)) _ (zr * zc) rfl (by simp [mx]) _ _ _ _ (e ▸ zm9 hzr hzc) ⟨zep hxG (by omega) (by omega) (.inr rfl), zep hyG (by omega) (by omega) (.inl rfl), e ▸ zf8 zg zr zc⟩ ?_
  rintro ⟨_, h1, h2⟩
  exact hne ⟨by omega, by omega⟩
theorem zsk (H : List (List AV)) (bx : Nat) (lx : List Nat) (hbx : H[bx]? = some (fl lx)) (xo xl : Int) (xr xc : Nat) (hxI : MI lx.length xo xr xc xl) (hxG : zaa lx.length xo xr xc xl) (by_ : Nat) (ly : List Nat) (hby : H[by_]? = some (fl ly)) (yo yl : Int) (yr yc : Nat) (hyI : MI ly.length yo yr yc yl) (hyG : zaa ly.length yo yr yc yl) (zg : Nat → Nat → Nat) (zr zc : Nat) (hzr : zr ≤ 64) (hzc : zc ≤ 64) (hne1 : zr = xr) (hne2 : zc = yc) (A B : Nat) (N : List (List AV)) :
    zab Try.prog 31 [.flt A, mt (.slm bx lx.length 0 lx.length 1) (zii xo xl 0 0 (xr : Int) 0) (xr : Int) 0 xl, mt (.slm by_ ly.length 0 ly.length 1) (zii yo yl 0 0 0 (yc : Int)) 0 (yc : Int) yl, .flt B, mt (.slm (H.length + 0) (zr * zc) 0 (zr * zc) 1) 0 (zr : Int) (zc : Int) ((max zr 1 : Nat) : Int)] (H ++ [fl (cmA zg zr zc)] ++ N) (.int .i64 0) (H ++ [fl (cmA (fun i j => gmB B (zg i j)) zr zc)] ++ N) := by
  subst hne1 hne2
  have hx1 := (List.getElem?_eq_some_iff.1 hbx).1
  have hy1 := (List.getElem?_eq_some_iff.1 hby).1
  have e : (cmA zg zr zc).length = zr * zc := by simp [cmA]
  have hst : ∀ g, (H ++ [fl (cmA zg zr zc)] ++ N).set (H.length + 0) (fl (zal (cmA zg zr zc) 0 ((max zr 1 : Nat) : Int) zr zc g)) = H ++ [fl (cmA g zr zc)] ++ N := fun g => by
    rw [zqq, zdk (by simp), zet (N' := [fl (cmA g zr zc)]) rfl rfl]
  have hb1 : ∀ g N', (H ++ [fl (cmA g zr zc)] ++ N ++ N')[H.length + 0]? = some (fl (cmA g zr zc)) := fun g N' => by
    rw [List.append_assoc]; exact zdj (zau rfl rfl)
  have hxo : ∀ g N', (H ++ [fl (cmA g zr zc)] ++ N ++ N')[bx]? = some (fl lx) := fun g N' => by
    rw [List.append_assoc, List.append_assoc]; exact zdj hbx
  have hyo : ∀ g N', (H ++ [fl (cmA g zr zc)] ++ N ++ N')[by_]? = some (fl ly) := fun g N' => by
    rw [List.append_assoc, List.append_assoc]; exact zdj hby
  have h := zvr (H ++ [fl (cmA zg zr zc)] ++ N) (H.length + 0) (cmA zg zr zc) (by simp) 0 ((max zr 1 : Nat) : Int) zr zc (zm9 hzr hzc) (zf8 zg zr zc) _ _ (.inr (.inr ⟨Int.le_refl _, Int.le_refl _⟩)) 0
    (.slm bx lx.length 0 lx.length 1) (by simp [mx]; omega) lx.length (zii xo xl 0 0 (zr : Int) 0) xl (zgg (r' := zr) (c' := 0) hxI (by omega) (by omega) (.inr rfl)) (zep (r' := zr) (c' := 0) hxG (by omega) (by omega) (.inr rfl)) (fun _ _ => 0)
    (fun g => ⟨lx, by rw [hst]; have h9 := hxo g []; rw [List.append_nil] at h9; exact FL.old h9 rfl rfl, rfl, fun _ k _ hk => absurd hk (Nat.not_lt_zero k)⟩) false
    (fun g N' h1 h2 => by rw [hst]; exact zjq (hb1 g N') (by simp [cmA]) (hxo g N') rfl (by omega)) 0 0 (.inr (.inl rfl)) (fun h => by cases h)
    (.slm by_ ly.length 0 ly.length 1) (by simp [mx]; omega) ly.length (zii yo yl 0 0 0 (zc : Int)) yl (zgg (r' := 0) (c' := zc) hyI (by omega) (by omega) (.inl rfl)) (zep (r' := 0) (c' := zc) hyG (by omega) (by omega) (.inl rfl)) (fun _ _ => 0)
    (fun g => ⟨ly, by rw [hst]; have h9 := hyo g []; rw [List.append_nil] at h9; exact FL.old h9 rfl rfl, rfl, fun k _ hk _ => absurd hk (Nat.not_lt_zero k)⟩) false
    (fun g N' h1 h2 => by rw [hst]; exact zjq (hb1 g N') (by simp [cmA]) (hyo g N') rfl (by omega)) 0 0 (.inl rfl) (fun h => by cases h) A B zg
  rw [hst, hst, e] at h
  exact h
theorem zpk (H : List (List AV)) (X : AV) (lx : List Nat) (hxF : FL H X lx) (xo xl : Int) (xr xc : Nat) (hxI : MI lx.length xo xr xc xl) (hxG : zaa lx.length xo xr xc xl) (Y : AV) (ly : List Nat) (hyF : FL H Y ly) (yo yl : Int) (yr yc : Nat) (hyI : MI ly.length yo yr yc yl) (hyG : zaa ly.length yo yr yc yl) (zg : Nat → Nat → Nat) (zr zc : Nat) (hzr : zr ≤ 64) (hzc : zc ≤ 64) (A B : Nat) (hne : ¬ (zr = xr ∧ zc = yc)) :
    zab Try.prog 31 [.flt A, mt X (zii xo xl 0 0 (xr : Int) 0) (xr : Int) 0 xl, mt Y (zii yo yl 0 0 0 (yc : Int)) 0 (yc : Int) yl, .flt B, mt (.slm (H.length + 0) (zr * zc) 0 (zr * zc) 1) 0 (zr : Int) (zc : Int) ((max zr 1 : Nat) : Int)] (H ++ [fl (cmA zg zr zc)]) (.int .i64 3) (H ++ [fl (cmA zg zr zc)]) := by
  have h := zsj H X lx hxF xo xl xr xc hxI hxG Y ly hyF yo yl yr yc hyI hyG zg zr zc hzr hzc A B [] hne
  rwa [List.append_nil] at h
theorem zkz (H : List (List AV)) (bx : Nat) (lx : List Nat) (hbx : H[bx]? = some (fl lx)) (xo xl : Int) (xr xc : Nat) (hxI : MI lx.length xo xr xc xl) (hxG : zaa lx.length xo xr xc xl) (by_ : Nat) (ly : List Nat) (hby : H[by_]? = some (fl ly)) (yo yl : Int) (yr yc : Nat) (hyI : MI ly.length yo yr yc yl) (hyG : zaa ly.length yo yr yc yl) (zg : Nat → Nat → Nat) (zr zc : Nat) (hzr : zr ≤ 64) (hzc : zc ≤ 64) (hne1 : zr = xr) (hne2 : zc = yc) (A B : Nat) :
    zab Try.prog 31 [.flt A, mt (.slm bx lx.length 0 lx.length 1) (zii xo xl 0 0 (xr : Int) 0) (xr : Int) 0 xl, mt (.slm by_ ly.length 0 ly.length 1) (zii yo yl 0 0 0 (yc : Int)) 0 (yc : Int) yl, .flt B, mt (.slm (H.length + 0) (zr * zc) 0 (zr * zc) 1) 0 (zr : Int) (zc : Int) ((max zr 1 : Nat) : Int)] (H ++ [fl (cmA zg zr zc)]) (.int .i64 0) (H ++ [fl (cmA (fun i j => gmB B (zg i j)) zr zc)]) := by
  have h := zsk H bx lx hbx xo xl xr xc hxI hxG by_ ly hby yo yl yr yc hyI hyG zg zr zc hzr hzc hne1 hne2 A B []
  rwa [List.append_nil, List.append_nil] at h
theorem zcr :
    (∀ (H : List (List AV)) (s1 s2 s3 : Int) (h1 : 1 ≤ s1) (h2 : 1 ≤ s2) (h3 : 1 ≤ s3) (X : AV) (lx : List Nat) (hxF : FL H X lx) (xo xl : Int) (xr xc : Nat) (hxI : MI lx.length xo xr xc xl) (hxG : zaa lx.length xo xr xc xl) (Y : AV) (ly : List Nat) (hyF : FL H Y ly) (yo yl : Int) (yr yc : Nat) (hyI : MI ly.length yo yr yc yl) (hyG : zaa ly.length yo yr yc yl) (Z : AV) (lz : List Nat) (hzF : FL H Z lz) (zo zl : Int) (zr zc : Nat) (hzI : MI lz.length zo zr zc zl) (hzG : zaa lz.length zo zr zc zl) (hzr : zr ≤ 64) (hzc : zc ≤ 64) (hxc : xc ≤ 64) (hne : ¬ (zr = xr ∧ zc = yc)) (A B : Nat), zab Try.prog 11 [.agg [.int .i64 s1, .int .i64 s2, .int .i64 s3], .flt A, mt X xo (xr : Int) (xc : Int) xl, mt Y yo (yr : Int) (yc : Int) yl, .flt B, mt Z zo (zr : Int) (zc : Int) zl] H (.int .i64 3) H) ∧
    (∀ (H : List (List AV)) (s1 s2 s3 : Int) (h1 : 1 ≤ s1) (h2 : 1 ≤ s2) (h3 : 1 ≤ s3) (bx : Nat) (lx : List Nat) (hbx : H[bx]? = some (fl lx)) (xo xl : Int) (xr xc : Nat) (hxI : MI lx.length xo xr xc xl) (hxG : zaa lx.length xo xr xc xl) (by_ : Nat) (ly : List Nat) (hby : H[by_]? = some (fl ly)) (yo yl : Int) (yr yc : Nat) (hyI : MI ly.length yo yr yc yl) (hyG : zaa ly.length yo yr yc yl) (b : Nat) (l : List Nat) (hb : H[b]? = some (fl l)) (zo zl : Int) (zr zc : Nat) (hzI : MI l.length zo zr zc zl) (hzG : zaa l.length zo zr zc zl) (hzr : zr ≤ 64) (hzc : zc ≤ 64) (hxc : xc ≤ 64) (he1 : zr = xr) (he2 : zc = yc) (hne : xc ≠ yr) (A B : Nat), zab Try.prog 11 [.agg [.int .i64 s1, .int .i64 s2, .int .i64 s3], .flt A, mt (.slm bx lx.length 0 lx.length 1) xo (xr : Int) (xc : Int) xl, mt (.slm by_ ly.length 0 ly.length 1) yo (yr : Int) (yc : Int) yl, .flt B, mt (.slm b l.length 0 l.length 1) zo (zr : Int) (zc : Int) zl] H (.int .i64 3) H) ∧
    (∀ (H : List (List AV)) (s1 s2 s3 : Int) (h1 : 1 ≤ s1) (h2 : 1 ≤ s2) (h3 : 1 ≤ s3) (bx : Nat) (lx : List Nat) (hbx : H[bx]? = some (fl lx)) (xo xl : Int) (xr xc : Nat) (hxI : MI lx.length xo xr xc xl) (hxG : zaa lx.length xo xr xc xl) (by_ : Nat) (ly : List Nat) (hby : H[by_]? = some (fl ly)) (yo yl : Int) (yr yc : Nat) (hyI : MI ly.length yo yr yc yl) (hyG : zaa ly.length yo yr yc yl) (b : Nat) (l : List Nat) (hb : H[b]? = some (fl l)) (zo zl : Int) (zr zc : Nat) (hzI : MI l.length zo zr zc zl) (hzG : zaa l.length zo zr zc zl) (hzr : zr ≤ 64) (hzc : zc ≤ 64) (hxc : xc ≤ 64) (he1 : zr = xr) (he2 : zc = yc) (he3 : xc = yr) (hmb : ∀ N, zab Try.prog 34 [mt (.slm b l.length 0 l.length 1) zo (zr : Int) (zc : Int) zl, mt (.slm bx lx.length 0 lx.length 1) xo (xr : Int) (xc : Int) xl] (H ++ N) (.bool true) (H ++ N)) (A B : Nat), zab Try.prog 11 [.agg [.int .i64 s1, .int .i64 s2, .int .i64 s3], .flt A, mt (.slm bx lx.length 0 lx.length 1) xo (xr : Int) (xc : Int) xl, mt (.slm by_ ly.length 0 ly.length 1) yo (yr : Int) (yc : Int) yl, .flt B, mt (.slm b l.length 0 l.length 1) zo (zr : Int) (zc : Int) zl] H (.int .i64 2) H) ∧
    (∀ (H : List (List AV)) (s1 s2 s3 : Int) (h1 : 1 ≤ s1) (h2 : 1 ≤ s2) (h3 : 1 ≤ s3) (bx : Nat) (lx : List Nat) (hbx : H[bx]? = some (fl lx)) (xo xl : Int) (xr xc : Nat) (hxI : MI lx.length xo xr xc xl) (hxG : zaa lx.length xo xr xc xl) (by_ : Nat) (ly : List Nat) (hby : H[by_]? = some (fl ly)) (yo yl : Int) (yr yc : Nat) (hyI : MI ly.length yo yr yc yl) (hyG : zaa ly.length yo yr yc yl) (b : Nat) (l : List Nat) (hb : H[b]? = some (fl l)) (zo zl : Int) (zr zc : Nat) (hzI : MI l.length zo zr zc zl) (hzG : zaa l.length zo zr zc zl) (hzr : zr ≤ 64) (hzc : zc ≤ 64) (hxc : xc ≤ 64) (he1 : zr = xr) (he2 : zc = yc) (he3 : xc = yr) (hmb : ∀ N, zab Try.prog 34 [mt (.slm b l.length 0 l.length 1) zo (zr : Int) (zc : Int) zl, mt (.slm bx lx.length 0 lx.length 1) xo (xr : Int) (xc : Int) xl] (H ++ N) (.bool false) (H ++ N)) (hmc : ∀ N, zab Try.prog 34 [mt (.slm b l.length 0 l.length 1) zo (zr : Int) (zc : Int) zl, mt (.slm by_ ly.length 0 ly.length 1) yo (yr : Int) (yc : Int) yl] (H ++ N) (.bool true) (H ++ N)) (A B : Nat), zab Try.prog 11 [.agg [.int .i64 s1, .int .i64 s2, .int .i64 s3], .flt A, mt (.slm bx lx.length 0 lx.length 1) xo (xr : Int) (xc : Int) xl, mt (.slm by_ ly.length 0 ly.length 1) yo (yr : Int) (yc : Int) yl, .flt B, mt (.slm b l.length 0 l.length 1) zo (zr : Int) (zc : Int) zl] H (.int .i64 2) H) := by
  refine ⟨?_, ?_, ?_, ?_⟩
  (intro H s1 s2 s3 h1 h2 h3 X lx hxF xo xl xr xc hxI hxG Y ly hyF yo yl yr yc hyI hyG Z lz hzF zo zl zr zc hzI hzG hzr hzc hxc hne A B
   obtain ⟨xm1, xo1, xo2, xr1, xr2, xc1, xc2, xl1, xl2⟩ := id hxI
   obtain ⟨ym1, yo1, yo2, yr1, yr2, yc1, yc2, yl1, yl2⟩ := id hyI
   obtain ⟨zm1, zo1, zo2, zr1, zr2, zc1, zc2, zl1, zl2⟩ := id hzI
   refine .go Try.call11 Try.func11 false [] dOk ?_
   simp only [zbf, Nat.reduceAdd])
  rotate_left
  (intro H s1 s2 s3 h1 h2 h3 bx lx hbx xo xl xr xc hxI hxG by_ ly hby yo yl yr yc hyI hyG b l hb zo zl zr zc hzI hzG hzr hzc hxc he1 he2 hne A B
   obtain ⟨xm1, xo1, xo2, xr1, xr2, xc1, xc2, xl1, xl2⟩ := id hxI
   obtain ⟨ym1, yo1, yo2, yr1, yr2, yc1, yc2, yl1, yl2⟩ := id hyI
   obtain ⟨zm1, zo1, zo2, zr1, zr2, zc1, zc2, zl1, zl2⟩ := id hzI
   refine .go Try.call11 Try.func11 false [] dOk ?_
   simp only [zbf, Nat.reduceAdd])
  rotate_left
  (intro H s1 s2 s3 h1 h2 h3 bx lx hbx xo xl xr xc hxI hxG by_ ly hby yo yl yr yc hyI hyG b l hb zo zl zr zc hzI hzG hzr hzc hxc he1 he2 he3 hmb A B
   obtain ⟨xm1, xo1, xo2, xr1, xr2, xc1, xc2, xl1, xl2⟩ := id hxI
   obtain ⟨ym1, yo1, yo2, yr1, yr2, yc1, yc2, yl1, yl2⟩ := id hyI
   obtain ⟨zm1, zo1, zo2, zr1, zr2, zc1, zc2, zl1, zl2⟩ := id hzI
   refine .go Try.call11 Try.func11 false [] dOk ?_
   simp only [zbf, Nat.reduceAdd])
  rotate_left
  (intro H s1 s2 s3 h1 h2 h3 bx lx hbx xo xl xr xc hxI hxG by_ ly hby yo yl yr yc hyI hyG b l hb zo zl zr zc hzI hzG hzr hzc hxc he1 he2 he3 hmb hmc A B
   obtain ⟨xm1, xo1, xo2, xr1, xr2, xc1, xc2, xl1, xl2⟩ := id hxI
   obtain ⟨ym1, yo1, yo2, yr1, yr2, yc1, yc2, yl1, yl2⟩ := id hyI
   obtain ⟨zm1, zo1, zo2, zr1, zr2, zc1, zc2, zl1, zl2⟩ := id hzI
   refine .go Try.call11 Try.func11 false [] dOk ?_
   simp only [zbf, Nat.reduceAdd])
  rotate_left
  all_goals (repeat' (first
 |(refine za1 ?_; (first | refine zce ?_ | refine zav ?_ | refine m13 ?_ | refine m12 ?_ | refine m11 ?_ | (refine m10 ?_; (first | refine zbr ?_ | refine zbm ?_ | refine zbq ?_ | refine zbn ?_ | refine zbp ?_ ?_ | refine zbo ?_ ?_ | refine zbl ?_ ?_ | refine zbk ?_ ?_ | fail)) | (refine m09 ?_; (first | refine zbr ?_ | refine zbm ?_ | refine zbq ?_ | refine zbn ?_ | refine zbp ?_ ?_ | refine zbo ?_ ?_ | refine zbl ?_ ?_ | refine zbk ?_ ?_ | fail)) | refine m38 ?_ | fail))
 |(refine za2 ?_; (first | refine m14 ?_ | (refine m17 ?_; first | refine m19 ?_ | refine m18 ?_) | (refine m07 ?_; (first | refine m15 ?_ | refine m16 ?_ | fail)) | refine zmy (by first | (conv => {lhs; whnf}; done) | exact (by exact rfl) | fail) (by first | (conv => {lhs; whnf}; done) | exact (by exact rfl) | fail) (by first | (conv => {lhs; whnf}; done) | exact (by exact rfl) | fail) (by exact rfl) ?_ | (refine m00 ?_; (first | refine m54 ?_ | refine m55 ?_ | refine zcb ?_ | refine m47 ?_ | refine m48 ?_ | refine m49 ?_ | refine m50 ?_ | refine zd3 ?_ | refine zd1 ?_ | refine zd2 ?_ | refine v_k ?_ | refine m51 ?_ | fail)) | (refine m22 ?_; (first | refine m26 ?_ | refine m27 ?_ | fail)) | refine m42 ?_ | refine zad ?_ | refine zae ?_ | refine m08 ?_ | (refine m20 ?_; (first | refine m54 ?_ | refine m55 ?_ | refine zcb ?_ | refine m47 ?_ | refine m48 ?_ | refine m49 ?_ | refine m50 ?_ | refine zd3 ?_ | refine zd1 ?_ | refine zd2 ?_ | refine v_k ?_ | refine m51 ?_ | fail)) | refine zar ?_ | refine m23 ?_ | refine m25 ?_ | refine m01 ?_ | refine m24 ?_ | refine zca ?_ | refine zky (by first | (conv => {lhs; whnf}; done) | exact (by exact rfl) | fail) (by first | (conv => {lhs; whnf}; done) | exact (by exact rfl) | fail) (by first | assumption | exact rfl) ?_ | fail))
 |(refine zcy ?_; (first | refine m36 ?_ | refine zcw ?_ | refine m32 ?_ | refine m31 ?_ | refine m30 ?_ | (refine m28 ?_; (first | refine zb2 ?_ | refine zbx ?_ | refine zb1 ?_ | refine zby ?_ | refine zb0 ?_ ?_ | refine zbz ?_ ?_ | refine zbw ?_ ?_ | refine zbv ?_ ?_ | fail)) | (refine m29 ?_; (first | refine zb2 ?_ | refine zbx ?_ | refine zb1 ?_ | refine zby ?_ | refine zb0 ?_ ?_ | refine zbz ?_ ?_ | refine zbw ?_ ?_ | refine zbv ?_ ?_ | fail)) | refine m37 ?_ | fail))
 |(refine zcx ?_; (first | refine zgb ?_ | refine zh9 ?_ | refine zia (by (conv => {lhs; whnf}); done) ?_ | refine zib ?_ | refine zh8 (by exact rfl) (by exact rfl) ?_ | refine m34 ?_ | refine m35 ?_ | refine m33 ?_ | refine zgc ?_ | refine m56 ?_ | refine zcz ?_ | refine zdr (by exact rfl) ?_ | fail))
 |refine zaz ?_ | refine za0 ?_ | refine zay ?_
 |(refine za3 ?_; (first | refine zax ?_ | refine zac ?_ | (refine m06 ?_; (first | refine c_T ?_ | refine c_F ?_ | refine c_P ?_ ?_ | refine c_B ?_ ?_ | fail)) | refine zaw ?_ | refine zam ?_ | refine zaf ?_ | refine b_exit ?_ | refine zba (id := 6) [] [11] [(0, .lt), (1, .ld true), (2, .lt), (3, .ld true), (5, .ld true), (6, .lt), (7, .ld true), (9, .lt), (10, .ld true), (4, .mn true), (8, .mn true), (11, .mn false), (12, .lt)] (by kernel_rfl) ?_ | fail))
 |refine m43 ?_
 |refine zd7 ?_
 |refine m21 ?_
 |refine zbi ?_
 |(refine zbj ?_; (first | refine cA (ze8 _ s1 s2 s3 h1 h2 h3) ?_ | refine cA (zfd _ X lx (hxF.app _) xo _ _ xl hxI hxG) ?_ | refine cA (zfd _ Y ly (hyF.app _) yo _ _ yl hyI hyG) ?_ | refine cA (zfd _ Z lz (hzF.app _) zo _ _ zl hzI hzG) ?_ | refine cA (zj9 _ _ Z lz (hzF.app _) zo zl zr zc hzI hzG (by omega) (by omega) _ (by (conv => {lhs; simp only [List.length_append, List.length_cons, List.length_nil, List.length_set, Nat.reduceAdd, Nat.zero_add]}); done) (by (conv => {lhs; simp only [List.append_assoc, List.cons_append, List.nil_append]}); done)) ?_ | refine cA (zgz _ X _ (hxF.app _) xo xr xc xl hxI hxG 0 0 (xr : Int) 0 (by omega) (by omega) (by omega) (by omega) (by omega) (by omega)) ?_ | refine cA (zgz _ Y _ (hyF.app _) yo yr yc yl hyI hyG 0 0 0 (yc : Int) (by omega) (by omega) (by omega) (by omega) (by omega) (by omega)) ?_ | refine cA (zpk H X lx hxF xo xl xr xc hxI hxG Y ly hyF yo yl yr yc hyI hyG (mel lz zo zl) zr zc hzr hzc A B hne) ?_ | refine cA (zfd _ (.slm bx lx.length 0 lx.length 1) lx (FL.app (FL.old hbx (by exact rfl) rfl) _) xo _ _ xl hxI hxG) ?_ | refine cA (zfd _ (.slm by_ ly.length 0 ly.length 1) ly (FL.app (FL.old hby (by exact rfl) rfl) _) yo _ _ yl hyI hyG) ?_ | refine cA (zfd _ (.slm b l.length 0 l.length 1) l (FL.app (FL.old hb (by exact rfl) rfl) _) zo _ _ zl hzI hzG) ?_ | refine cA (zj9 _ _ (.slm b l.length 0 l.length 1) l (FL.app (FL.old hb (by exact rfl) rfl) _) zo zl zr zc hzI hzG (by omega) (by omega) _ (by (conv => {lhs; simp only [List.length_append, List.length_cons, List.length_nil, List.length_set, Nat.reduceAdd, Nat.zero_add]}); done) (by (conv => {lhs; simp only [List.append_assoc, List.cons_append, List.nil_append]}); done)) ?_ | refine cA (zkz H bx lx hbx xo xl xr xc hxI hxG by_ ly hby yo yl yr yc hyI hyG (mel l zo zl) zr zc hzr hzc (by omega) (by omega) A B) ?_ | refine cA (zgz _ (.slm bx lx.length 0 lx.length 1) _ (FL.app (FL.old hbx (by exact rfl) rfl) _) xo xr xc xl hxI hxG 0 0 (xr : Int) 0 (by omega) (by omega) (by omega) (by omega) (by omega) (by omega)) ?_ | refine cA (zgz _ (.slm by_ ly.length 0 ly.length 1) _ (FL.app (FL.old hby (by exact rfl) rfl) _) yo yr yc yl hyI hyG 0 0 0 (yc : Int) (by omega) (by omega) (by omega) (by omega) (by omega) (by omega)) ?_ | refine cA (hmb _) ?_ | refine cA (hmc _) ?_ | fail))
 |refine m58 ?_
 |refine zdb ?_
 |refine zc7 ?_ | refine zc8 ?_ | refine zc6 ?_ | refine m57 ?_
 |refine m05 ?_
 |refine m04 ?_ | refine m02 ?_ | refine m03 ?_ | refine zan ?_
 |intro _))
  all_goals first
    | (exfalso; contradiction)
    | (exfalso; omega)
    | (exfalso; simp_all; done)
    | (exfalso; simp_all; omega)
    | (refine zao rfl (by simp [mx, mxL, zai, aOf, zb5]) ?_; exact rfl)
theorem zj7 : type_of% @zcr.1 := @zcr.1
theorem zj8 : type_of% @zcr.2.1 := @zcr.2.1
theorem zsm : type_of% @zcr.2.2.1 := @zcr.2.2.1
theorem zsn : type_of% @zcr.2.2.2 := @zcr.2.2.2
theorem zvw (H : List (List AV)) (b : Nat) (l : List Nat) (hb : H[b]? = some (fl l)) (zo zl : Int) (zr zc : Nat) (hzI : MI l.length zo zr zc zl) (hzG : zaa l.length zo zr zc zl) (hzr : zr ≤ 64) (hzc : zc ≤ 64) (g : Nat → Nat → Nat) :
    zab Try.prog 35 [mt (.slm b l.length 0 l.length 1) zo (zr : Int) (zc : Int) zl, mt (.slm (H.length + 0) (zr * zc) 0 (zr * zc) 1) 0 (zr : Int) (zc : Int) ((max zr 1 : Nat) : Int)] (H ++ [fl (cmA g zr zc)]) (.int .i64 0) (H.set b (fl (zal l zo zl zr zc g)) ++ [fl (cmA g zr zc)]) := by
  have hbl := (List.getElem?_eq_some_iff.1 hb).1
  have e : (cmA g zr zc).length = zr * zc := by simp [cmA]
  have hs : ∀ Z, (H ++ [fl (cmA g zr zc)]).set b Z = H.set b Z ++ [fl (cmA g zr zc)] := fun Z => zdk hbl
  have hx : ∀ Z N, (H.set b Z ++ [fl (cmA g zr zc)] ++ N)[H.length + 0]? = some (fl (cmA g zr zc)) := fun Z N => by
    rw [List.append_assoc, List.getElem?_append_right (by simp)]; simp
  have h := zvv (H ++ [fl (cmA g zr zc)]) b l (by simp; omega) zo zl zr zc hzI hzG (.slm (H.length + 0) (zr * zc) 0 (zr * zc) 1) (by simp [mx]) (zr * zc) 0 ((max zr 1 : Nat) : Int) (e ▸ zm9 hzr hzc) (e ▸ zf8 g zr zc) g
    (fun g' => ⟨cmA g zr zc, by rw [hs]; have h9 := hx (fl (zal l zo zl zr zc g')) []; rw [List.append_nil] at h9; exact FL.old h9 e.symm e.symm, e, fun i j hi hj => zn3 hi hj⟩)
    (fun g' N h1 h2 => by
      rw [hs]
      exact zjq (l := zal l zo zl zr zc g') (by rw [List.append_assoc]; exact zvu hbl) (by simp) (hx _ N) e (by omega)) (mel l zo zl)
  rw [hs, hs, ziq hzG.2.2.2.1 hzG.2.2.1, set_self hb] at h
  exact h
theorem zu5 (H : List (List AV)) (bx : Nat) (lx : List Nat) (hbx : H[bx]? = some (fl lx)) (xo xl : Int) (xr xc : Nat) (hxI : MI lx.length xo xr xc xl) (hxG : zaa lx.length xo xr xc xl) (by_ : Nat) (ly : List Nat) (hby : H[by_]? = some (fl ly)) (yo yl : Int) (yr yc : Nat) (hyI : MI ly.length yo yr yc yl) (hyG : zaa ly.length yo yr yc yl) (b : Nat) (l : List Nat) (hb : H[b]? = some (fl l)) (zo zl : Int) (zr zc : Nat) (hzI : MI l.length zo zr zc zl) (hzG : zaa l.length zo zr zc zl) (he1 : zr = xr) (he2 : zc = yc) (he3 : xc = yr) (lo hi lox hix loy hiy : Int) (hin : InS zo zr zc zl lo hi) (hinx : InS xo xr xc xl lox hix) (hiny : InS yo yr yc yl loy hiy) (hfx : zfk (decide (bx = b)) lo hi lox hix) (hfy : zfk (decide (by_ = b)) lo hi loy hiy) (A : Nat) (s1 s2 s3 : Int) (T1 : Nat) (Q1 : Nat → Nat) (hC1 : Cuts zr T1 Q1) (hB1 : ∀ H, zab Try.prog 53 [.int .i64 (zr : Int), .int .i64 s1, .slnil] H (cuV T1 Q1) H) (T2 : Nat) (Q2 : Nat → Nat) (hC2 : Cuts zc T2 Q2) (hB2 : ∀ H, zab Try.prog 53 [.int .i64 (zc : Int), .int .i64 s2, .slnil] H (cuV T2 Q2) H) (T3 : Nat) (Q3 : Nat → Nat) (hC3 : Cuts xc T3 Q3) (hB3 : ∀ H, zab Try.prog 53 [.int .i64 (xc : Int), .int .i64 s3, .slnil] H (cuV T3 Q3) H) (z : Nat → Nat → Nat) (hz : ∀ i j, Can (z i j)) (N : List (List AV)) :
    zab Try.prog 36 [.agg [.int .i64 s1, .int .i64 s2, .int .i64 s3, .flt A, (.slm bx lx.length 0 lx.length 1), .int .i64 xo, .int .i64 (xr : Int), .int .i64 (xc : Int), .int .i64 xl, (.slm by_ ly.length 0 ly.length 1), .int .i64 yo, .int .i64 (yr : Int), .int .i64 (yc : Int), .int .i64 yl, (.slm b l.length 0 l.length 1), .int .i64 zo, .int .i64 (zr : Int), .int .i64 (zc : Int), .int .i64 zl]] (H.set b (fl (zal l zo zl zr zc z)) ++ N) (.tup []) (H.set b (fl (zal l zo zl zr zc (gmM A (mel lx xo xl) (mel ly yo yl) z xc))) ++ N) := by
  subst he1 he2 he3
  have hbl := (List.getElem?_eq_some_iff.1 hb).1
  have hx1 := (List.getElem?_eq_some_iff.1 hbx).1
  have hy1 := (List.getElem?_eq_some_iff.1 hby).1
  have hs : ∀ Z, (H ++ N).set b Z = H.set b Z ++ N := fun Z => zdk hbl
  have hb' : (H ++ N)[b]? = some (fl l) := zdj hb
  have hbx' : (H ++ N)[bx]? = some (fl lx) := zdj hbx
  have hby' : (H ++ N)[by_]? = some (fl ly) := zdj hby
  have h := zu4 (H ++ N) b l (by simp; omega) zo zl zr zc hzI hzG lo hi hin xc (.slm bx lx.length 0 lx.length 1) (by simp [mx]; omega) lx.length xo xl hxI hxG (mel lx xo xl) (zrg hb' hbx' hzG hxG hin hinx hfx) _ (fun g N' h1 h2 => znc hb' hbx' g N' h1 h2) lox hix hinx hfx
    (.slm by_ ly.length 0 ly.length 1) (by simp [mx]; omega) ly.length yo yl hyI hyG (mel ly yo yl) (zrg hb' hby' hzG hyG hin hiny hfy) _ (fun g N' h1 h2 => znc hb' hby' g N' h1 h2) loy hiy hiny hfy A s1 s2 s3 T1 Q1 hC1 hB1 T2 Q2 hC2 hB2 T3 Q3 hC3 hB3 z hz
  rw [hs, hs] at h
  exact h
theorem zu6 (H : List (List AV)) (s1 s2 s3 : Int) (h1 : 1 ≤ s1) (h2 : 1 ≤ s2) (h3 : 1 ≤ s3) (hw1 : -9223372036854775808 ≤ s1 ∧ s1 ≤ 9223372036854775807) (hw2 : -9223372036854775808 ≤ s2 ∧ s2 ≤ 9223372036854775807) (hw3 : -9223372036854775808 ≤ s3 ∧ s3 ≤ 9223372036854775807) (bx : Nat) (lx : List Nat) (hbx : H[bx]? = some (fl lx)) (xo xl : Int) (xr xc : Nat) (hxI : MI lx.length xo xr xc xl) (hxG : zaa lx.length xo xr xc xl) (by_ : Nat) (ly : List Nat) (hby : H[by_]? = some (fl ly)) (yo yl : Int) (yr yc : Nat) (hyI : MI ly.length yo yr yc yl) (hyG : zaa ly.length yo yr yc yl) (b : Nat) (l : List Nat) (hb : H[b]? = some (fl l)) (zo zl : Int) (zr zc : Nat) (hzI : MI l.length zo zr zc zl) (hzG : zaa l.length zo zr zc zl) (hzr : zr ≤ 64) (hzc : zc ≤ 64) (hxc : xc ≤ 64) (he1 : zr = xr) (he2 : zc = yc) (he3 : xc = yr) (lo hi lox hix loy hiy : Int) (hin : InS zo zr zc zl lo hi) (hinx : InS xo xr xc xl lox hix) (hiny : InS yo yr yc yl loy hiy) (hfx : zfk (decide (bx = b)) lo hi lox hix) (hfy : zfk (decide (by_ = b)) lo hi loy hiy) (hmb : ∀ N, zab Try.prog 34 [mt (.slm b l.length 0 l.length 1) zo (zr : Int) (zc : Int) zl, mt (.slm bx lx.length 0 lx.length 1) xo (xr : Int) (xc : Int) xl] (H ++ N) (.bool false) (H ++ N)) (hmc : ∀ N, zab Try.prog 34 [mt (.slm b l.length 0 l.length 1) zo (zr : Int) (zc : Int) zl, mt (.slm by_ ly.length 0 ly.length 1) yo (yr : Int) (yc : Int) yl] (H ++ N) (.bool false) (H ++ N)) (A B : Nat) :
    zab Try.prog 11 [.agg [.int .i64 s1, .int .i64 s2, .int .i64 s3], .flt A, mt (.slm bx lx.length 0 lx.length 1) xo (xr : Int) (xc : Int) xl, mt (.slm by_ ly.length 0 ly.length 1) yo (yr : Int) (yc : Int) yl, .flt B, mt (.slm b l.length 0 l.length 1) zo (zr : Int) (zc : Int) zl] H (.int .i64 0) (H.set b (fl (zal l zo zl zr zc (gmM A (mel lx xo xl) (mel ly yo yl) (fun i j => gmB B (mel l zo zl i j)) xc)))) := by
  obtain ⟨xm1, xo1, xo2, xr1, xr2, xc1, xc2, xl1, xl2⟩ := id hxI
  obtain ⟨ym1, yo1, yo2, yr1, yr2, yc1, yc2, yl1, yl2⟩ := id hyI
  obtain ⟨zm1, zo1, zo2, zr1, zr2, zc1, zc2, zl1, zl2⟩ := id hzI
  obtain ⟨T1, Q1, hC1, hB1⟩ := zsl zr (by omega) s1 h1 (by omega)
  obtain ⟨T2, Q2, hC2, hB2⟩ := zsl zc (by omega) s2 h2 (by omega)
  obtain ⟨T3, Q3, hC3, hB3⟩ := zsl xc (by omega) s3 h3 (by omega)
  have hbl := (List.getElem?_eq_some_iff.1 hb).1
  refine .go Try.call11 Try.func11 false [] dOk ?_
  simp only [zbf, Nat.reduceAdd]
  repeat' (first
 |(refine za1 ?_; (first | refine zce ?_ | refine zav ?_ | refine m13 ?_ | refine m12 ?_ | refine m11 ?_ | (refine m10 ?_; (first | refine zbr ?_ | refine zbm ?_ | refine zbq ?_ | refine zbn ?_ | refine zbp ?_ ?_ | refine zbo ?_ ?_ | refine zbl ?_ ?_ | refine zbk ?_ ?_ | fail)) | (refine m09 ?_; (first | refine zbr ?_ | refine zbm ?_ | refine zbq ?_ | refine zbn ?_ | refine zbp ?_ ?_ | refine zbo ?_ ?_ | refine zbl ?_ ?_ | refine zbk ?_ ?_ | fail)) | refine m38 ?_ | fail))
 |(refine za2 ?_; (first | refine m14 ?_ | (refine m17 ?_; first | refine m19 ?_ | refine m18 ?_) | (refine m07 ?_; (first | refine m15 ?_ | refine m16 ?_ | fail)) | refine zmy (by first | (conv => {lhs; whnf}; done) | exact (by exact rfl) | fail) (by first | (conv => {lhs; whnf}; done) | exact (by exact rfl) | fail) (by first | (conv => {lhs; whnf}; done) | exact (by exact rfl) | fail) (by exact rfl) ?_ | (refine m00 ?_; (first | refine m54 ?_ | refine m55 ?_ | refine zcb ?_ | refine m47 ?_ | refine m48 ?_ | refine m49 ?_ | refine m50 ?_ | refine zd3 ?_ | refine zd1 ?_ | refine zd2 ?_ | refine v_k ?_ | refine m51 ?_ | fail)) | (refine m22 ?_; (first | refine m26 ?_ | refine m27 ?_ | fail)) | refine m42 ?_ | refine zad ?_ | refine zae ?_ | refine m08 ?_ | (refine m20 ?_; (first | refine m54 ?_ | refine m55 ?_ | refine zcb ?_ | refine m47 ?_ | refine m48 ?_ | refine m49 ?_ | refine m50 ?_ | refine zd3 ?_ | refine zd1 ?_ | refine zd2 ?_ | refine v_k ?_ | refine m51 ?_ | fail)) | refine zar ?_ | refine m23 ?_ | refine m25 ?_ | refine m01 ?_ | refine m24 ?_ | refine zca ?_ | refine zky (by first | (conv => {lhs; whnf}; done) | exact (by exact rfl) | fail) (by first | (conv => {lhs; whnf}; done) | exact (by exact rfl) | fail) (by first | assumption | exact rfl) ?_ | fail))
 |(refine zcy ?_; (first | refine m36 ?_ | refine zcw ?_ | refine m32 ?_ | refine m31 ?_ | refine m30 ?_ | (refine m28 ?_; (first | refine zb2 ?_ | refine zbx ?_ | refine zb1 ?_ | refine zby ?_ | refine zb0 ?_ ?_ | refine zbz ?_ ?_ | refine zbw ?_ ?_ | refine zbv ?_ ?_ | fail)) | (refine m29 ?_; (first | refine zb2 ?_ | refine zbx ?_ | refine zb1 ?_ | refine zby ?_ | refine zb0 ?_ ?_ | refine zbz ?_ ?_ | refine zbw ?_ ?_ | refine zbv ?_ ?_ | fail)) | refine m37 ?_ | fail))
 |(refine zcx ?_; (first | refine zgb ?_ | refine zh9 ?_ | refine zia (by (conv => {lhs; whnf}); done) ?_ | refine zib ?_ | refine zh8 (by exact rfl) (by exact rfl) ?_ | refine m34 ?_ | refine m35 ?_ | refine m33 ?_ | refine zgc ?_ | refine m56 ?_ | refine zcz ?_ | refine zdr (by exact rfl) ?_ | fail))
 |refine zaz ?_ | refine za0 ?_ | refine zay ?_
 |(refine za3 ?_; (first | refine zax ?_ | refine zac ?_ | (refine m06 ?_; (first | refine c_T ?_ | refine c_F ?_ | refine c_P ?_ ?_ | refine c_B ?_ ?_ | fail)) | refine zaw ?_ | refine zam ?_ | refine zaf ?_ | refine b_exit ?_ | refine zba (id := 6) [] [11] [(0, .lt), (1, .ld true), (2, .lt), (3, .ld true), (5, .ld true), (6, .lt), (7, .ld true), (9, .lt), (10, .ld true), (4, .mn true), (8, .mn true), (11, .mn false), (12, .lt)] (by kernel_rfl) ?_ | fail))
 |refine m43 ?_
 |refine zd7 ?_
 |refine m21 ?_
 |refine zbi ?_
 |(refine zbj ?_; (first | refine cA (ze8 _ s1 s2 s3 h1 h2 h3) ?_ | refine cA (zfd _ (.slm bx lx.length 0 lx.length 1) lx (FL.app (FL.old hbx (by exact rfl) rfl) _) xo _ _ xl hxI hxG) ?_ | refine cA (zfd _ (.slm by_ ly.length 0 ly.length 1) ly (FL.app (FL.old hby (by exact rfl) rfl) _) yo _ _ yl hyI hyG) ?_ | refine cA (zfd _ (.slm b l.length 0 l.length 1) l (FL.app (FL.old hb (by exact rfl) rfl) _) zo _ _ zl hzI hzG) ?_ | refine cA (zj9 _ _ (.slm b l.length 0 l.length 1) l (FL.app (FL.old hb (by exact rfl) rfl) _) zo zl zr zc hzI hzG (by omega) (by omega) _ (by (conv => {lhs; simp only [List.length_append, List.length_cons, List.length_nil, List.length_set, Nat.reduceAdd, Nat.zero_add]}); done) (by (conv => {lhs; simp only [List.append_assoc, List.cons_append, List.nil_append]}); done)) ?_ | refine cA (zkz H bx lx hbx xo xl xr xc hxI hxG by_ ly hby yo yl yr yc hyI hyG (mel l zo zl) zr zc hzr hzc (by omega) (by omega) A B) ?_ | refine cA (zgz _ (.slm bx lx.length 0 lx.length 1) _ (FL.app (FL.old hbx (by exact rfl) rfl) _) xo xr xc xl hxI hxG 0 0 (xr : Int) 0 (by omega) (by omega) (by omega) (by omega) (by omega) (by omega)) ?_ | refine cA (zgz _ (.slm by_ ly.length 0 ly.length 1) _ (FL.app (FL.old hby (by exact rfl) rfl) _) yo yr yc yl hyI hyG 0 0 0 (yc : Int) (by omega) (by omega) (by omega) (by omega) (by omega) (by omega)) ?_ | refine cA (hmb _) ?_ | refine cA (hmc _) ?_ | refine c_call (zvw H b l hb zo zl zr zc hzI hzG hzr hzc _) (zb7.set (by simp) (by rw [zcl]; omega)) ?_ | refine c_call (zu5 H bx lx hbx xo xl xr xc hxI hxG by_ ly hby yo yl yr yc hyI hyG b l hb zo zl zr zc hzI hzG he1 he2 he3 lo hi lox hix loy hiy hin hinx hiny hfx hfy A s1 s2 s3 T1 Q1 hC1 hB1 T2 Q2 hC2 hB2 T3 Q3 hC3 hB3 (fun i j => gmB B (mel l zo zl i j)) (fun i j => zs8 _ _) _) (zb7.set2 hbl (by simp) (by rw [zcl]; omega)) ?_ | fail))
 |refine m58 ?_
 |refine zdb ?_
 |refine zc7 ?_ | refine zc8 ?_ | refine zc6 ?_ | refine m57 ?_
 |refine m05 ?_
 |refine m04 ?_ | refine m02 ?_ | refine m03 ?_ | refine zan ?_
 |intro _)
  all_goals first
    | (exfalso; contradiction)
    | (exfalso; omega)
    | (exfalso; simp_all; done)
    | (exfalso; simp_all; omega)
    | (refine zao (by simp) (by simp [mx, mxL, zai, aOf, zb5]) ?_; exact rfl)
end Go.Sx
set_option linter.unusedVariables false
set_option linter.unusedSimpArgs false
set_option linter.unusedSectionVars false
set_option maxRecDepth 20000
namespace Go.Sx
open Go.Proofs
section
attribute [local irreducible] Ex zas exD opX opE zdd zfl zfs Spec zab Fr zda zbc zbb ckK zcd zc0 zbt faK zcs ze5 gK fK rK zg7 lpX prK
theorem zwf (H : List (List AV)) (x y : Nat) :
    zab Try.prog 41 [.flt x, .flt y] H (.flt (zpb x y)) H := by
  refine .go Try.call41 Try.func41 false [] dOk ?_
  simp only [zbf, Nat.reduceAdd]
  repeat' (first
 |(refine za1 ?_; (first | refine zce ?_ | refine zav ?_ | fail))
 |(refine za2 ?_; (first | refine m14 ?_ | (refine m00 ?_; (first | refine m49 ?_ | refine m50 ?_ | refine v_k ?_ | refine m51 ?_ | fail)) | refine m42 ?_ | refine zad ?_ | refine zae ?_ | refine m08 ?_ | fail))
 |refine zaz ?_ | refine za0 ?_ | refine zay ?_
 |(refine za3 ?_; (first | refine zax ?_ | refine zac ?_ | (refine m06 ?_; (first | refine c_T ?_ | refine c_F ?_ | refine c_P ?_ ?_ | refine c_B ?_ ?_ | fail)) | refine zaw ?_ | refine zam ?_ | refine zaf ?_ | refine b_exit ?_ | fail))
 |refine m05 ?_
 |refine m04 ?_ | refine m02 ?_ | refine m03 ?_ | refine zan ?_
 |intro _)
  all_goals first | refine zao rfl (by simp [mx, mxL, aOf, zb5, zai]) ?_ | (trace_state; fail)
  all_goals exact rfl
end
end Go.Sx
set_option linter.unusedVariables false
set_option linter.unusedSimpArgs false
namespace Go.Sx
def rS (g h : Nat → Nat → Nat) (i j : Nat) : Nat → Nat → Nat := fun i' j' => if i' < i ∨ (i' = i ∧ j' < j) then h i' j' else g i' j'
theorem ztw {g h : Nat → Nat → Nat} (i' j' : Nat) : rS g h 0 0 i' j' = g i' j' := by unfold rS; rw [if_neg (by omega)]
theorem ztv {g h : Nat → Nat → Nat} {i j : Nat} (i' j' : Nat) : zuf (rS g h i j) i j (h i j) i' j' = rS g h i (j + 1) i' j' := by
  unfold zuf rS
  by_cases e : i' = i ∧ j' = j
  · obtain ⟨rfl, rfl⟩ := e; rw [if_pos ⟨rfl, rfl⟩, if_pos (by omega)]
  · rw [if_neg e]
    by_cases h1 : i' < i ∨ (i' = i ∧ j' < j)
    · rw [if_pos h1, if_pos (by omega)]
    · rw [if_neg h1, if_neg (by omega)]
theorem ztu {g h : Nat → Nat → Nat} {i c : Nat} (i' j' : Nat) (hj : j' < c) : rS g h i c i' j' = rS g h (i + 1) 0 i' j' := by
  unfold rS
  by_cases h1 : i' < i ∨ (i' = i ∧ j' < c)
  · rw [if_pos h1, if_pos (by omega)]
  · rw [if_neg h1, if_neg (by omega)]
theorem zwh {g h : Nat → Nat → Nat} {r : Nat} (i' j' : Nat) (hi : i' < r) : rS g h r 0 i' j' = h i' j' := by unfold rS; rw [if_pos (by omega)]
end Go.Sx
set_option linter.unusedVariables false
set_option linter.unusedSimpArgs false
set_option maxRecDepth 20000
namespace Go.Sx
open Go.Proofs
attribute [local irreducible] Ex zas exD opX opE zdd zfl zfs Spec zab Fr zda zbc zbb ckK zcd zc0 zbt faK zcs ze5 gK fK rK zg7 lpX prK
theorem zwi (H : List (List AV)) (B y : Nat) :
    zab Try.prog 40 [.flt B, .flt y] H (.flt (gmB B y)) H := by
  have hc0 : cn 0 = 0 := by decide
  refine .go Try.call40 Try.func40 false [] dOk ?_
  simp only [zbf, Nat.reduceAdd]
  repeat' (first
 |(refine za1 ?_; (first | refine zce ?_ | refine zav ?_ | fail))
 |(refine za2 ?_; (first | refine m14 ?_ | (refine m45 ?_; (first | refine zde (by exact rfl) ?_ | refine v_k ?_ | fail)) | (refine m00 ?_; (first | refine m52 ?_ | refine m53 ?_ | refine ze3 ?_ | refine m49 ?_ | refine m50 ?_ | refine v_k ?_ | refine m51 ?_ | fail)) | refine m42 ?_ | refine zad ?_ | refine zae ?_ | refine m08 ?_ | refine zar ?_ | fail))
 |refine zaz ?_ | refine za0 ?_ | refine zay ?_
 |(refine za3 ?_; (first | refine zax ?_ | refine zac ?_ | (refine m06 ?_; (first | refine c_T ?_ | refine c_F ?_ | refine c_P ?_ ?_ | refine c_B ?_ ?_ | fail)) | refine zaw ?_ | refine zam ?_ | refine zaf ?_ | refine b_exit ?_ | fail))
 |refine m21 ?_
 |refine zbi ?_
 |(refine zbj ?_; (first | refine cA (zo5 _ _ _) ?_ | fail))
 |refine m05 ?_
 |refine m04 ?_ | refine m02 ?_ | refine m03 ?_ | refine zan ?_
 |intro _)
  all_goals first | refine zao rfl (by simp [mx, mxL, aOf, zb5, zai]) ?_ | (trace_state; fail)
  all_goals first
    | (refine congrArg AV.flt ?_; rw [zvo (by simp_all)]; done)
    | (refine congrArg AV.flt ?_; rw [zvp (by simp_all)]; first | done | rfl | decide)
theorem zou (H : List (List AV)) (X : AV) (x : Nat → Nat → Nat) (r w : Nat) (hX : FL H X (rmA x r w)) (Y : AV) (y : Nat → Nat → Nat) (c : Nat) (hY : FL H Y (rmA y w c)) (Z : AV) (z : Nat → Nat → Nat) (hZ : FL H Z (rmA z r c)) (hr : r ≤ 1000) (hw : w ≤ 1000) (hc : c ≤ 1000) (A B : Nat) :
    zab Try.prog 16 [.flt A, mM X r w, mM Y w c, .flt B, mM Z r c] H (mM (.sl none (r * c) (fl (rmA (gmM A x y (fun i j => gmB B (z i j)) w) r c))) r c) H := by
  have hrc : r * c ≤ 1000000 := (by have := Nat.mul_le_mul hr hc; omega)
  refine .go Try.call16 Try.func16 false [] dOk ?_
  simp only [zbf, Nat.reduceAdd]
  repeat' (first
 |(refine za1 ?_; (first | refine zce ?_ | refine zav ?_ | fail))
 |(refine za2 ?_; (first | refine m14 ?_ | (refine m17 ?_; first | refine m19 ?_ | refine m18 ?_) | (refine m07 ?_; (first | refine m15 ?_ | refine m16 ?_ | fail)) | (refine m00 ?_; (first | refine zf4 ((k + 1 : Nat) : Int) (by omega) (by omega) ?_ | refine zf4 ((t + 1 : Nat) : Int) (by omega) (by omega) ?_ | refine zf4 ((q + 1 : Nat) : Int) (by omega) (by omega) ?_ | refine m47 ?_ | refine m48 ?_ | refine m49 ?_ | refine m50 ?_ | refine v_k ?_ | refine m51 ?_ | fail)) | refine m42 ?_ | refine zad ?_ | refine zae ?_ | refine m08 ?_ | refine zar ?_ | refine m25 ?_ | refine m01 ?_ | refine m24 ?_ | fail))
 |(refine zcy ?_; (first | refine m36 ?_ | refine zcw ?_ | fail))
 |(refine zcx ?_; (first | refine zgb ?_ | refine zh9 ?_ | refine zia (by (conv => {lhs; whnf}); done) ?_ | refine zib ?_ | refine zh8 (by exact rfl) (by exact rfl) ?_ | refine m34 ?_ | refine m35 ?_ | refine m33 ?_ | refine zgc ?_ | refine m56 ?_ | refine zcz ?_ | refine zdr (by exact rfl) ?_ | fail))
 |refine zaz ?_ | refine za0 ?_ | refine zay ?_
 |(refine za3 ?_; (first | refine zax ?_ | refine zac ?_ | (refine m06 ?_; (first | refine c_T ?_ | refine c_F ?_ | refine c_P ?_ ?_ | refine c_B ?_ ?_ | fail)) | refine zaw ?_ | refine zam ?_ | refine zaf ?_ | refine b_exit ?_ | refine zba (id := 12) [] [] [(0, .lt), (1, .lt), (2, .ld true), (3, .lt), (4, .lt), (7, .ld true), (8, .lt), (9, .lt), (5, .mn true), (6, .mn true), (10, .mn true), (11, .mn true), (12, .mn true), (13, .lt)] (by kernel_rfl) ?_ | (refine zb3 [0, 3, 6, 7, 9, 10, 11, 12, 13, 14, 15] w (fun q => ⟨[(0, .val (.flt A)), (3, .val (.flt B)), (6, .loc 6 0), (7, .loc 7 0), (9, .loc 9 0), (10, .loc 10 0), (11, .loc 11 0), (12, .val (.int .i64 ((k : Nat) : Int))), (13, .val (.int .i64 ((t : Nat) : Int))), (14, .val (.flt (gmM A x y (fun i j => gmB B (z i j)) q k t))), (15, .val (.int .i64 ((q : Nat) : Int)))], [(6, [.int .i64 (r : Int), .int .i64 (w : Int), X]), (7, [.int .i64 (w : Int), .int .i64 (c : Int), Y]), (9, [.int .i64 (r : Int), .int .i64 (c : Int), Z]), (10, [.int .i64 0, .int .i64 0, .slnil]), (11, [.int .i64 (r : Int), .int .i64 (c : Int), .slm (H.length + 0) (r * c) 0 (r * c) 1])], H ++ [fl (ofL (gmM A x y (fun i j => gmB B (z i j)) w) r c (k * c + t))]⟩) (by exact rfl) ?_ ?_ <;> (first | intro q hq K hK | intro K) <;> (try dsimp only at *)) | (refine zb3 [0, 3, 6, 7, 9, 10, 11, 12, 13] c (fun t => ⟨[(0, .val (.flt A)), (3, .val (.flt B)), (6, .loc 6 0), (7, .loc 7 0), (9, .loc 9 0), (10, .loc 10 0), (11, .loc 11 0), (12, .val (.int .i64 ((k : Nat) : Int))), (13, .val (.int .i64 ((t : Nat) : Int)))], [(6, [.int .i64 (r : Int), .int .i64 (w : Int), X]), (7, [.int .i64 (w : Int), .int .i64 (c : Int), Y]), (9, [.int .i64 (r : Int), .int .i64 (c : Int), Z]), (10, [.int .i64 0, .int .i64 0, .slnil]), (11, [.int .i64 (r : Int), .int .i64 (c : Int), .slm (H.length + 0) (r * c) 0 (r * c) 1])], H ++ [fl (ofL (gmM A x y (fun i j => gmB B (z i j)) w) r c (k * c + t))]⟩) (by exact rfl) ?_ ?_ <;> (first | intro t ht K hK | intro K) <;> (try dsimp only at *)) | (refine zb3 [0, 3, 6, 7, 9, 10, 11, 12] r (fun k => ⟨[(0, .val (.flt A)), (3, .val (.flt B)), (6, .loc 6 0), (7, .loc 7 0), (9, .loc 9 0), (10, .loc 10 0), (11, .loc 11 0), (12, .val (.int .i64 ((k : Nat) : Int)))], [(6, [.int .i64 (r : Int), .int .i64 (w : Int), X]), (7, [.int .i64 (w : Int), .int .i64 (c : Int), Y]), (9, [.int .i64 (r : Int), .int .i64 (c : Int), Z]), (10, [.int .i64 0, .int .i64 0, .slnil]), (11, [.int .i64 (r : Int), .int .i64 (c : Int), .slm (H.length + 0) (r * c) 0 (r * c) 1])], H ++ [fl (ofL (gmM A x y (fun i j => gmB B (z i j)) w) r c (k * c))]⟩) (by simp only [Nat.zero_mul, zlf]; exact rfl) ?_ ?_ <;> (first | intro k hk K hK | intro K) <;> (try dsimp only at *)) | fail))
 |refine m21 ?_
 |refine zbi ?_
 |(refine zbj ?_; (first | refine cA (zv9 _ _ r c (by omega) (by omega) _ (by (conv => {lhs; simp only [List.length_append, List.length_cons, List.length_nil, List.length_set, Nat.reduceAdd, Nat.zero_add]}); done) (by (conv => {lhs; simp only [List.append_assoc, List.cons_append, List.nil_append]}); done)) ?_ | refine cA (zq0 _ Z z r c (FL.app hZ _) hr hc k t (by omega) (by omega)) ?_ | refine cA (zwi _ _ _) ?_ | refine cA (zq0 _ Y y w c (FL.app hY _) hw hc q t (by omega) (by omega)) ?_ | refine cA (zq0 _ X x r w (FL.app hX _) hr hw k q (by omega) (by omega)) ?_ | refine cA (zo5 _ _ _) ?_ | refine cA (zwf _ _ _) ?_ | refine cA (zr3 _ _ _ (ofL (gmM A x y (fun i j => gmB B (z i j)) w) r c (k * c + t)) (zau (by exact rfl) rfl) r c (by simp) (by omega) (by omega) k t (by omega) (by omega) _ (by rw [zn7 (by omega) (by omega) (by exact rfl)]; exact zet (by exact rfl) (by (conv => {lhs; simp only [List.set_cons_zero, List.set_cons_succ]}); done))) ?_ | fail))
 |refine zc7 ?_ | refine zc8 ?_ | refine zc6 ?_ | refine m57 ?_
 |refine zkg ?_ | refine zkh ?_ | refine zkf ?_
 |(refine zkk (by exact rfl) ?_; first | exact hK | (rw [show k * c + c = (k + 1) * c by rw [Nat.add_mul, Nat.one_mul]]; exact hK) | (exfalso; first | omega | (simp_all; done) | (simp_all; omega)))
 |refine m05 ?_
 |refine m04 ?_ | refine m02 ?_ | refine m03 ?_ | refine zan ?_
 |intro _)
  all_goals first
    | (refine zko rfl ?_; simp only [zn6]; exact Fr.agg (Frs.cons (Fr.old (by simp [mx])) (Frs.cons (Fr.old (by simp [mx])) (Frs.cons (Fr.fz (by omega) (by simp) (zau rfl rfl) (by simp) (zfc _ (by simp)) (Frs.old (by rw [zcl]; exact Nat.zero_le _))) Frs.nil))))
    | (exfalso; omega)
theorem znq (H : List (List AV)) (D : AV) (l : List Nat) (hF : FL H D l) (hB : l.length ≤ 2 ^ 30) (off ld : Int) (r c : Nat) (hI : MI l.length off r c ld) (hG : zaa l.length off r c ld) (hr : r ≤ 1000) (hc : c ≤ 1000) (X : AV) (g : Nat → Nat → Nat) (hX : FL H X (rmA g r c)) :
    zab Try.prog 15 [mt D off r c ld, mM X r c] H (.sl none l.length (fl (zal l off ld r c g))) H := by
  obtain ⟨hm, ho1, ho2, hr1, hr2, hc1, hc2, hl1, hl2⟩ := id hI
  obtain ⟨gg1, gg2, gg3, gg4, gg5, gg6⟩ := id hG
  have hrc : r * c ≤ 1000000 := (by have := Nat.mul_le_mul hr hc; omega)
  have hS0 : (zal l off ld r c (rS (mel l off ld) g 0 0)) = l := (by rw [za4 (g' := mel l off ld) (by omega) (by omega) (fun i j _ _ => ztw i j), ziq (by omega) (by omega)])
  have hS9 : zal l off ld r c g = (zal l off ld r c (rS (mel l off ld) g r 0)) := za4 (by omega) (by omega) (fun i j hi _ => (zwh i j hi).symm)
  have hN : ∀ k, (zal l off ld r c (rS (mel l off ld) g k c)) = (zal l off ld r c (rS (mel l off ld) g (k + 1) 0)) := fun k => za4 (by omega) (by omega) (fun i j _ hj => ztu i j hj)
  have hA : ∀ k t, k < r → t < c → (zal l off ld r c (rS (mel l off ld) g k t)).set (pos off ld k t) (g k t) = (zal l off ld r c (rS (mel l off ld) g k (t + 1))) := fun k t hk ht => (by rw [zlp hG hk ht]; exact za4 (by omega) (by omega) (fun i j _ _ => ztv i j))
  refine .go Try.call15 Try.func15 false [] dOk ?_
  simp only [zbf, Nat.reduceAdd]
  repeat' (first
 |(refine za1 ?_; (first | refine zce ?_ | refine zav ?_ | fail))
 |(refine za2 ?_; (first | refine m14 ?_ | (refine m17 ?_; first | refine m19 ?_ | refine m18 ?_) | (refine m07 ?_; (first | refine m15 ?_ | refine m16 ?_ | fail)) | refine zmx (by exact rfl) (by exact rfl) (by decide) (by exact rfl) (by (conv => {lhs; whnf}); done) ?_ | refine zi0 (by (conv => {lhs; whnf}); done) (by (conv => {lhs; whnf}); done) (by exact rfl) (by exact rfl) (by exact zo3 hF) (by simp) (by exact rfl) (by simp; omega) (.inl (Nat.le_refl _)) (by exact rfl) (by (conv => {lhs; simp only [List.nil_append, zrj, zrm]}); done) (by (conv => {lhs; simp only [List.set_cons_zero, List.set_cons_succ]}); done) (by (conv => {lhs; simp only [zjb, zeu, List.length_append, List.length_nil, Nat.zero_add]}); done) (by (conv => {lhs; simp only [Nat.zero_add]}); done) ?_ | refine zpi (m := pos off ld k t) (by (conv => {lhs; whnf}); done) (by (conv => {lhs; whnf}); done) (by exact rfl) (by exact ztg hG (by omega) (by omega)) (by exact zjo hG (by omega) (by omega)) ?_ | refine zu3 (i := 0) (m' := (zal l off ld r c (rS (mel l off ld) g k (t + 1)))) (by (conv => {lhs; whnf}); done) (by (conv => {lhs; whnf}); done) (by exact rfl) (by exact rfl) (by simp) (by simp; exact zjo hG (by omega) (by omega)) (by rw [Nat.zero_add]; exact hA k t (by omega) (by omega)) (by exact rfl) ?_ | (refine m00 ?_; (first | refine v_w (by first | omega | (have hp := zaj hG (i := (k : Int)) (j := (t : Int)) (by omega) (by omega) (by omega) (by omega); omega) | fail) ?_ | refine zf4 ((k + 1 : Nat) : Int) (by omega) (by omega) ?_ | refine zf4 ((t + 1 : Nat) : Int) (by omega) (by omega) ?_ | refine m47 ?_ | refine m48 ?_ | refine m49 ?_ | refine m50 ?_ | refine v_k ?_ | refine m51 ?_ | fail)) | refine m42 ?_ | refine zad ?_ | refine zae ?_ | refine m08 ?_ | refine zar ?_ | refine m25 ?_ | refine m01 ?_ | refine zi1 (by exact rfl) (by exact rfl) (by decide) ?_ | fail))
 |(refine zcy ?_; (first | refine m36 ?_ | refine zcw ?_ | fail))
 |(refine zcx ?_; (first | refine zgb ?_ | refine zh9 ?_ | refine zia (by (conv => {lhs; whnf}); done) ?_ | refine zib ?_ | refine zh8 (by exact rfl) (by exact rfl) ?_ | refine m34 ?_ | refine m35 ?_ | refine m33 ?_ | refine zgc ?_ | refine m56 ?_ | refine zcz ?_ | refine zdr (by exact rfl) ?_ | fail))
 |refine zaz ?_ | refine za0 ?_ | refine zay ?_
 |(refine za3 ?_; (first | refine zax ?_ | refine zac ?_ | (refine m06 ?_; (first | refine c_T ?_ | refine c_F ?_ | refine c_P ?_ ?_ | refine c_B ?_ ?_ | fail)) | refine zaw ?_ | refine zam ?_ | refine zaf ?_ | refine b_exit ?_ | refine zba (id := 8) [] [15] [(0, .lt), (1, .lt), (2, .ld true), (3, .lt), (4, .lt), (5, .lt), (6, .lt), (7, .ld true), (8, .lt), (9, .lt), (10, .ld true), (11, .lt), (12, .lt), (13, .mn true), (14, .lt), (15, .mn false)] (by kernel_rfl) ?_ | (refine zb3 [2, 3, 5, 6, 7] c (fun t => ⟨[(2, .loc 2 0), (3, .loc 3 0), (5, .val (.slm (H.length + 0) l.length 0 l.length 1)), (6, .val (.int .i64 ((k : Nat) : Int))), (7, .val (.int .i64 ((t : Nat) : Int)))], [(2, [D, .int .i64 off, .int .i64 (r : Int), .int .i64 (c : Int), .int .i64 ld]), (3, [.int .i64 (r : Int), .int .i64 (c : Int), X])], H ++ [fl (zal l off ld r c (rS (mel l off ld) g k t))]⟩) (by exact rfl) ?_ ?_ <;> (first | intro t ht K hK | intro K) <;> (try dsimp only at *)) | (refine zb3 [2, 3, 5, 6] r (fun k => ⟨[(2, .loc 2 0), (3, .loc 3 0), (5, .val (.slm (H.length + 0) l.length 0 l.length 1)), (6, .val (.int .i64 ((k : Nat) : Int)))], [(2, [D, .int .i64 off, .int .i64 (r : Int), .int .i64 (c : Int), .int .i64 ld]), (3, [.int .i64 (r : Int), .int .i64 (c : Int), X])], H ++ [fl (zal l off ld r c (rS (mel l off ld) g k 0))]⟩) (by simp only [hS0]; exact rfl) ?_ ?_ <;> (first | intro k hk K hK | intro K) <;> (try dsimp only at *)) | fail))
 |refine m21 ?_
 |refine zbi ?_
 |(refine zbj ?_; (first | refine cA (zq0 _ X g r c (FL.app hX _) hr hc k t (by omega) (by omega)) ?_ | fail))
 |refine m44 ?_
 |refine m40 ?_
 |(refine ze0 (by (conv => {lhs; simp only [List.nil_append, List.cons_append]}); done) ?_; first | refine ⟨by exact rfl, ?_⟩ | skip)
 |refine zfx ?_
 |(intro N' hN'; simp only [List.nil_append, List.cons_append] at hN'; subst hN')
 |refine zc7 ?_ | refine zc8 ?_ | refine zc6 ?_ | refine m57 ?_
 |refine zkg ?_ | refine zkh ?_ | refine zkf ?_
 |(refine zkk (by exact rfl) ?_; first | exact hK | (rw [hN]; exact hK) | (exfalso; first | omega | (simp_all; done) | (simp_all; omega)))
 |refine m05 ?_
 |refine m04 ?_ | refine m02 ?_ | refine m03 ?_ | refine zan ?_
 |(refine ⟨by simp [zqc], fun N' hN' => ?_⟩; simp only [List.nil_append, List.cons_append] at hN'; subst hN')
 |intro _)
  all_goals first
    | (exfalso; omega)
    | (refine zko rfl ?_; rw [hS9]; exact (Fr.fz (by omega) (by simp) (zau rfl rfl) (by simp) (zfc _ (by simp)) (Frs.old (by rw [zcl]; exact Nat.zero_le _))))
end Go.Sx
set_option linter.unusedVariables false
set_option linter.unusedSimpArgs false
set_option maxRecDepth 20000
namespace Go.Sx
open Go.Proofs
theorem zc5 (off ld : Int) (r c : Nat) : InS off r c ld (msF off r c) (msT off r c ld) := by
  unfold InS msF msT
  by_cases h : (r : Int) = 0 ∨ (c : Int) = 0
  · rcases h with h | h
    · exact .inl h
    · exact .inr (.inl h)
  · rw [if_neg h, if_neg h]; exact .inr (.inr ⟨by omega, by omega⟩)
theorem zrh {n1 n2 : Nat} {o1 l1 o2 l2 : Int} {r1 c1 r2 c2 : Nat} (h1 : zaa n1 o1 r1 c1 l1) (h2 : zaa n2 o2 r2 c2 l2) (hs : ¬ zcf (msF o1 r1 c1) (msT o1 r1 c1 l1) (msF o2 r2 c2) (msT o2 r2 c2 l2)) : zfk true (msF o1 r1 c1) (msT o1 r1 c1 l1) (msF o2 r2 c2) (msT o2 r2 c2 l2) := by
  intro _
  unfold zcf at hs
  have p1 : 0 ≤ msF o1 r1 c1 := by unfold msF; split; omega; exact h1.2.2.1
  have p2 : 0 ≤ msF o2 r2 c2 := by unfold msF; split; omega; exact h2.2.2.1
  have q1 : msF o1 r1 c1 ≤ msT o1 r1 c1 l1 ∨ msT o1 r1 c1 l1 = -1 := by
    unfold msF msT; split
    · exact .inr rfl
    · have := zkp (off := o1) (r := r1) (c := c1) h1.2.2.2.1 (by omega) (by omega); omega
  have q2 : msF o2 r2 c2 ≤ msT o2 r2 c2 l2 ∨ msT o2 r2 c2 l2 = -1 := by
    unfold msF msT; split
    · exact .inr rfl
    · have := zkp (off := o2) (r := r2) (c := c2) h2.2.2.2.1 (by omega) (by omega); omega
  omega
theorem zlb {n1 n2 : Nat} {o1 l1 o2 l2 : Int} {r1 c1 r2 c2 : Nat} (h1 : zaa n1 o1 r1 c1 l1) (h2 : zaa n2 o2 r2 c2 l2) (hs : zcf (msF o1 r1 c1) (msT o1 r1 c1 l1) (msF o2 r2 c2) (msT o2 r2 c2 l2)) :
    zdn n1 o1 r1 c1 l1 ∧ zdn n2 o2 r2 c2 l2 ∧ sF n1 o1 r1 c1 l1 ≤ sT n2 o2 r2 c2 l2 ∧ sF n2 o2 r2 c2 l2 ≤ sT n1 o1 r1 c1 l1 := by
  obtain ⟨a1, a2, a3, a4⟩ := hs
  unfold msF msT at a1 a2 a3 a4
  by_cases e1 : (r1 : Int) = 0 ∨ (c1 : Int) = 0
  · rw [if_pos e1, if_pos e1] at a1; omega
  · by_cases e2 : (r2 : Int) = 0 ∨ (c2 : Int) = 0
    · rw [if_pos e2, if_pos e2] at a2; omega
    · rw [if_neg e1, if_neg e2] at a3 a4
      have s1 : zdn n1 o1 r1 c1 l1 := ⟨h1, by omega, by omega⟩
      have s2 : zdn n2 o2 r2 c2 l2 := ⟨h2, by omega, by omega⟩
      unfold sF sT
      rw [if_pos s1, if_pos s2, if_pos s1, if_pos s2]
      exact ⟨s1, s2, by omega, by omega⟩
attribute [local irreducible] Ex zas exD opX opE zdd zfl zfs Spec zab Fr zda zbc zbb ckK zcd zc0 zbt faK zcs ze5 gK fK rK zg7 lpX prK
theorem zek :
    (∀ (H : List (List AV)) (qa : Nat × Nat) (la : List Nat) (ao ar ac al : Int) (haI : MI la.length ao ar ac al) (qb : Nat × Nat) (lb : List Nat) (bo br bc bl : Int) (hbI : MI lb.length bo br bc bl) (qc : Nat × Nat) (lc : List Nat) (co cr cc cl : Int) (hcI : MI lc.length co cr cc cl) (h : ((1000 < (la.length : Int) ∨ 20 < ar ∨ 20 < ac) ∨ (1000 < (lb.length : Int) ∨ 20 < br ∨ 20 < bc) ∨ (1000 < (lc.length : Int) ∨ 20 < cr ∨ 20 < cc))), zab Try.prog 8 [mt (aD qa la) ao ar ac al, mt (aD qb lb) bo br bc bl, mt (aD qc lc) co cr cc cl] H (.bool true) H) ∧
    (∀ (H : List (List AV)) (qa : Nat × Nat) (la : List Nat) (ao ar ac al : Int) (haI : MI la.length ao ar ac al) (qb : Nat × Nat) (lb : List Nat) (bo br bc bl : Int) (hbI : MI lb.length bo br bc bl) (qc : Nat × Nat) (lc : List Nat) (co cr cc cl : Int) (hcI : MI lc.length co cr cc cl) (h : ¬ ((1000 < (la.length : Int) ∨ 20 < ar ∨ 20 < ac) ∨ (1000 < (lb.length : Int) ∨ 20 < br ∨ 20 < bc) ∨ (1000 < (lc.length : Int) ∨ 20 < cr ∨ 20 < cc))), zab Try.prog 8 [mt (aD qa la) ao ar ac al, mt (aD qb lb) bo br bc bl, mt (aD qc lc) co cr cc cl] H (.bool false) H) := by
  refine ⟨?_, ?_⟩
  (intro H qa la ao ar ac al haI qb lb bo br bc bl hbI qc lc co cr cc cl hcI h
   obtain ⟨am1, ao1, ao2, ar1, ar2, ac1, ac2, al1, al2⟩ := id haI
   obtain ⟨bm1, bo1, bo2, br1, br2, bc1, bc2, bl1, bl2⟩ := id hbI
   obtain ⟨cm1, co1, co2, cr1, cr2, cc1, cc2, cl1, cl2⟩ := id hcI
   refine .go Try.call8 Try.func8 false [] dOk ?_
   simp only [zbf, Nat.reduceAdd])
  rotate_left
  (intro H qa la ao ar ac al haI qb lb bo br bc bl hbI qc lc co cr cc cl hcI h
   obtain ⟨am1, ao1, ao2, ar1, ar2, ac1, ac2, al1, al2⟩ := id haI
   obtain ⟨bm1, bo1, bo2, br1, br2, bc1, bc2, bl1, bl2⟩ := id hbI
   obtain ⟨cm1, co1, co2, cr1, cr2, cc1, cc2, cl1, cl2⟩ := id hcI
   refine .go Try.call8 Try.func8 false [] dOk ?_
   simp only [zbf, Nat.reduceAdd])
  rotate_left
  all_goals (repeat' (first
 |(refine za1 ?_; (first | refine zce ?_ | refine zav ?_ | refine m13 ?_ | refine m12 ?_ | refine m11 ?_ | (refine m10 ?_; (first | refine zbr ?_ | refine zbm ?_ | refine zbq ?_ | refine zbn ?_ | refine zbp ?_ ?_ | refine zbo ?_ ?_ | refine zbl ?_ ?_ | refine zbk ?_ ?_ | fail)) | (refine m09 ?_; (first | refine zbr ?_ | refine zbm ?_ | refine zbq ?_ | refine zbn ?_ | refine zbp ?_ ?_ | refine zbo ?_ ?_ | refine zbl ?_ ?_ | refine zbk ?_ ?_ | fail)) | refine m38 ?_ | fail))
 |(refine za2 ?_; (first | refine m14 ?_ | (refine m07 ?_; (first | refine m15 ?_ | refine m16 ?_ | fail)) | (refine m22 ?_; (first | refine m26 ?_ | refine m27 ?_ | fail)) | refine m42 ?_ | refine zad ?_ | refine zae ?_ | refine m08 ?_ | refine zar ?_ | refine m01 ?_ | fail))
 |refine zaz ?_ | refine za0 ?_ | refine zay ?_
 |(refine za3 ?_; (first | refine zax ?_ | refine zac ?_ | (refine m06 ?_; (first | refine c_T ?_ | refine c_F ?_ | refine c_P ?_ ?_ | refine c_B ?_ ?_ | fail)) | refine zaw ?_ | refine zam ?_ | refine zaf ?_ | refine b_exit ?_ | fail))
 |refine m21 ?_
 |refine zbi ?_
 |(refine zbj ?_; (first | refine cA (zh7 _ _ la (zbd _ qa la) ao ar ac al haI) ?_ | refine cA (zh7 _ _ lb (zbd _ qb lb) bo br bc bl hbI) ?_ | refine cA (zh7 _ _ lc (zbd _ qc lc) co cr cc cl hcI) ?_ | fail))
 |refine m05 ?_
 |refine m04 ?_ | refine m02 ?_ | refine m03 ?_ | refine zan ?_
 |intro _))
  all_goals first
    | (exfalso; contradiction)
    | (exfalso; omega)
    | (exfalso; simp_all; done)
    | (refine zao rfl (by first | (simp [mx, mxL, zai, aOf, zb5]; done) | fail) ?_; exact rfl)
    | (refine zao rfl (by first | (simp [mx, mxL, zai, aOf, zb5]; done) | fail) ?_; refine congrArg AV.bool ?_; exact decide_eq_true (by omega))
    | (refine zao rfl (by first | (simp [mx, mxL, zai, aOf, zb5]; done) | fail) ?_; refine congrArg AV.bool ?_; exact decide_eq_false (by omega))
theorem zp8 : type_of% @zek.1 := @zek.1
theorem zh6 : type_of% @zek.2 := @zek.2
theorem zkq (H : List (List AV)) (a b c d : Int) (bb : Bool) (h : decide (zcf a b c d) = bb) : zab Try.prog 24 [.int .i64 a, .int .i64 b, .int .i64 c, .int .i64 d] H (.bool bb) H := by
  subst h; exact zt4 H a b c d
theorem zcq :
    (∀ (H : List (List AV)) (qa : Nat × Nat) (la : List Nat) (ao ar ac al : Int) (haI : MI la.length ao ar ac al) (qb : Nat × Nat) (lb : List Nat) (bo br bc bl : Int) (hbI : MI lb.length bo br bc bl) (qc : Nat × Nat) (lc : List Nat) (co cr cc cl : Int) (hcI : MI lc.length co cr cc cl) (one : Int) (ho1 : -9223372036854775808 ≤ one) (ho2 : one ≤ 9223372036854775807) (hbad : ¬ (zaa la.length ao ar ac al ∧ zaa lb.length bo br bc bl ∧ zaa lc.length co cr cc cl)), zab Try.prog 12 [mt (aD qa la) ao ar ac al, mt (aD qb lb) bo br bc bl, mt (aD qc lc) co cr cc cl, .int .i64 one] H (.int .i64 1) H) ∧
    (∀ (H : List (List AV)) (qa : Nat × Nat) (la : List Nat) (ao ar ac al : Int) (haI : MI la.length ao ar ac al) (qb : Nat × Nat) (lb : List Nat) (bo br bc bl : Int) (hbI : MI lb.length bo br bc bl) (qc : Nat × Nat) (lc : List Nat) (co cr cc cl : Int) (hcI : MI lc.length co cr cc cl) (one : Int) (ho1 : -9223372036854775808 ≤ one) (ho2 : one ≤ 9223372036854775807) (hg : (zaa la.length ao ar ac al ∧ zaa lb.length bo br bc bl ∧ zaa lc.length co cr cc cl)) (hne : ¬ (ac = br ∧ cr = ar ∧ cc = bc)), zab Try.prog 12 [mt (aD qa la) ao ar ac al, mt (aD qb lb) bo br bc bl, mt (aD qc lc) co cr cc cl, .int .i64 one] H (.int .i64 3) H) ∧
    (∀ (H : List (List AV)) (qa : Nat × Nat) (la : List Nat) (ao ar ac al : Int) (haI : MI la.length ao ar ac al) (qb : Nat × Nat) (lb : List Nat) (bo br bc bl : Int) (hbI : MI lb.length bo br bc bl) (qc : Nat × Nat) (lc : List Nat) (co cr cc cl : Int) (hcI : MI lc.length co cr cc cl) (one : Int) (ho1 : -9223372036854775808 ≤ one) (ho2 : one ≤ 9223372036854775807) (hg : (zaa la.length ao ar ac al ∧ zaa lb.length bo br bc bl ∧ zaa lc.length co cr cc cl)) (hs : (ac = br ∧ cr = ar ∧ cc = bc)) (he : one = 1) (hsp : zcf (msF co cr cc) (msT co cr cc cl) (msF ao ar ac) (msT ao ar ac al)), zab Try.prog 12 [mt (aD qa la) ao ar ac al, mt (aD qb lb) bo br bc bl, mt (aD qc lc) co cr cc cl, .int .i64 one] H (.int .i64 2) H) ∧
    (∀ (H : List (List AV)) (qa : Nat × Nat) (la : List Nat) (ao ar ac al : Int) (haI : MI la.length ao ar ac al) (qb : Nat × Nat) (lb : List Nat) (bo br bc bl : Int) (hbI : MI lb.length bo br bc bl) (qc : Nat × Nat) (lc : List Nat) (co cr cc cl : Int) (hcI : MI lc.length co cr cc cl) (one : Int) (ho1 : -9223372036854775808 ≤ one) (ho2 : one ≤ 9223372036854775807) (hg : (zaa la.length ao ar ac al ∧ zaa lb.length bo br bc bl ∧ zaa lc.length co cr cc cl)) (hs : (ac = br ∧ cr = ar ∧ cc = bc)) (he : one = 2) (hsp : zcf (msF co cr cc) (msT co cr cc cl) (msF bo br bc) (msT bo br bc bl)), zab Try.prog 12 [mt (aD qa la) ao ar ac al, mt (aD qb lb) bo br bc bl, mt (aD qc lc) co cr cc cl, .int .i64 one] H (.int .i64 2) H) ∧
    (∀ (H : List (List AV)) (qa : Nat × Nat) (la : List Nat) (ao ar ac al : Int) (haI : MI la.length ao ar ac al) (qb : Nat × Nat) (lb : List Nat) (bo br bc bl : Int) (hbI : MI lb.length bo br bc bl) (qc : Nat × Nat) (lc : List Nat) (co cr cc cl : Int) (hcI : MI lc.length co cr cc cl) (one : Int) (ho1 : -9223372036854775808 ≤ one) (ho2 : one ≤ 9223372036854775807) (hg : (zaa la.length ao ar ac al ∧ zaa lb.length bo br bc bl ∧ zaa lc.length co cr cc cl)) (hs : (ac = br ∧ cr = ar ∧ cc = bc)) (hs1 : one = 1 → ¬ zcf (msF co cr cc) (msT co cr cc cl) (msF ao ar ac) (msT ao ar ac al)) (hs2 : one = 2 → ¬ zcf (msF co cr cc) (msT co cr cc cl) (msF bo br bc) (msT bo br bc bl)), zab Try.prog 12 [mt (aD qa la) ao ar ac al, mt (aD qb lb) bo br bc bl, mt (aD qc lc) co cr cc cl, .int .i64 one] H (.int .i64 0) H) := by
  refine ⟨?_, ?_, ?_, ?_, ?_⟩
  (intro H qa la ao ar ac al haI qb lb bo br bc bl hbI qc lc co cr cc cl hcI one ho1 ho2 hbad
   obtain ⟨am1, ao1, ao2, ar1, ar2, ac1, ac2, al1, al2⟩ := id haI
   obtain ⟨bm1, bo1, bo2, br1, br2, bc1, bc2, bl1, bl2⟩ := id hbI
   obtain ⟨cm1, co1, co2, cr1, cr2, cc1, cc2, cl1, cl2⟩ := id hcI
   refine .go Try.call12 Try.func12 false [] dOk ?_
   simp only [zbf, Nat.reduceAdd])
  rotate_left
  (intro H qa la ao ar ac al haI qb lb bo br bc bl hbI qc lc co cr cc cl hcI one ho1 ho2 hg hne
   obtain ⟨am1, ao1, ao2, ar1, ar2, ac1, ac2, al1, al2⟩ := id haI
   obtain ⟨bm1, bo1, bo2, br1, br2, bc1, bc2, bl1, bl2⟩ := id hbI
   obtain ⟨cm1, co1, co2, cr1, cr2, cc1, cc2, cl1, cl2⟩ := id hcI
   obtain ⟨hga, hgb, hgc⟩ := hg
   refine .go Try.call12 Try.func12 false [] dOk ?_
   simp only [zbf, Nat.reduceAdd])
  rotate_left
  (intro H qa la ao ar ac al haI qb lb bo br bc bl hbI qc lc co cr cc cl hcI one ho1 ho2 hg hs he hsp
   obtain ⟨am1, ao1, ao2, ar1, ar2, ac1, ac2, al1, al2⟩ := id haI
   obtain ⟨bm1, bo1, bo2, br1, br2, bc1, bc2, bl1, bl2⟩ := id hbI
   obtain ⟨cm1, co1, co2, cr1, cr2, cc1, cc2, cl1, cl2⟩ := id hcI
   obtain ⟨hga, hgb, hgc⟩ := hg
   refine .go Try.call12 Try.func12 false [] dOk ?_
   simp only [zbf, Nat.reduceAdd])
  rotate_left
  (intro H qa la ao ar ac al haI qb lb bo br bc bl hbI qc lc co cr cc cl hcI one ho1 ho2 hg hs he hsp
   obtain ⟨am1, ao1, ao2, ar1, ar2, ac1, ac2, al1, al2⟩ := id haI
   obtain ⟨bm1, bo1, bo2, br1, br2, bc1, bc2, bl1, bl2⟩ := id hbI
   obtain ⟨cm1, co1, co2, cr1, cr2, cc1, cc2, cl1, cl2⟩ := id hcI
   obtain ⟨hga, hgb, hgc⟩ := hg
   refine .go Try.call12 Try.func12 false [] dOk ?_
   simp only [zbf, Nat.reduceAdd])
  rotate_left
  (intro H qa la ao ar ac al haI qb lb bo br bc bl hbI qc lc co cr cc cl hcI one ho1 ho2 hg hs hs1 hs2
   obtain ⟨am1, ao1, ao2, ar1, ar2, ac1, ac2, al1, al2⟩ := id haI
   obtain ⟨bm1, bo1, bo2, br1, br2, bc1, bc2, bl1, bl2⟩ := id hbI
   obtain ⟨cm1, co1, co2, cr1, cr2, cc1, cc2, cl1, cl2⟩ := id hcI
   obtain ⟨hga, hgb, hgc⟩ := hg
   refine .go Try.call12 Try.func12 false [] dOk ?_
   simp only [zbf, Nat.reduceAdd])
  rotate_left
  all_goals (repeat' (first
 |(refine za1 ?_; (first | refine zce ?_ | refine zav ?_ | refine m13 ?_ | refine m12 ?_ | refine m11 ?_ | (refine m10 ?_; (first | refine zbr ?_ | refine zbm ?_ | refine zbq ?_ | refine zbn ?_ | refine zbp ?_ ?_ | refine zbo ?_ ?_ | refine zbl ?_ ?_ | refine zbk ?_ ?_ | fail)) | (refine m09 ?_; (first | refine zbr ?_ | refine zbm ?_ | refine zbq ?_ | refine zbn ?_ | refine zbp ?_ ?_ | refine zbo ?_ ?_ | refine zbl ?_ ?_ | refine zbk ?_ ?_ | fail)) | refine m38 ?_ | fail))
 |(refine za2 ?_; (first | refine m14 ?_ | (refine m17 ?_; first | refine m19 ?_ | refine m18 ?_) | (refine m07 ?_; (first | refine m15 ?_ | refine m16 ?_ | fail)) | (refine m45 ?_; (first | refine zde (by exact rfl) ?_ | refine v_k ?_ | fail)) | (refine m00 ?_; (first | refine m52 ?_ | refine m53 ?_ | refine ze3 ?_ | refine m54 ?_ | refine m55 ?_ | refine zcb ?_ | refine m49 ?_ | refine m50 ?_ | refine zd3 ?_ | refine zd1 ?_ | refine zd2 ?_ | refine v_k ?_ | refine m51 ?_ | fail)) | (refine m22 ?_; (first | refine m26 ?_ | refine m27 ?_ | fail)) | refine m42 ?_ | refine zad ?_ | refine zae ?_ | refine m08 ?_ | (refine m20 ?_; (first | refine m52 ?_ | refine m53 ?_ | refine ze3 ?_ | refine m54 ?_ | refine m55 ?_ | refine zcb ?_ | refine m49 ?_ | refine m50 ?_ | refine zd3 ?_ | refine zd1 ?_ | refine zd2 ?_ | refine v_k ?_ | refine m51 ?_ | fail)) | refine zar ?_ | refine m23 ?_ | refine m01 ?_ | fail))
 |refine zaz ?_ | refine za0 ?_ | refine zay ?_
 |(refine za3 ?_; (first | refine zax ?_ | refine zac ?_ | (refine m06 ?_; (first | refine c_T ?_ | refine c_F ?_ | refine c_P ?_ ?_ | refine c_B ?_ ?_ | fail)) | refine zaw ?_ | refine zam ?_ | refine zaf ?_ | refine b_exit ?_ | fail))
 |refine m21 ?_
 |refine zbi ?_
 |(refine zbj ?_; (first | refine cA (zgu _ _ la.length ao ar ac al (zbd [] qa la).len haI) ?_ | refine cA (zgu _ _ lb.length bo br bc bl (zbd [] qb lb).len hbI) ?_ | refine cA (zgu _ _ lc.length co cr cc cl (zbd [] qc lc).len hcI) ?_ | refine cA (zgw _ _ la (zbd _ qa la) ao ar ac al haI hga) ?_ | refine cA (zgw _ _ lb (zbd _ qb lb) bo br bc bl hbI hgb) ?_ | refine cA (zgw _ _ lc (zbd _ qc lc) co cr cc cl hcI hgc) ?_ | refine cA (zkq _ _ _ _ _ true (decide_eq_true hsp)) ?_ | refine cA (zkq _ _ _ _ _ false (decide_eq_false (hs1 (by omega)))) ?_ | refine cA (zkq _ _ _ _ _ false (decide_eq_false (hs2 (by omega)))) ?_ | fail))
 |refine m05 ?_
 |refine m04 ?_ | refine m02 ?_ | refine m03 ?_ | refine zan ?_
 |intro _))
  all_goals first
    | (exfalso; contradiction)
    | (exfalso; omega)
    | (exfalso; simp_all; done)
    | (exfalso; rename_i a1 a2 a3; exact hbad ⟨by simpa using a1, by simpa using a2, by simpa using a3⟩)
    | (refine zao rfl (by simp [mx, mxL, zai, aOf, zb5]) ?_; exact rfl)
theorem zln : type_of% @zcq.1 := @zcq.1
theorem zlo : type_of% @zcq.2.1 := @zcq.2.1
theorem zoo : type_of% @zcq.2.2.1 := @zcq.2.2.1
theorem zop : type_of% @zcq.2.2.2.1 := @zcq.2.2.2.1
theorem zlm : type_of% @zcq.2.2.2.2 := @zcq.2.2.2.2
end Go.Sx
set_option linter.unusedVariables false
set_option linter.unusedSimpArgs false
set_option maxRecDepth 20000
namespace Go.Sx
open Go.Proofs
theorem zma (L : List (List Nat)) (i : Nat) (l : List Nat) : (L.map fl).set i (fl l) = (L.set i l).map fl := by rw [List.map_set]
theorem zi4 (H : List (List AV)) (s1 s2 s3 : Int) (h1 : 1 ≤ s1) (h2 : 1 ≤ s2) (h3 : 1 ≤ s3) (hw1 : -9223372036854775808 ≤ s1 ∧ s1 ≤ 9223372036854775807) (hw2 : -9223372036854775808 ≤ s2 ∧ s2 ≤ 9223372036854775807) (hw3 : -9223372036854775808 ≤ s3 ∧ s3 ≤ 9223372036854775807) (L : List (List Nat)) (ix iy iz : Nat) (lx : List Nat) (hX : L[ix]? = some lx) (xo xl : Int) (xr xc : Nat) (hxI : MI lx.length xo xr xc xl) (hxG : zaa lx.length xo xr xc xl) (ly : List Nat) (hY : L[iy]? = some ly) (yo yl : Int) (yr yc : Nat) (hyI : MI ly.length yo yr yc yl) (hyG : zaa ly.length yo yr yc yl) (l : List Nat) (hZ : L[iz]? = some l) (zo zl : Int) (zr zc : Nat) (hzI : MI l.length zo zr zc zl) (hzG : zaa l.length zo zr zc zl) (hzr : zr ≤ 64) (hzc : zc ≤ 64) (hxc : xc ≤ 64) (he1 : zr = xr) (he2 : zc = yc) (he3 : xc = yr) (lo hi lox hix loy hiy : Int) (hin : InS zo zr zc zl lo hi) (hinx : InS xo xr xc xl lox hix) (hiny : InS yo yr yc yl loy hiy) (hfx : zfk (decide (ix = iz)) lo hi lox hix) (hfy : zfk (decide (iy = iz)) lo hi loy hiy) (A B : Nat) :
    zab Try.prog 11 [.agg [.int .i64 s1, .int .i64 s2, .int .i64 s3], .flt A, mt (.slm (H.length + ix) lx.length 0 lx.length 1) xo (xr : Int) (xc : Int) xl, mt (.slm (H.length + iy) ly.length 0 ly.length 1) yo (yr : Int) (yc : Int) yl, .flt B, mt (.slm (H.length + iz) l.length 0 l.length 1) zo (zr : Int) (zc : Int) zl] (H ++ L.map fl) (.int .i64 0) (H ++ (L.set iz (zal l zo zl zr zc (gmM A (mel lx xo xl) (mel ly yo yl) (fun i j => gmB B (mel l zo zl i j)) xc))).map fl) := by
  have hx0 : (H ++ L.map fl)[H.length + ix]? = some (fl lx) := zau rfl (by simp [hX])
  have hy0 : (H ++ L.map fl)[H.length + iy]? = some (fl ly) := zau rfl (by simp [hY])
  have hz0 : (H ++ L.map fl)[H.length + iz]? = some (fl l) := zau rfl (by simp [hZ])
  have d1 : decide (H.length + ix = H.length + iz) = decide (ix = iz) := decide_eq_decide.2 (by omega)
  have d2 : decide (H.length + iy = H.length + iz) = decide (iy = iz) := decide_eq_decide.2 (by omega)
  have hs0 : (H ++ L.map fl).set (H.length + iz) (fl (zal l zo zl zr zc (mel l zo zl))) = H ++ L.map fl := by rw [ziq hzG.2.2.2.1 hzG.2.2.1]; exact set_self hz0
  have hp : ∀ (i : Nat) (l' : List Nat) (h0 : (H ++ L.map fl)[H.length + i]? = some (fl l')) N, 0 < l.length → 0 < l'.length → ptrEq (H ++ L.map fl ++ N) (.slm (H.length + iz) l.length 0 l.length 1) 0 (.slm (H.length + i) l'.length 0 l'.length 1) 0 = some (decide (H.length + i = H.length + iz)) := fun i l' h0 N h1 h2 => by
    have h := znc (zo := zo) (zl := zl) (r := zr) (c := zc) hz0 h0 (mel l zo zl) N h1 h2
    rwa [hs0] at h
  have h := zu6 (H ++ L.map fl) s1 s2 s3 h1 h2 h3 hw1 hw2 hw3 (H.length + ix) lx hx0 xo xl xr xc hxI hxG (H.length + iy) ly hy0 yo yl yr yc hyI hyG (H.length + iz) l hz0 zo zl zr zc hzI hzG hzr hzc hxc he1 he2 he3 lo hi lox hix loy hiy hin hinx hiny (by rw [d1]; exact hfx) (by rw [d2]; exact hfy)
    (fun N => zeo _ _ l.length zo zr zc zl rfl hzI _ lx.length xo xr xc xl rfl hxI _ (hp ix lx hx0 N) hin hinx (by rw [d1]; exact hfx) hzG.2.2.2.1)
    (fun N => zeo _ _ l.length zo zr zc zl rfl hzI _ ly.length yo yr yc yl rfl hyI _ (hp iy ly hy0 N) hin hiny (by rw [d2]; exact hfy) hzG.2.2.2.1) A B
  rw [zet (N' := (L.set iz (zal l zo zl zr zc (gmM A (mel lx xo xl) (mel ly yo yl) (fun i j => gmB B (mel l zo zl i j)) xc))).map fl) rfl (zma _ _ _)] at h
  exact h
theorem zja {a b c d : Int} : zfk false a b c d := fun h => by cases h
attribute [local irreducible] Ex zas exD opX opE zdd zfl zfs Spec zab Fr zda zbc zbb ckK zcd zc0 zbt faK zcs ze5 gK fK rK zg7 lpX prK
theorem ze6 (H : List (List AV))  :
    zab Try.prog 7 [] H (.bool true) H := by
  refine .go Try.call7 Try.func7 false [9, 11, 32] dOk ?_
  simp only [zbf, Nat.reduceAdd]
  repeat' (first
 |(refine za1 ?_; (first | refine zce ?_ | refine zav ?_ | refine m13 ?_ | refine m12 ?_ | refine m11 ?_ | (refine m10 ?_; (first | refine zbr ?_ | refine zbm ?_ | refine zbq ?_ | refine zbn ?_ | refine zbp ?_ ?_ | refine zbo ?_ ?_ | refine zbl ?_ ?_ | refine zbk ?_ ?_ | fail)) | (refine m09 ?_; (first | refine zbr ?_ | refine zbm ?_ | refine zbq ?_ | refine zbn ?_ | refine zbp ?_ ?_ | refine zbo ?_ ?_ | refine zbl ?_ ?_ | refine zbk ?_ ?_ | fail)) | refine m38 ?_ | fail))
 |(refine za2 ?_; (first | refine m14 ?_ | (refine m17 ?_; first | refine m19 ?_ | refine m18 ?_) | (refine m07 ?_; (first | refine m15 ?_ | refine m16 ?_ | fail)) | (refine m45 ?_; (first | refine zde (by exact rfl) ?_ | refine v_k ?_ | fail)) | (refine m00 ?_; (first | refine m52 ?_ | refine m53 ?_ | refine ze3 ?_ | refine m49 ?_ | refine m50 ?_ | refine v_k ?_ | refine m51 ?_ | fail)) | (refine m22 ?_; (first | refine m26 ?_ | refine m27 ?_ | fail)) | refine m42 ?_ | refine zad ?_ | refine zae ?_ | refine m08 ?_ | refine zar ?_ | refine m25 ?_ | refine m24 ?_ | refine zca ?_ | refine zi1 (by exact rfl) (by exact rfl) (by decide) ?_ | fail))
 |refine zaz ?_ | refine za0 ?_ | refine zay ?_
 |(refine za3 ?_; (first | refine zax ?_ | refine zac ?_ | (refine m06 ?_; (first | refine c_T ?_ | refine c_F ?_ | refine c_P ?_ ?_ | refine c_B ?_ ?_ | fail)) | refine zaw ?_ | refine zam ?_ | refine zaf ?_ | refine b_exit ?_ | fail))
 |refine m43 ?_
 |refine zd7 ?_
 |refine m21 ?_
 |refine zbi ?_
 |(refine zbj ?_; (first | refine cA (zh0 _ _ 2 1 (by decide) (by decide) .slnil [] (FL.nil _) (by decide) _ (by (conv => {lhs; simp only [List.length_append, List.length_cons, List.length_nil, List.length_set, Nat.reduceAdd, Nat.zero_add]}); done) (by (conv => {lhs; simp only [List.append_assoc, List.cons_append, List.nil_append]}); done)) ?_ | refine cA (zh0 _ _ 2 2 (by decide) (by decide) _ _ (FL.fz _ none [4607182418800017408, 4611686018427387904, 4613937818241073152, 4616189618054758400]) (by decide) _ (by (conv => {lhs; simp only [List.length_append, List.length_cons, List.length_nil, List.length_set, Nat.reduceAdd, Nat.zero_add]}); done) (by (conv => {lhs; simp only [List.append_assoc, List.cons_append, List.nil_append]}); done)) ?_ | refine cA (zh0 _ _ 2 1 (by decide) (by decide) _ _ (FL.fz _ none [4617315517961601024, 4618441417868443648]) (by decide) _ (by (conv => {lhs; simp only [List.length_append, List.length_cons, List.length_nil, List.length_set, Nat.reduceAdd, Nat.zero_add]}); done) (by (conv => {lhs; simp only [List.append_assoc, List.cons_append, List.nil_append]}); done)) ?_ | refine cA (zi4 H 1 1 1 (by decide) (by decide) (by decide) (by decide) (by decide) (by decide) [(za5 2 1 []), (za5 2 1 []), (za5 2 2 [4607182418800017408, 4611686018427387904, 4613937818241073152, 4616189618054758400]), (za5 2 1 [4617315517961601024, 4618441417868443648])] 2 3 0 (za5 2 2 [4607182418800017408, 4611686018427387904, 4613937818241073152, 4616189618054758400]) (by exact rfl) 0 ((max 2 1 : Nat) : Int) 2 2 (zeh 2 2 (by decide) (by decide) [4607182418800017408, 4611686018427387904, 4613937818241073152, 4616189618054758400]) (zc4 2 2 [4607182418800017408, 4611686018427387904, 4613937818241073152, 4616189618054758400]) (za5 2 1 [4617315517961601024, 4618441417868443648]) (by exact rfl) 0 ((max 2 1 : Nat) : Int) 2 1 (zeh 2 1 (by decide) (by decide) [4617315517961601024, 4618441417868443648]) (zc4 2 1 [4617315517961601024, 4618441417868443648]) (za5 2 1 []) (by exact rfl) 0 ((max 2 1 : Nat) : Int) 2 1 (zeh 2 1 (by decide) (by decide) []) (zc4 2 1 []) (by decide) (by decide) (by decide) (by exact rfl) (by exact rfl) (by exact rfl) _ _ _ _ _ _ (zc5 _ _ _ _) (zc5 _ _ _ _) (zc5 _ _ _ _) zja zja 4607182418800017408 0) ?_ | refine cA (zi4 H 9 9 9 (by decide) (by decide) (by decide) (by decide) (by decide) (by decide) [(zal (za5 2 1 []) 0 ((max 2 1 : Nat) : Int) 2 1 (gmM 4607182418800017408 (mel (za5 2 2 [4607182418800017408, 4611686018427387904, 4613937818241073152, 4616189618054758400]) 0 ((max 2 1 : Nat) : Int)) (mel (za5 2 1 [4617315517961601024, 4618441417868443648]) 0 ((max 2 1 : Nat) : Int)) (fun i j => gmB 0 (mel (za5 2 1 []) 0 ((max 2 1 : Nat) : Int) i j)) 2)), (za5 2 1 []), (za5 2 2 [4607182418800017408, 4611686018427387904, 4613937818241073152, 4616189618054758400]), (za5 2 1 [4617315517961601024, 4618441417868443648])] 2 3 1 (za5 2 2 [4607182418800017408, 4611686018427387904, 4613937818241073152, 4616189618054758400]) (by exact rfl) 0 ((max 2 1 : Nat) : Int) 2 2 (zeh 2 2 (by decide) (by decide) [4607182418800017408, 4611686018427387904, 4613937818241073152, 4616189618054758400]) (zc4 2 2 [4607182418800017408, 4611686018427387904, 4613937818241073152, 4616189618054758400]) (za5 2 1 [4617315517961601024, 4618441417868443648]) (by exact rfl) 0 ((max 2 1 : Nat) : Int) 2 1 (zeh 2 1 (by decide) (by decide) [4617315517961601024, 4618441417868443648]) (zc4 2 1 [4617315517961601024, 4618441417868443648]) (za5 2 1 []) (by exact rfl) 0 ((max 2 1 : Nat) : Int) 2 1 (zeh 2 1 (by decide) (by decide) []) (zc4 2 1 []) (by decide) (by decide) (by decide) (by exact rfl) (by exact rfl) (by exact rfl) _ _ _ _ _ _ (zc5 _ _ _ _) (zc5 _ _ _ _) (zc5 _ _ _ _) zja zja 4607182418800017408 0) ?_ | refine cA (zey _ _ (zal (za5 2 1 []) 0 ((max 2 1 : Nat) : Int) 2 1 (gmM 4607182418800017408 (mel (za5 2 2 [4607182418800017408, 4611686018427387904, 4613937818241073152, 4616189618054758400]) 0 ((max 2 1 : Nat) : Int)) (mel (za5 2 1 [4617315517961601024, 4618441417868443648]) 0 ((max 2 1 : Nat) : Int)) (fun i j => gmB 0 (mel (za5 2 1 []) 0 ((max 2 1 : Nat) : Int) i j)) 2)) (FL.blk (j := 0) (by exact rfl) (by exact rfl) (by simp) (by simp)) (by simp) _ [4625478292286210048, 4630685579355357184] (FL.fz _ none [4625478292286210048, 4630685579355357184]) (by kernel_rfl)) ?_ | refine cA (zey _ _ (zal (za5 2 1 []) 0 ((max 2 1 : Nat) : Int) 2 1 (gmM 4607182418800017408 (mel (za5 2 2 [4607182418800017408, 4611686018427387904, 4613937818241073152, 4616189618054758400]) 0 ((max 2 1 : Nat) : Int)) (mel (za5 2 1 [4617315517961601024, 4618441417868443648]) 0 ((max 2 1 : Nat) : Int)) (fun i j => gmB 0 (mel (za5 2 1 []) 0 ((max 2 1 : Nat) : Int) i j)) 2)) (FL.blk (j := 1) (by exact rfl) (by exact rfl) (by simp) (by simp)) (by simp) _ (zal (za5 2 1 []) 0 ((max 2 1 : Nat) : Int) 2 1 (gmM 4607182418800017408 (mel (za5 2 2 [4607182418800017408, 4611686018427387904, 4613937818241073152, 4616189618054758400]) 0 ((max 2 1 : Nat) : Int)) (mel (za5 2 1 [4617315517961601024, 4618441417868443648]) 0 ((max 2 1 : Nat) : Int)) (fun i j => gmB 0 (mel (za5 2 1 []) 0 ((max 2 1 : Nat) : Int) i j)) 2)) (FL.blk (j := 0) (by exact rfl) (by exact rfl) (by simp) (by simp)) rfl) ?_ | fail))
 |refine m58 ?_
 |refine zdb ?_
 |refine m44 ?_
 |refine m40 ?_
 |(refine ze0 (by (conv => {lhs; simp only [List.nil_append, List.cons_append]}); done) ?_; first | refine ⟨by exact rfl, ?_⟩ | skip)
 |refine zfx ?_
 |(intro N' hN'; simp only [List.nil_append, List.cons_append] at hN'; subst hN')
 |refine m05 ?_
 |refine m04 ?_ | refine m02 ?_ | refine m03 ?_ | refine zan ?_
 |intro _)
  all_goals first | refine zao rfl (by simp [mx, mxL, aOf, zb5, zai]) ?_ | (trace_state; fail)
  all_goals exact rfl
instance : Arr3 Try.prog 22 .i64 := ⟨⟨3, by kernel_rfl, by kernel_rfl, by kernel_rfl⟩⟩
theorem FL.fzn (H : List (List AV)) (l : List Nat) (n : Nat) (h : l.length = n) : FL H (.sl none n (fl l)) l := by subst h; exact FL.fz H none l
theorem zwg (H : List (List AV)) (s1 s2 s3 : Int) (h1 : 1 ≤ s1) (h2 : 1 ≤ s2) (h3 : 1 ≤ s3) :
    zab Try.prog 10 [.int .i64 s1, .int .i64 s2, .int .i64 s3] H (.bool true) H := by
  refine .go Try.call10 Try.func10 false [] dOk ?_
  simp only [zbf, Nat.reduceAdd]
  repeat' (first
 |(refine za1 ?_; (first | refine zce ?_ | refine zav ?_ | refine m13 ?_ | refine m12 ?_ | refine m11 ?_ | (refine m10 ?_; (first | refine zbr ?_ | refine zbm ?_ | refine zbq ?_ | refine zbn ?_ | refine zbp ?_ ?_ | refine zbo ?_ ?_ | refine zbl ?_ ?_ | refine zbk ?_ ?_ | fail)) | (refine m09 ?_; (first | refine zbr ?_ | refine zbm ?_ | refine zbq ?_ | refine zbn ?_ | refine zbp ?_ ?_ | refine zbo ?_ ?_ | refine zbl ?_ ?_ | refine zbk ?_ ?_ | fail)) | refine m38 ?_ | fail))
 |(refine za2 ?_; (first | refine m14 ?_ | (refine m00 ?_; (first | refine m47 ?_ | refine m48 ?_ | refine m49 ?_ | refine m50 ?_ | refine v_k ?_ | refine m51 ?_ | fail)) | (refine m22 ?_; (first | refine m26 ?_ | refine m27 ?_ | fail)) | refine m42 ?_ | refine zad ?_ | refine zae ?_ | refine m08 ?_ | fail))
 |refine zaz ?_ | refine za0 ?_ | refine zay ?_
 |(refine za3 ?_; (first | refine zax ?_ | refine zac ?_ | (refine m06 ?_; (first | refine c_T ?_ | refine c_F ?_ | refine c_P ?_ ?_ | refine c_B ?_ ?_ | fail)) | refine zaw ?_ | refine zam ?_ | refine zaf ?_ | refine b_exit ?_ | fail))
 |refine m05 ?_
 |refine m04 ?_ | refine m02 ?_ | refine m03 ?_ | refine zan ?_
 |intro _)
  all_goals first | refine zao rfl (by simp [mx, mxL, aOf, zb5, zai]) ?_ | (trace_state; fail)
  all_goals first
    | exact rfl
    | (exfalso; omega)
    | (refine congrArg AV.bool ?_; exact decide_eq_true (by omega))
theorem zx6 (H : List (List AV)) (s1 s2 s3 : Int) (h : ¬ (1 ≤ s1 ∧ 1 ≤ s2 ∧ 1 ≤ s3)) :
    zab Try.prog 10 [.int .i64 s1, .int .i64 s2, .int .i64 s3] H (.bool false) H := by
  refine .go Try.call10 Try.func10 false [] dOk ?_
  simp only [zbf, Nat.reduceAdd]
  repeat' (first
 |(refine za1 ?_; (first | refine zce ?_ | refine zav ?_ | refine m13 ?_ | refine m12 ?_ | refine m11 ?_ | (refine m10 ?_; (first | refine zbr ?_ | refine zbm ?_ | refine zbq ?_ | refine zbn ?_ | refine zbp ?_ ?_ | refine zbo ?_ ?_ | refine zbl ?_ ?_ | refine zbk ?_ ?_ | fail)) | (refine m09 ?_; (first | refine zbr ?_ | refine zbm ?_ | refine zbq ?_ | refine zbn ?_ | refine zbp ?_ ?_ | refine zbo ?_ ?_ | refine zbl ?_ ?_ | refine zbk ?_ ?_ | fail)) | refine m38 ?_ | fail))
 |(refine za2 ?_; (first | refine m14 ?_ | (refine m00 ?_; (first | refine m47 ?_ | refine m48 ?_ | refine m49 ?_ | refine m50 ?_ | refine v_k ?_ | refine m51 ?_ | fail)) | (refine m22 ?_; (first | refine m26 ?_ | refine m27 ?_ | fail)) | refine m42 ?_ | refine zad ?_ | refine zae ?_ | refine m08 ?_ | fail))
 |refine zaz ?_ | refine za0 ?_ | refine zay ?_
 |(refine za3 ?_; (first | refine zax ?_ | refine zac ?_ | (refine m06 ?_; (first | refine c_T ?_ | refine c_F ?_ | refine c_P ?_ ?_ | refine c_B ?_ ?_ | fail)) | refine zaw ?_ | refine zam ?_ | refine zaf ?_ | refine b_exit ?_ | fail))
 |refine m05 ?_
 |refine m04 ?_ | refine m02 ?_ | refine m03 ?_ | refine zan ?_
 |intro _)
  all_goals first | refine zao rfl (by simp [mx, mxL, aOf, zb5, zai]) ?_ | (trace_state; fail)
  all_goals first
    | exact rfl
    | (exfalso; omega)
    | (refine congrArg AV.bool ?_; exact decide_eq_false (by omega))
theorem zen :
    (∀ (H : List (List AV)) (qa : Nat × Nat) (la : List Nat) (ao ar ac al : Int) (qb : Nat × Nat) (lb : List Nat) (bo br bc bl : Int) (qc : Nat × Nat) (lc : List Nat) (co cr cc cl : Int) (haI : MI la.length ao ar ac al) (hbI : MI lb.length bo br bc bl) (hcI : MI lc.length co cr cc cl) (s1 s2 s3 : Int) (hw1 : -9223372036854775808 ≤ s1 ∧ s1 ≤ 9223372036854775807) (hw2 : -9223372036854775808 ≤ s2 ∧ s2 ≤ 9223372036854775807) (hw3 : -9223372036854775808 ≤ s3 ∧ s3 ≤ 9223372036854775807) (A B : Nat) (one : Int) (ho1 : -9223372036854775808 ≤ one) (ho2 : one ≤ 9223372036854775807) (hv1 : one = 1 → lc.length = 0) (hv2 : one = 2 → lc.length = 0) (hgr : ¬ ((1000 < (la.length : Int) ∨ 20 < ar ∨ 20 < ac) ∨ (1000 < (lb.length : Int) ∨ 20 < br ∨ 20 < bc) ∨ (1000 < (lc.length : Int) ∨ 20 < cr ∨ 20 < cc))) (hbad : ¬ (1 ≤ s1 ∧ 1 ≤ s2 ∧ 1 ≤ s3)) (wa : Int) (hE : zab Try.prog 11 [.agg [.int .i64 s1, .int .i64 s2, .int .i64 s3], .flt A, mt (.slm (H.length + 0) la.length 0 la.length 1) ao ar ac al, mt (.slm (H.length + 1) lb.length 0 lb.length 1) bo br bc bl, .flt B, mt (.slm (H.length + 2) lc.length 0 lc.length 1) co cr cc cl] (H ++ [fl la, fl lb, fl lc]) (.int .i64 1) (H ++ [fl la, fl lb, fl lc])) (hC : ∀ H, zab Try.prog 12 [mt (aD qa la) ao ar ac al, mt (aD qb lb) bo br bc bl, mt (aD qc lc) co cr cc cl, .int .i64 one] H (.int .i64 wa) H), Spec Try.prog 3 [.agg [.int .i64 s1, .int .i64 s2, .int .i64 s3], .flt A, mt (aD qa la) ao ar ac al, mt (aD qb lb) bo br bc bl, .flt B, mt (aD qc lc) co cr cc cl, .int .i64 one] H (.bool true) H) ∧
    (∀ (H : List (List AV)) (qa : Nat × Nat) (la : List Nat) (ao ar ac al : Int) (qb : Nat × Nat) (lb : List Nat) (bo br bc bl : Int) (qc : Nat × Nat) (lc : List Nat) (co cr cc cl : Int) (haI : MI la.length ao ar ac al) (hbI : MI lb.length bo br bc bl) (hcI : MI lc.length co cr cc cl) (s1 s2 s3 : Int) (hw1 : -9223372036854775808 ≤ s1 ∧ s1 ≤ 9223372036854775807) (hw2 : -9223372036854775808 ≤ s2 ∧ s2 ≤ 9223372036854775807) (hw3 : -9223372036854775808 ≤ s3 ∧ s3 ≤ 9223372036854775807) (A B : Nat) (h0 : 0 < lc.length) (hgr : ¬ ((1000 < (la.length : Int) ∨ 20 < ar ∨ 20 < ac) ∨ (1000 < (lb.length : Int) ∨ 20 < br ∨ 20 < bc) ∨ (1000 < (lc.length : Int) ∨ 20 < cr ∨ 20 < cc))) (hbad : ¬ (1 ≤ s1 ∧ 1 ≤ s2 ∧ 1 ≤ s3)) (wa : Int) (hE : zab Try.prog 11 [.agg [.int .i64 s1, .int .i64 s2, .int .i64 s3], .flt A, mt (.slm (H.length + 2) lc.length 0 lc.length 1) ao ar ac al, mt (.slm (H.length + 1) lb.length 0 lb.length 1) bo br bc bl, .flt B, mt (.slm (H.length + 2) lc.length 0 lc.length 1) co cr cc cl] (H ++ [fl lc, fl lb, fl lc]) (.int .i64 1) (H ++ [fl lc, fl lb, fl lc])) (hC : ∀ H, zab Try.prog 12 [mt (aD qc lc) ao ar ac al, mt (aD qb lb) bo br bc bl, mt (aD qc lc) co cr cc cl, .int .i64 1] H (.int .i64 wa) H), Spec Try.prog 3 [.agg [.int .i64 s1, .int .i64 s2, .int .i64 s3], .flt A, mt (aD qa la) ao ar ac al, mt (aD qb lb) bo br bc bl, .flt B, mt (aD qc lc) co cr cc cl, .int .i64 1] H (.bool true) H) ∧
    (∀ (H : List (List AV)) (qa : Nat × Nat) (la : List Nat) (ao ar ac al : Int) (qb : Nat × Nat) (lb : List Nat) (bo br bc bl : Int) (qc : Nat × Nat) (lc : List Nat) (co cr cc cl : Int) (haI : MI la.length ao ar ac al) (hbI : MI lb.length bo br bc bl) (hcI : MI lc.length co cr cc cl) (s1 s2 s3 : Int) (hw1 : -9223372036854775808 ≤ s1 ∧ s1 ≤ 9223372036854775807) (hw2 : -9223372036854775808 ≤ s2 ∧ s2 ≤ 9223372036854775807) (hw3 : -9223372036854775808 ≤ s3 ∧ s3 ≤ 9223372036854775807) (A B : Nat) (h0 : 0 < lc.length) (hgr : ¬ ((1000 < (la.length : Int) ∨ 20 < ar ∨ 20 < ac) ∨ (1000 < (lb.length : Int) ∨ 20 < br ∨ 20 < bc) ∨ (1000 < (lc.length : Int) ∨ 20 < cr ∨ 20 < cc))) (hbad : ¬ (1 ≤ s1 ∧ 1 ≤ s2 ∧ 1 ≤ s3)) (wa : Int) (hE : zab Try.prog 11 [.agg [.int .i64 s1, .int .i64 s2, .int .i64 s3], .flt A, mt (.slm (H.length + 0) la.length 0 la.length 1) ao ar ac al, mt (.slm (H.length + 2) lc.length 0 lc.length 1) bo br bc bl, .flt B, mt (.slm (H.length + 2) lc.length 0 lc.length 1) co cr cc cl] (H ++ [fl la, fl lc, fl lc]) (.int .i64 1) (H ++ [fl la, fl lc, fl lc])) (hC : ∀ H, zab Try.prog 12 [mt (aD qa la) ao ar ac al, mt (aD qc lc) bo br bc bl, mt (aD qc lc) co cr cc cl, .int .i64 2] H (.int .i64 wa) H), Spec Try.prog 3 [.agg [.int .i64 s1, .int .i64 s2, .int .i64 s3], .flt A, mt (aD qa la) ao ar ac al, mt (aD qb lb) bo br bc bl, .flt B, mt (aD qc lc) co cr cc cl, .int .i64 2] H (.bool true) H) := by
  refine ⟨?_, ?_, ?_⟩
  (intro H qa la ao ar ac al qb lb bo br bc bl qc lc co cr cc cl haI hbI hcI s1 s2 s3 hw1 hw2 hw3 A B one ho1 ho2 hv1 hv2 hgr hbad wa hE hC
   obtain ⟨am1, ao1, ao2, ar1, ar2, ac1, ac2, al1, al2⟩ := id haI
   obtain ⟨bm1, bo1, bo2, br1, br2, bc1, bc2, bl1, bl2⟩ := id hbI
   obtain ⟨cm1, co1, co2, cr1, cr2, cc1, cc2, cl1, cl2⟩ := id hcI
   refine Spec.go Try.func3 false [] dOk ?_
   simp only [zbf, Nat.reduceAdd])
  rotate_left
  (intro H qa la ao ar ac al qb lb bo br bc bl qc lc co cr cc cl haI hbI hcI s1 s2 s3 hw1 hw2 hw3 A B h0 hgr hbad wa hE hC
   obtain ⟨am1, ao1, ao2, ar1, ar2, ac1, ac2, al1, al2⟩ := id haI
   obtain ⟨bm1, bo1, bo2, br1, br2, bc1, bc2, bl1, bl2⟩ := id hbI
   obtain ⟨cm1, co1, co2, cr1, cr2, cc1, cc2, cl1, cl2⟩ := id hcI
   refine Spec.go Try.func3 false [] dOk ?_
   simp only [zbf, Nat.reduceAdd])
  rotate_left
  (intro H qa la ao ar ac al qb lb bo br bc bl qc lc co cr cc cl haI hbI hcI s1 s2 s3 hw1 hw2 hw3 A B h0 hgr hbad wa hE hC
   obtain ⟨am1, ao1, ao2, ar1, ar2, ac1, ac2, al1, al2⟩ := id haI
   obtain ⟨bm1, bo1, bo2, br1, br2, bc1, bc2, bl1, bl2⟩ := id hbI
   obtain ⟨cm1, co1, co2, cr1, cr2, cc1, cc2, cl1, cl2⟩ := id hcI
   refine Spec.go Try.func3 false [] dOk ?_
   simp only [zbf, Nat.reduceAdd])
  rotate_left
  all_goals (repeat' (first
 |(refine za1 ?_; (first | refine zce ?_ | refine zav ?_ | refine m13 ?_ | refine m12 ?_ | refine m11 ?_ | (refine m10 ?_; (first | refine zbr ?_ | refine zbm ?_ | refine zbq ?_ | refine zbn ?_ | refine zbp ?_ ?_ | refine zbo ?_ ?_ | refine zbl ?_ ?_ | refine zbk ?_ ?_ | fail)) | (refine m09 ?_; (first | refine zbr ?_ | refine zbm ?_ | refine zbq ?_ | refine zbn ?_ | refine zbp ?_ ?_ | refine zbo ?_ ?_ | refine zbl ?_ ?_ | refine zbk ?_ ?_ | fail)) | refine m38 ?_ | fail))
 |(refine za2 ?_; (first | refine m14 ?_ | (refine m17 ?_; first | refine m19 ?_ | refine m18 ?_) | (refine m07 ?_; (first | refine m15 ?_ | refine m16 ?_ | fail)) | refine zbu (by (conv => {lhs; whnf}); done) (by exact (zbd [] qc lc).len) ?_ | refine zhy (n := 0) (by (conv => {lhs; whnf}); done) (by omega) ?_ | refine zhy (n := 1) (by (conv => {lhs; whnf}); done) (by omega) ?_ | refine zhy (n := 2) (by (conv => {lhs; whnf}); done) (by omega) ?_ | (refine m45 ?_; (first | refine zde (by exact rfl) ?_ | refine v_k ?_ | fail)) | (refine m00 ?_; (first | refine m52 ?_ | refine m53 ?_ | refine ze3 ?_ | refine m54 ?_ | refine m55 ?_ | refine zcb ?_ | refine m47 ?_ | refine m48 ?_ | refine m49 ?_ | refine m50 ?_ | refine zd3 ?_ | refine zd1 ?_ | refine zd2 ?_ | refine v_k ?_ | refine m51 ?_ | fail)) | (refine m22 ?_; (first | refine m26 ?_ | refine m27 ?_ | fail)) | refine m42 ?_ | refine zad ?_ | refine zae ?_ | refine m08 ?_ | (refine m20 ?_; (first | refine m52 ?_ | refine m53 ?_ | refine ze3 ?_ | refine m54 ?_ | refine m55 ?_ | refine zcb ?_ | refine m47 ?_ | refine m48 ?_ | refine m49 ?_ | refine m50 ?_ | refine zd3 ?_ | refine zd1 ?_ | refine zd2 ?_ | refine v_k ?_ | refine m51 ?_ | fail)) | refine zar ?_ | refine zbu (by (conv => {lhs; whnf}); done) (by first | rfl | assumption) ?_ | refine m25 ?_ | refine m01 ?_ | refine m24 ?_ | refine zca ?_ | fail))
 |(refine zcy ?_; (first | refine m36 ?_ | refine zcw ?_ | refine m32 ?_ | refine m31 ?_ | refine m30 ?_ | (refine m28 ?_; (first | refine zb2 ?_ | refine zbx ?_ | refine zb1 ?_ | refine zby ?_ | refine zb0 ?_ ?_ | refine zbz ?_ ?_ | refine zbw ?_ ?_ | refine zbv ?_ ?_ | fail)) | (refine m29 ?_; (first | refine zb2 ?_ | refine zbx ?_ | refine zb1 ?_ | refine zby ?_ | refine zb0 ?_ ?_ | refine zbz ?_ ?_ | refine zbw ?_ ?_ | refine zbv ?_ ?_ | fail)) | refine m37 ?_ | fail))
 |(refine zcx ?_; (first | refine zgb ?_ | refine zh9 ?_ | refine zia (by (conv => {lhs; whnf}); done) ?_ | refine zib ?_ | refine zh8 (by exact rfl) (by exact rfl) ?_ | refine m34 ?_ | refine m35 ?_ | refine m33 ?_ | refine zgc ?_ | refine m56 ?_ | refine zcz ?_ | refine zdr (by exact rfl) ?_ | fail))
 |refine zaz ?_ | refine za0 ?_ | refine zay ?_
 |(refine za3 ?_; (first | refine zax ?_ | refine zac ?_ | (refine m06 ?_; (first | refine c_T ?_ | refine c_F ?_ | refine c_P ?_ ?_ | refine c_B ?_ ?_ | fail)) | refine zaw ?_ | refine zam ?_ | refine zaf ?_ | refine b_exit ?_ | refine zba (id := 9) [15, 16, 17] [] [(0, .ld true), (2, .ld true), (4, .ld true), (6, .bx), (7, .bx), (8, .bx), (1, .mn true), (3, .mn true), (5, .mn true), (9, .mn true), (10, .mn true), (11, .mn true)] (by kernel_rfl) ?_ | refine zba (id := 22) [] [] [(0, .ld true), (1, .lt), (2, .ld true), (4, .ld true), (6, .lt), (7, .ld true), (3, .mn true), (5, .mn true), (8, .mn true), (9, .mn true), (10, .mn true), (11, .lt)] (by kernel_rfl) ?_ | fail))
 |refine m21 ?_
 |refine zbi ?_
 |(refine zbj ?_; (first | refine cA (ze6 _) ?_ | refine cA (zh6 _ qa la ao ar ac al haI qb lb bo br bc bl hbI qc lc co cr cc cl hcI hgr) ?_ | refine cA (zb9 _ _ _ la (zbd _ qa la) (by omega) ao ar ac al _ (by (conv => {lhs; simp only [List.length_append, List.length_cons, List.length_nil, List.length_set, Nat.reduceAdd, Nat.zero_add]}); done) (by (conv => {lhs; simp only [List.append_assoc, List.cons_append, List.nil_append]}); done)) ?_ | refine cA (zb9 _ _ _ lc (zbd _ qc lc) (by omega) ao ar ac al _ (by (conv => {lhs; simp only [List.length_append, List.length_cons, List.length_nil, List.length_set, Nat.reduceAdd, Nat.zero_add]}); done) (by (conv => {lhs; simp only [List.append_assoc, List.cons_append, List.nil_append]}); done)) ?_ | refine cA (zb9 _ _ _ lb (zbd _ qb lb) (by omega) bo br bc bl _ (by (conv => {lhs; simp only [List.length_append, List.length_cons, List.length_nil, List.length_set, Nat.reduceAdd, Nat.zero_add]}); done) (by (conv => {lhs; simp only [List.append_assoc, List.cons_append, List.nil_append]}); done)) ?_ | refine cA (zb9 _ _ _ lc (zbd _ qc lc) (by omega) bo br bc bl _ (by (conv => {lhs; simp only [List.length_append, List.length_cons, List.length_nil, List.length_set, Nat.reduceAdd, Nat.zero_add]}); done) (by (conv => {lhs; simp only [List.append_assoc, List.cons_append, List.nil_append]}); done)) ?_ | refine cA (zb9 _ _ _ lc (zbd _ qc lc) (by omega) co cr cc cl _ (by (conv => {lhs; simp only [List.length_append, List.length_cons, List.length_nil, List.length_set, Nat.reduceAdd, Nat.zero_add]}); done) (by (conv => {lhs; simp only [List.append_assoc, List.cons_append, List.nil_append]}); done)) ?_ | refine cA (zx6 _ s1 s2 s3 hbad) ?_ | refine cA (zk1 _ s1 s2 s3 hbad) ?_ | refine cA (hE) ?_ | refine cA (hC _) ?_ | refine cA (zey _ _ la (FL.blk (j := 0) (by exact rfl) (by exact rfl) (by simp) (by simp)) (by omega) _ la (zbd _ qa la) rfl) ?_ | refine cA (zey _ _ lb (FL.blk (j := 1) (by exact rfl) (by exact rfl) (by simp) (by simp)) (by omega) _ lb (zbd _ qb lb) rfl) ?_ | refine cA (zey _ _ lc (FL.blk (j := 2) (by exact rfl) (by exact rfl) (by simp) (by simp)) (by omega) _ lc (zbd _ qc lc) rfl) ?_ | fail))
 |refine m58 ?_
 |refine zdb ?_
 |refine m05 ?_
 |refine m04 ?_ | refine m02 ?_ | refine m03 ?_ | refine zan ?_
 |intro _))
  all_goals first
    | (refine zao rfl (by simp [mx, mxL, zai, aOf, zb5]) ?_; exact rfl)
    | (exfalso; contradiction)
    | (exfalso; omega)
theorem zv0 : type_of% @zen.1 := @zen.1
theorem zv1 : type_of% @zen.2.1 := @zen.2.1
theorem zv2 : type_of% @zen.2.2 := @zen.2.2
theorem zem :
    (∀ (H : List (List AV)) (qa : Nat × Nat) (la : List Nat) (ao ar ac al : Int) (qb : Nat × Nat) (lb : List Nat) (bo br bc bl : Int) (qc : Nat × Nat) (lc : List Nat) (co cr cc cl : Int) (haI : MI la.length ao ar ac al) (hbI : MI lb.length bo br bc bl) (hcI : MI lc.length co cr cc cl) (s1 s2 s3 : Int) (hw1 : -9223372036854775808 ≤ s1 ∧ s1 ≤ 9223372036854775807) (hw2 : -9223372036854775808 ≤ s2 ∧ s2 ≤ 9223372036854775807) (hw3 : -9223372036854775808 ≤ s3 ∧ s3 ≤ 9223372036854775807) (A B : Nat) (one : Int) (ho1 : -9223372036854775808 ≤ one) (ho2 : one ≤ 9223372036854775807) (hv1 : one = 1 → lc.length = 0) (hv2 : one = 2 → lc.length = 0) (hgr : ¬ ((1000 < (la.length : Int) ∨ 20 < ar ∨ 20 < ac) ∨ (1000 < (lb.length : Int) ∨ 20 < br ∨ 20 < bc) ∨ (1000 < (lc.length : Int) ∨ 20 < cr ∨ 20 < cc))) (h1 : 1 ≤ s1) (h2 : 1 ≤ s2) (h3 : 1 ≤ s3) (er : Int) (hne : er ≠ 0) (hE : zab Try.prog 11 [.agg [.int .i64 s1, .int .i64 s2, .int .i64 s3], .flt A, mt (.slm (H.length + 0) la.length 0 la.length 1) ao ar ac al, mt (.slm (H.length + 1) lb.length 0 lb.length 1) bo br bc bl, .flt B, mt (.slm (H.length + 2) lc.length 0 lc.length 1) co cr cc cl] (H ++ [fl la, fl lb, fl lc]) (.int .i64 er) (H ++ [fl la, fl lb, fl lc])) (hC : ∀ H, zab Try.prog 12 [mt (aD qa la) ao ar ac al, mt (aD qb lb) bo br bc bl, mt (aD qc lc) co cr cc cl, .int .i64 one] H (.int .i64 er) H), Spec Try.prog 3 [.agg [.int .i64 s1, .int .i64 s2, .int .i64 s3], .flt A, mt (aD qa la) ao ar ac al, mt (aD qb lb) bo br bc bl, .flt B, mt (aD qc lc) co cr cc cl, .int .i64 one] H (.bool true) H) ∧
    (∀ (H : List (List AV)) (qa : Nat × Nat) (la : List Nat) (ao ar ac al : Int) (qb : Nat × Nat) (lb : List Nat) (bo br bc bl : Int) (qc : Nat × Nat) (lc : List Nat) (co cr cc cl : Int) (haI : MI la.length ao ar ac al) (hbI : MI lb.length bo br bc bl) (hcI : MI lc.length co cr cc cl) (s1 s2 s3 : Int) (hw1 : -9223372036854775808 ≤ s1 ∧ s1 ≤ 9223372036854775807) (hw2 : -9223372036854775808 ≤ s2 ∧ s2 ≤ 9223372036854775807) (hw3 : -9223372036854775808 ≤ s3 ∧ s3 ≤ 9223372036854775807) (A B : Nat) (h0 : 0 < lc.length) (hgr : ¬ ((1000 < (la.length : Int) ∨ 20 < ar ∨ 20 < ac) ∨ (1000 < (lb.length : Int) ∨ 20 < br ∨ 20 < bc) ∨ (1000 < (lc.length : Int) ∨ 20 < cr ∨ 20 < cc))) (h1 : 1 ≤ s1) (h2 : 1 ≤ s2) (h3 : 1 ≤ s3) (er : Int) (hne : er ≠ 0) (hE : zab Try.prog 11 [.agg [.int .i64 s1, .int .i64 s2, .int .i64 s3], .flt A, mt (.slm (H.length + 2) lc.length 0 lc.length 1) ao ar ac al, mt (.slm (H.length + 1) lb.length 0 lb.length 1) bo br bc bl, .flt B, mt (.slm (H.length + 2) lc.length 0 lc.length 1) co cr cc cl] (H ++ [fl lc, fl lb, fl lc]) (.int .i64 er) (H ++ [fl lc, fl lb, fl lc])) (hC : ∀ H, zab Try.prog 12 [mt (aD qc lc) ao ar ac al, mt (aD qb lb) bo br bc bl, mt (aD qc lc) co cr cc cl, .int .i64 1] H (.int .i64 er) H), Spec Try.prog 3 [.agg [.int .i64 s1, .int .i64 s2, .int .i64 s3], .flt A, mt (aD qa la) ao ar ac al, mt (aD qb lb) bo br bc bl, .flt B, mt (aD qc lc) co cr cc cl, .int .i64 1] H (.bool true) H) ∧
    (∀ (H : List (List AV)) (qa : Nat × Nat) (la : List Nat) (ao ar ac al : Int) (qb : Nat × Nat) (lb : List Nat) (bo br bc bl : Int) (qc : Nat × Nat) (lc : List Nat) (co cr cc cl : Int) (haI : MI la.length ao ar ac al) (hbI : MI lb.length bo br bc bl) (hcI : MI lc.length co cr cc cl) (s1 s2 s3 : Int) (hw1 : -9223372036854775808 ≤ s1 ∧ s1 ≤ 9223372036854775807) (hw2 : -9223372036854775808 ≤ s2 ∧ s2 ≤ 9223372036854775807) (hw3 : -9223372036854775808 ≤ s3 ∧ s3 ≤ 9223372036854775807) (A B : Nat) (h0 : 0 < lc.length) (hgr : ¬ ((1000 < (la.length : Int) ∨ 20 < ar ∨ 20 < ac) ∨ (1000 < (lb.length : Int) ∨ 20 < br ∨ 20 < bc) ∨ (1000 < (lc.length : Int) ∨ 20 < cr ∨ 20 < cc))) (h1 : 1 ≤ s1) (h2 : 1 ≤ s2) (h3 : 1 ≤ s3) (er : Int) (hne : er ≠ 0) (hE : zab Try.prog 11 [.agg [.int .i64 s1, .int .i64 s2, .int .i64 s3], .flt A, mt (.slm (H.length + 0) la.length 0 la.length 1) ao ar ac al, mt (.slm (H.length + 2) lc.length 0 lc.length 1) bo br bc bl, .flt B, mt (.slm (H.length + 2) lc.length 0 lc.length 1) co cr cc cl] (H ++ [fl la, fl lc, fl lc]) (.int .i64 er) (H ++ [fl la, fl lc, fl lc])) (hC : ∀ H, zab Try.prog 12 [mt (aD qa la) ao ar ac al, mt (aD qc lc) bo br bc bl, mt (aD qc lc) co cr cc cl, .int .i64 2] H (.int .i64 er) H), Spec Try.prog 3 [.agg [.int .i64 s1, .int .i64 s2, .int .i64 s3], .flt A, mt (aD qa la) ao ar ac al, mt (aD qb lb) bo br bc bl, .flt B, mt (aD qc lc) co cr cc cl, .int .i64 2] H (.bool true) H) := by
  refine ⟨?_, ?_, ?_⟩
  (intro H qa la ao ar ac al qb lb bo br bc bl qc lc co cr cc cl haI hbI hcI s1 s2 s3 hw1 hw2 hw3 A B one ho1 ho2 hv1 hv2 hgr h1 h2 h3 er hne hE hC
   obtain ⟨am1, ao1, ao2, ar1, ar2, ac1, ac2, al1, al2⟩ := id haI
   obtain ⟨bm1, bo1, bo2, br1, br2, bc1, bc2, bl1, bl2⟩ := id hbI
   obtain ⟨cm1, co1, co2, cr1, cr2, cc1, cc2, cl1, cl2⟩ := id hcI
   refine Spec.go Try.func3 false [] dOk ?_
   simp only [zbf, Nat.reduceAdd])
  rotate_left
  (intro H qa la ao ar ac al qb lb bo br bc bl qc lc co cr cc cl haI hbI hcI s1 s2 s3 hw1 hw2 hw3 A B h0 hgr h1 h2 h3 er hne hE hC
   obtain ⟨am1, ao1, ao2, ar1, ar2, ac1, ac2, al1, al2⟩ := id haI
   obtain ⟨bm1, bo1, bo2, br1, br2, bc1, bc2, bl1, bl2⟩ := id hbI
   obtain ⟨cm1, co1, co2, cr1, cr2, cc1, cc2, cl1, cl2⟩ := id hcI
   refine Spec.go Try.func3 false [] dOk ?_
   simp only [zbf, Nat.reduceAdd])
  rotate_left
  (intro H qa la ao ar ac al qb lb bo br bc bl qc lc co cr cc cl haI hbI hcI s1 s2 s3 hw1 hw2 hw3 A B h0 hgr h1 h2 h3 er hne hE hC
   obtain ⟨am1, ao1, ao2, ar1, ar2, ac1, ac2, al1, al2⟩ := id haI
   obtain ⟨bm1, bo1, bo2, br1, br2, bc1, bc2, bl1, bl2⟩ := id hbI
   obtain ⟨cm1, co1, co2, cr1, cr2, cc1, cc2, cl1, cl2⟩ := id hcI
   refine Spec.go Try.func3 false [] dOk ?_
   simp only [zbf, Nat.reduceAdd])
  rotate_left
  all_goals (repeat' (first
 |(refine za1 ?_; (first | refine zce ?_ | refine zav ?_ | refine m13 ?_ | refine m12 ?_ | refine m11 ?_ | (refine m10 ?_; (first | refine zbr ?_ | refine zbm ?_ | refine zbq ?_ | refine zbn ?_ | refine zbp ?_ ?_ | refine zbo ?_ ?_ | refine zbl ?_ ?_ | refine zbk ?_ ?_ | fail)) | (refine m09 ?_; (first | refine zbr ?_ | refine zbm ?_ | refine zbq ?_ | refine zbn ?_ | refine zbp ?_ ?_ | refine zbo ?_ ?_ | refine zbl ?_ ?_ | refine zbk ?_ ?_ | fail)) | refine m38 ?_ | fail))
 |(refine za2 ?_; (first | refine m14 ?_ | (refine m17 ?_; first | refine m19 ?_ | refine m18 ?_) | (refine m07 ?_; (first | refine m15 ?_ | refine m16 ?_ | fail)) | refine zbu (by (conv => {lhs; whnf}); done) (by exact (zbd [] qc lc).len) ?_ | refine zhy (n := 0) (by (conv => {lhs; whnf}); done) (by omega) ?_ | refine zhy (n := 1) (by (conv => {lhs; whnf}); done) (by omega) ?_ | refine zhy (n := 2) (by (conv => {lhs; whnf}); done) (by omega) ?_ | (refine m45 ?_; (first | refine zde (by exact rfl) ?_ | refine v_k ?_ | fail)) | (refine m00 ?_; (first | refine m52 ?_ | refine m53 ?_ | refine ze3 ?_ | refine m54 ?_ | refine m55 ?_ | refine zcb ?_ | refine m47 ?_ | refine m48 ?_ | refine m49 ?_ | refine m50 ?_ | refine zd3 ?_ | refine zd1 ?_ | refine zd2 ?_ | refine v_k ?_ | refine m51 ?_ | fail)) | (refine m22 ?_; (first | refine m26 ?_ | refine m27 ?_ | fail)) | refine m42 ?_ | refine zad ?_ | refine zae ?_ | refine m08 ?_ | (refine m20 ?_; (first | refine m52 ?_ | refine m53 ?_ | refine ze3 ?_ | refine m54 ?_ | refine m55 ?_ | refine zcb ?_ | refine m47 ?_ | refine m48 ?_ | refine m49 ?_ | refine m50 ?_ | refine zd3 ?_ | refine zd1 ?_ | refine zd2 ?_ | refine v_k ?_ | refine m51 ?_ | fail)) | refine zar ?_ | refine zbu (by (conv => {lhs; whnf}); done) (by first | rfl | assumption) ?_ | refine m25 ?_ | refine m01 ?_ | refine m24 ?_ | refine zca ?_ | fail))
 |(refine zcy ?_; (first | refine m36 ?_ | refine zcw ?_ | refine m32 ?_ | refine m31 ?_ | refine m30 ?_ | (refine m28 ?_; (first | refine zb2 ?_ | refine zbx ?_ | refine zb1 ?_ | refine zby ?_ | refine zb0 ?_ ?_ | refine zbz ?_ ?_ | refine zbw ?_ ?_ | refine zbv ?_ ?_ | fail)) | (refine m29 ?_; (first | refine zb2 ?_ | refine zbx ?_ | refine zb1 ?_ | refine zby ?_ | refine zb0 ?_ ?_ | refine zbz ?_ ?_ | refine zbw ?_ ?_ | refine zbv ?_ ?_ | fail)) | refine m37 ?_ | fail))
 |(refine zcx ?_; (first | refine zgb ?_ | refine zh9 ?_ | refine zia (by (conv => {lhs; whnf}); done) ?_ | refine zib ?_ | refine zh8 (by exact rfl) (by exact rfl) ?_ | refine m34 ?_ | refine m35 ?_ | refine m33 ?_ | refine zgc ?_ | refine m56 ?_ | refine zcz ?_ | refine zdr (by exact rfl) ?_ | fail))
 |refine zaz ?_ | refine za0 ?_ | refine zay ?_
 |(refine za3 ?_; (first | refine zax ?_ | refine zac ?_ | (refine m06 ?_; (first | refine c_T ?_ | refine c_F ?_ | refine c_P ?_ ?_ | refine c_B ?_ ?_ | fail)) | refine zaw ?_ | refine zam ?_ | refine zaf ?_ | refine b_exit ?_ | refine zba (id := 9) [15, 16, 17] [] [(0, .ld true), (2, .ld true), (4, .ld true), (6, .bx), (7, .bx), (8, .bx), (1, .mn true), (3, .mn true), (5, .mn true), (9, .mn true), (10, .mn true), (11, .mn true)] (by kernel_rfl) ?_ | refine zba (id := 22) [] [] [(0, .ld true), (1, .lt), (2, .ld true), (4, .ld true), (6, .lt), (7, .ld true), (3, .mn true), (5, .mn true), (8, .mn true), (9, .mn true), (10, .mn true), (11, .lt)] (by kernel_rfl) ?_ | fail))
 |refine m21 ?_
 |refine zbi ?_
 |(refine zbj ?_; (first | refine cA (ze6 _) ?_ | refine cA (zh6 _ qa la ao ar ac al haI qb lb bo br bc bl hbI qc lc co cr cc cl hcI hgr) ?_ | refine cA (zb9 _ _ _ la (zbd _ qa la) (by omega) ao ar ac al _ (by (conv => {lhs; simp only [List.length_append, List.length_cons, List.length_nil, List.length_set, Nat.reduceAdd, Nat.zero_add]}); done) (by (conv => {lhs; simp only [List.append_assoc, List.cons_append, List.nil_append]}); done)) ?_ | refine cA (zb9 _ _ _ lc (zbd _ qc lc) (by omega) ao ar ac al _ (by (conv => {lhs; simp only [List.length_append, List.length_cons, List.length_nil, List.length_set, Nat.reduceAdd, Nat.zero_add]}); done) (by (conv => {lhs; simp only [List.append_assoc, List.cons_append, List.nil_append]}); done)) ?_ | refine cA (zb9 _ _ _ lb (zbd _ qb lb) (by omega) bo br bc bl _ (by (conv => {lhs; simp only [List.length_append, List.length_cons, List.length_nil, List.length_set, Nat.reduceAdd, Nat.zero_add]}); done) (by (conv => {lhs; simp only [List.append_assoc, List.cons_append, List.nil_append]}); done)) ?_ | refine cA (zb9 _ _ _ lc (zbd _ qc lc) (by omega) bo br bc bl _ (by (conv => {lhs; simp only [List.length_append, List.length_cons, List.length_nil, List.length_set, Nat.reduceAdd, Nat.zero_add]}); done) (by (conv => {lhs; simp only [List.append_assoc, List.cons_append, List.nil_append]}); done)) ?_ | refine cA (zb9 _ _ _ lc (zbd _ qc lc) (by omega) co cr cc cl _ (by (conv => {lhs; simp only [List.length_append, List.length_cons, List.length_nil, List.length_set, Nat.reduceAdd, Nat.zero_add]}); done) (by (conv => {lhs; simp only [List.append_assoc, List.cons_append, List.nil_append]}); done)) ?_ | refine cA (zwg _ s1 s2 s3 h1 h2 h3) ?_ | refine cA (ze8 _ s1 s2 s3 h1 h2 h3) ?_ | refine cA (hE) ?_ | refine cA (hC _) ?_ | refine cA (zey _ _ la (FL.blk (j := 0) (by exact rfl) (by exact rfl) (by simp) (by simp)) (by omega) _ la (zbd _ qa la) rfl) ?_ | refine cA (zey _ _ lb (FL.blk (j := 1) (by exact rfl) (by exact rfl) (by simp) (by simp)) (by omega) _ lb (zbd _ qb lb) rfl) ?_ | refine cA (zey _ _ lc (FL.blk (j := 2) (by exact rfl) (by exact rfl) (by simp) (by simp)) (by omega) _ lc (zbd _ qc lc) rfl) ?_ | fail))
 |refine m58 ?_
 |refine zdb ?_
 |refine m05 ?_
 |refine m04 ?_ | refine m02 ?_ | refine m03 ?_ | refine zan ?_
 |intro _))
  all_goals first
    | (refine zao rfl (by simp [mx, mxL, zai, aOf, zb5]) ?_; exact rfl)
    | (exfalso; contradiction)
    | (exfalso; omega)
theorem zro : type_of% @zem.1 := @zem.1
theorem znx : type_of% @zem.2.1 := @zem.2.1
theorem zny : type_of% @zem.2.2 := @zem.2.2
theorem zel :
    (∀ (H : List (List AV)) (qa : Nat × Nat) (la : List Nat) (ao al : Int) (qb : Nat × Nat) (lb : List Nat) (bo bl : Int) (qc : Nat × Nat) (lc : List Nat) (co cl : Int) (r w c : Nat) (haI : MI la.length ao (r : Int) (w : Int) al) (hbI : MI lb.length bo (w : Int) (c : Int) bl) (hcI : MI lc.length co (r : Int) (c : Int) cl) (s1 s2 s3 : Int) (hw1 : -9223372036854775808 ≤ s1 ∧ s1 ≤ 9223372036854775807) (hw2 : -9223372036854775808 ≤ s2 ∧ s2 ≤ 9223372036854775807) (hw3 : -9223372036854775808 ≤ s3 ∧ s3 ≤ 9223372036854775807) (A B : Nat) (one : Int) (ho1 : -9223372036854775808 ≤ one) (ho2 : one ≤ 9223372036854775807) (hv1 : one = 1 → lc.length = 0) (hv2 : one = 2 → lc.length = 0) (hgr : ¬ ((1000 < (la.length : Int) ∨ 20 < (r : Int) ∨ 20 < (w : Int)) ∨ (1000 < (lb.length : Int) ∨ 20 < (w : Int) ∨ 20 < (c : Int)) ∨ (1000 < (lc.length : Int) ∨ 20 < (r : Int) ∨ 20 < (c : Int)))) (h1 : 1 ≤ s1) (h2 : 1 ≤ s2) (h3 : 1 ≤ s3) (hga : zaa la.length ao r w al) (hgb : zaa lb.length bo w c bl) (hgc : zaa lc.length co r c cl) (lz : List Nat) (hlz : lz = zal lc co cl r c (gmM A (mel la ao al) (mel lb bo bl) (fun i j => gmB B (mel lc co cl i j)) w)) (hE : zab Try.prog 11 [.agg [.int .i64 s1, .int .i64 s2, .int .i64 s3], .flt A, mt (.slm (H.length + 0) la.length 0 la.length 1) ao (r : Int) (w : Int) al, mt (.slm (H.length + 1) lb.length 0 lb.length 1) bo (w : Int) (c : Int) bl, .flt B, mt (.slm (H.length + 2) lc.length 0 lc.length 1) co (r : Int) (c : Int) cl] (H ++ [fl la, fl lb, fl lc]) (.int .i64 0) (H ++ [fl la, fl lb, fl lz])) (hC : ∀ H, zab Try.prog 12 [mt (aD qa la) ao (r : Int) (w : Int) al, mt (aD qb lb) bo (w : Int) (c : Int) bl, mt (aD qc lc) co (r : Int) (c : Int) cl, .int .i64 one] H (.int .i64 0) H), Spec Try.prog 3 [.agg [.int .i64 s1, .int .i64 s2, .int .i64 s3], .flt A, mt (aD qa la) ao (r : Int) (w : Int) al, mt (aD qb lb) bo (w : Int) (c : Int) bl, .flt B, mt (aD qc lc) co (r : Int) (c : Int) cl, .int .i64 one] H (.bool true) H) ∧
    (∀ (H : List (List AV)) (qa : Nat × Nat) (la : List Nat) (ao al : Int) (qb : Nat × Nat) (lb : List Nat) (bo bl : Int) (qc : Nat × Nat) (lc : List Nat) (co cl : Int) (r w c : Nat) (haI : MI la.length ao (r : Int) (w : Int) al) (hbI : MI lb.length bo (w : Int) (c : Int) bl) (hcI : MI lc.length co (r : Int) (c : Int) cl) (s1 s2 s3 : Int) (hw1 : -9223372036854775808 ≤ s1 ∧ s1 ≤ 9223372036854775807) (hw2 : -9223372036854775808 ≤ s2 ∧ s2 ≤ 9223372036854775807) (hw3 : -9223372036854775808 ≤ s3 ∧ s3 ≤ 9223372036854775807) (A B : Nat) (h0 : 0 < lc.length) (hgr : ¬ ((1000 < (la.length : Int) ∨ 20 < (r : Int) ∨ 20 < (w : Int)) ∨ (1000 < (lb.length : Int) ∨ 20 < (w : Int) ∨ 20 < (c : Int)) ∨ (1000 < (lc.length : Int) ∨ 20 < (r : Int) ∨ 20 < (c : Int)))) (h1 : 1 ≤ s1) (h2 : 1 ≤ s2) (h3 : 1 ≤ s3) (hga : zaa lc.length ao r w al) (hgb : zaa lb.length bo w c bl) (hgc : zaa lc.length co r c cl) (lz : List Nat) (hlz : lz = zal lc co cl r c (gmM A (mel lc ao al) (mel lb bo bl) (fun i j => gmB B (mel lc co cl i j)) w)) (hE : zab Try.prog 11 [.agg [.int .i64 s1, .int .i64 s2, .int .i64 s3], .flt A, mt (.slm (H.length + 2) lc.length 0 lc.length 1) ao (r : Int) (w : Int) al, mt (.slm (H.length + 1) lb.length 0 lb.length 1) bo (w : Int) (c : Int) bl, .flt B, mt (.slm (H.length + 2) lc.length 0 lc.length 1) co (r : Int) (c : Int) cl] (H ++ [fl lc, fl lb, fl lc]) (.int .i64 0) (H ++ [fl lc, fl lb, fl lz])) (hC : ∀ H, zab Try.prog 12 [mt (aD qc lc) ao (r : Int) (w : Int) al, mt (aD qb lb) bo (w : Int) (c : Int) bl, mt (aD qc lc) co (r : Int) (c : Int) cl, .int .i64 1] H (.int .i64 0) H), Spec Try.prog 3 [.agg [.int .i64 s1, .int .i64 s2, .int .i64 s3], .flt A, mt (aD qa la) ao (r : Int) (w : Int) al, mt (aD qb lb) bo (w : Int) (c : Int) bl, .flt B, mt (aD qc lc) co (r : Int) (c : Int) cl, .int .i64 1] H (.bool true) H) ∧
    (∀ (H : List (List AV)) (qa : Nat × Nat) (la : List Nat) (ao al : Int) (qb : Nat × Nat) (lb : List Nat) (bo bl : Int) (qc : Nat × Nat) (lc : List Nat) (co cl : Int) (r w c : Nat) (haI : MI la.length ao (r : Int) (w : Int) al) (hbI : MI lb.length bo (w : Int) (c : Int) bl) (hcI : MI lc.length co (r : Int) (c : Int) cl) (s1 s2 s3 : Int) (hw1 : -9223372036854775808 ≤ s1 ∧ s1 ≤ 9223372036854775807) (hw2 : -9223372036854775808 ≤ s2 ∧ s2 ≤ 9223372036854775807) (hw3 : -9223372036854775808 ≤ s3 ∧ s3 ≤ 9223372036854775807) (A B : Nat) (h0 : 0 < lc.length) (hgr : ¬ ((1000 < (la.length : Int) ∨ 20 < (r : Int) ∨ 20 < (w : Int)) ∨ (1000 < (lb.length : Int) ∨ 20 < (w : Int) ∨ 20 < (c : Int)) ∨ (1000 < (lc.length : Int) ∨ 20 < (r : Int) ∨ 20 < (c : Int)))) (h1 : 1 ≤ s1) (h2 : 1 ≤ s2) (h3 : 1 ≤ s3) (hga : zaa la.length ao r w al) (hgb : zaa lc.length bo w c bl) (hgc : zaa lc.length co r c cl) (lz : List Nat) (hlz : lz = zal lc co cl r c (gmM A (mel la ao al) (mel lc bo bl) (fun i j => gmB B (mel lc co cl i j)) w)) (hE : zab Try.prog 11 [.agg [.int .i64 s1, .int .i64 s2, .int .i64 s3], .flt A, mt (.slm (H.length + 0) la.length 0 la.length 1) ao (r : Int) (w : Int) al, mt (.slm (H.length + 2) lc.length 0 lc.length 1) bo (w : Int) (c : Int) bl, .flt B, mt (.slm (H.length + 2) lc.length 0 lc.length 1) co (r : Int) (c : Int) cl] (H ++ [fl la, fl lc, fl lc]) (.int .i64 0) (H ++ [fl la, fl lc, fl lz])) (hC : ∀ H, zab Try.prog 12 [mt (aD qa la) ao (r : Int) (w : Int) al, mt (aD qc lc) bo (w : Int) (c : Int) bl, mt (aD qc lc) co (r : Int) (c : Int) cl, .int .i64 2] H (.int .i64 0) H), Spec Try.prog 3 [.agg [.int .i64 s1, .int .i64 s2, .int .i64 s3], .flt A, mt (aD qa la) ao (r : Int) (w : Int) al, mt (aD qb lb) bo (w : Int) (c : Int) bl, .flt B, mt (aD qc lc) co (r : Int) (c : Int) cl, .int .i64 2] H (.bool true) H) := by
  refine ⟨?_, ?_, ?_⟩
  (intro H qa la ao al qb lb bo bl qc lc co cl r w c haI hbI hcI s1 s2 s3 hw1 hw2 hw3 A B one ho1 ho2 hv1 hv2 hgr h1 h2 h3 hga hgb hgc lz hlz hE hC
   subst hlz
   obtain ⟨am1, ao1, ao2, ar1, ar2, ac1, ac2, al1, al2⟩ := id haI
   obtain ⟨bm1, bo1, bo2, br1, br2, bc1, bc2, bl1, bl2⟩ := id hbI
   obtain ⟨cm1, co1, co2, cr1, cr2, cc1, cc2, cl1, cl2⟩ := id hcI
   refine Spec.go Try.func3 false [] dOk ?_
   simp only [zbf, Nat.reduceAdd])
  rotate_left
  (intro H qa la ao al qb lb bo bl qc lc co cl r w c haI hbI hcI s1 s2 s3 hw1 hw2 hw3 A B h0 hgr h1 h2 h3 hga hgb hgc lz hlz hE hC
   subst hlz
   obtain ⟨am1, ao1, ao2, ar1, ar2, ac1, ac2, al1, al2⟩ := id haI
   obtain ⟨bm1, bo1, bo2, br1, br2, bc1, bc2, bl1, bl2⟩ := id hbI
   obtain ⟨cm1, co1, co2, cr1, cr2, cc1, cc2, cl1, cl2⟩ := id hcI
   refine Spec.go Try.func3 false [] dOk ?_
   simp only [zbf, Nat.reduceAdd])
  rotate_left
  (intro H qa la ao al qb lb bo bl qc lc co cl r w c haI hbI hcI s1 s2 s3 hw1 hw2 hw3 A B h0 hgr h1 h2 h3 hga hgb hgc lz hlz hE hC
   subst hlz
   obtain ⟨am1, ao1, ao2, ar1, ar2, ac1, ac2, al1, al2⟩ := id haI
   obtain ⟨bm1, bo1, bo2, br1, br2, bc1, bc2, bl1, bl2⟩ := id hbI
   obtain ⟨cm1, co1, co2, cr1, cr2, cc1, cc2, cl1, cl2⟩ := id hcI
   refine Spec.go Try.func3 false [] dOk ?_
   simp only [zbf, Nat.reduceAdd])
  rotate_left
  all_goals (repeat' (first
 |(refine za1 ?_; (first | refine zce ?_ | refine zav ?_ | refine m13 ?_ | refine m12 ?_ | refine m11 ?_ | (refine m10 ?_; (first | refine zbr ?_ | refine zbm ?_ | refine zbq ?_ | refine zbn ?_ | refine zbp ?_ ?_ | refine zbo ?_ ?_ | refine zbl ?_ ?_ | refine zbk ?_ ?_ | fail)) | (refine m09 ?_; (first | refine zbr ?_ | refine zbm ?_ | refine zbq ?_ | refine zbn ?_ | refine zbp ?_ ?_ | refine zbo ?_ ?_ | refine zbl ?_ ?_ | refine zbk ?_ ?_ | fail)) | refine m38 ?_ | fail))
 |(refine za2 ?_; (first | refine m14 ?_ | (refine m17 ?_; first | refine m19 ?_ | refine m18 ?_) | (refine m07 ?_; (first | refine m15 ?_ | refine m16 ?_ | fail)) | refine zbu (by (conv => {lhs; whnf}); done) (by exact (zbd [] qc lc).len) ?_ | refine zhy (n := 0) (by (conv => {lhs; whnf}); done) (by omega) ?_ | refine zhy (n := 1) (by (conv => {lhs; whnf}); done) (by omega) ?_ | refine zhy (n := 2) (by (conv => {lhs; whnf}); done) (by omega) ?_ | (refine m45 ?_; (first | refine zde (by exact rfl) ?_ | refine v_k ?_ | fail)) | (refine m00 ?_; (first | refine m52 ?_ | refine m53 ?_ | refine ze3 ?_ | refine m54 ?_ | refine m55 ?_ | refine zcb ?_ | refine m47 ?_ | refine m48 ?_ | refine m49 ?_ | refine m50 ?_ | refine zd3 ?_ | refine zd1 ?_ | refine zd2 ?_ | refine v_k ?_ | refine m51 ?_ | fail)) | (refine m22 ?_; (first | refine m26 ?_ | refine m27 ?_ | fail)) | refine m42 ?_ | refine zad ?_ | refine zae ?_ | refine m08 ?_ | (refine m20 ?_; (first | refine m52 ?_ | refine m53 ?_ | refine ze3 ?_ | refine m54 ?_ | refine m55 ?_ | refine zcb ?_ | refine m47 ?_ | refine m48 ?_ | refine m49 ?_ | refine m50 ?_ | refine zd3 ?_ | refine zd1 ?_ | refine zd2 ?_ | refine v_k ?_ | refine m51 ?_ | fail)) | refine zar ?_ | refine zbu (by (conv => {lhs; whnf}); done) (by first | rfl | assumption) ?_ | refine m25 ?_ | refine m01 ?_ | refine m24 ?_ | refine zca ?_ | fail))
 |(refine zcy ?_; (first | refine m36 ?_ | refine zcw ?_ | refine m32 ?_ | refine m31 ?_ | refine m30 ?_ | (refine m28 ?_; (first | refine zb2 ?_ | refine zbx ?_ | refine zb1 ?_ | refine zby ?_ | refine zb0 ?_ ?_ | refine zbz ?_ ?_ | refine zbw ?_ ?_ | refine zbv ?_ ?_ | fail)) | (refine m29 ?_; (first | refine zb2 ?_ | refine zbx ?_ | refine zb1 ?_ | refine zby ?_ | refine zb0 ?_ ?_ | refine zbz ?_ ?_ | refine zbw ?_ ?_ | refine zbv ?_ ?_ | fail)) | refine m37 ?_ | fail))
 |(refine zcx ?_; (first | refine zgb ?_ | refine zh9 ?_ | refine zia (by (conv => {lhs; whnf}); done) ?_ | refine zib ?_ | refine zh8 (by exact rfl) (by exact rfl) ?_ | refine m34 ?_ | refine m35 ?_ | refine m33 ?_ | refine zgc ?_ | refine m56 ?_ | refine zcz ?_ | refine zdr (by exact rfl) ?_ | fail))
 |refine zaz ?_ | refine za0 ?_ | refine zay ?_
 |(refine za3 ?_; (first | refine zax ?_ | refine zac ?_ | (refine m06 ?_; (first | refine c_T ?_ | refine c_F ?_ | refine c_P ?_ ?_ | refine c_B ?_ ?_ | fail)) | refine zaw ?_ | refine zam ?_ | refine zaf ?_ | refine b_exit ?_ | refine zba (id := 9) [15, 16, 17] [] [(0, .ld true), (2, .ld true), (4, .ld true), (6, .bx), (7, .bx), (8, .bx), (1, .mn true), (3, .mn true), (5, .mn true), (9, .mn true), (10, .mn true), (11, .mn true)] (by kernel_rfl) ?_ | refine zba (id := 22) [] [] [(0, .ld true), (1, .lt), (2, .ld true), (4, .ld true), (6, .lt), (7, .ld true), (3, .mn true), (5, .mn true), (8, .mn true), (9, .mn true), (10, .mn true), (11, .lt)] (by kernel_rfl) ?_ | fail))
 |refine m21 ?_
 |refine zbi ?_
 |(refine zbj ?_; (first | refine cA (ze6 _) ?_ | refine cA (zh6 _ qa la ao (r : Int) (w : Int) al haI qb lb bo (w : Int) (c : Int) bl hbI qc lc co (r : Int) (c : Int) cl hcI hgr) ?_ | refine cA (zb9 _ _ _ la (zbd _ qa la) (by omega) ao (r : Int) (w : Int) al _ (by (conv => {lhs; simp only [List.length_append, List.length_cons, List.length_nil, List.length_set, Nat.reduceAdd, Nat.zero_add]}); done) (by (conv => {lhs; simp only [List.append_assoc, List.cons_append, List.nil_append]}); done)) ?_ | refine cA (zb9 _ _ _ lc (zbd _ qc lc) (by omega) ao (r : Int) (w : Int) al _ (by (conv => {lhs; simp only [List.length_append, List.length_cons, List.length_nil, List.length_set, Nat.reduceAdd, Nat.zero_add]}); done) (by (conv => {lhs; simp only [List.append_assoc, List.cons_append, List.nil_append]}); done)) ?_ | refine cA (zb9 _ _ _ lb (zbd _ qb lb) (by omega) bo (w : Int) (c : Int) bl _ (by (conv => {lhs; simp only [List.length_append, List.length_cons, List.length_nil, List.length_set, Nat.reduceAdd, Nat.zero_add]}); done) (by (conv => {lhs; simp only [List.append_assoc, List.cons_append, List.nil_append]}); done)) ?_ | refine cA (zb9 _ _ _ lc (zbd _ qc lc) (by omega) bo (w : Int) (c : Int) bl _ (by (conv => {lhs; simp only [List.length_append, List.length_cons, List.length_nil, List.length_set, Nat.reduceAdd, Nat.zero_add]}); done) (by (conv => {lhs; simp only [List.append_assoc, List.cons_append, List.nil_append]}); done)) ?_ | refine cA (zb9 _ _ _ lc (zbd _ qc lc) (by omega) co (r : Int) (c : Int) cl _ (by (conv => {lhs; simp only [List.length_append, List.length_cons, List.length_nil, List.length_set, Nat.reduceAdd, Nat.zero_add]}); done) (by (conv => {lhs; simp only [List.append_assoc, List.cons_append, List.nil_append]}); done)) ?_ | refine cA (zwg _ s1 s2 s3 h1 h2 h3) ?_ | refine cA (ze8 _ s1 s2 s3 h1 h2 h3) ?_ | refine cA (hE) ?_ | refine cA (hC _) ?_ | refine cA (zn8 _ _ la (zbd _ qa la) ao al r w (by first | exact haI | exact ⟨am1, ao1, ao2, ar1, ar2, ac1, ac2, al1, al2⟩) hga (by omega) (by omega)) ?_ | refine cA (zn8 _ _ lc (zbd _ qc lc) ao al r w (by first | exact haI | exact ⟨cm1, ao1, ao2, ar1, ar2, ac1, ac2, al1, al2⟩) hga (by omega) (by omega)) ?_ | refine cA (zn8 _ _ lb (zbd _ qb lb) bo bl w c (by first | exact hbI | exact ⟨bm1, bo1, bo2, br1, br2, bc1, bc2, bl1, bl2⟩) hgb (by omega) (by omega)) ?_ | refine cA (zn8 _ _ lc (zbd _ qc lc) bo bl w c (by first | exact hbI | exact ⟨cm1, bo1, bo2, br1, br2, bc1, bc2, bl1, bl2⟩) hgb (by omega) (by omega)) ?_ | refine cA (zn8 _ _ lc (zbd _ qc lc) co cl r c (by first | exact hcI | exact ⟨cm1, co1, co2, cr1, cr2, cc1, cc2, cl1, cl2⟩) hgc (by omega) (by omega)) ?_ | refine cA (zou _ _ (mel la ao al) r w (FL.fzn _ _ _ (by simp)) _ (mel lb bo bl) c (FL.fzn _ _ _ (by simp)) _ (mel lc co cl) (FL.fzn _ _ _ (by simp)) (by omega) (by omega) (by omega) A B) ?_ | refine cA (znq _ _ lc (zbd _ qc lc) (by omega) co cl r c hcI hgc (by omega) (by omega) _ (gmM A (mel la ao al) (mel lb bo bl) (fun i j => gmB B (mel lc co cl i j)) w) (FL.fzn _ _ _ (by simp))) ?_ | refine cA (zey _ _ (zal lc co cl r c (gmM A (mel la ao al) (mel lb bo bl) (fun i j => gmB B (mel lc co cl i j)) w)) (FL.blk (j := 2) (by exact rfl) (by exact rfl) (by simp) (by simp)) (by simp; omega) _ (zal lc co cl r c (gmM A (mel la ao al) (mel lb bo bl) (fun i j => gmB B (mel lc co cl i j)) w)) (FL.fzn _ _ _ (by simp)) rfl) ?_ | refine cA (zou _ _ (mel la ao al) r w (FL.fzn _ _ _ (by simp)) _ (mel lc bo bl) c (FL.fzn _ _ _ (by simp)) _ (mel lc co cl) (FL.fzn _ _ _ (by simp)) (by omega) (by omega) (by omega) A B) ?_ | refine cA (znq _ _ lc (zbd _ qc lc) (by omega) co cl r c hcI hgc (by omega) (by omega) _ (gmM A (mel la ao al) (mel lc bo bl) (fun i j => gmB B (mel lc co cl i j)) w) (FL.fzn _ _ _ (by simp))) ?_ | refine cA (zey _ _ (zal lc co cl r c (gmM A (mel la ao al) (mel lc bo bl) (fun i j => gmB B (mel lc co cl i j)) w)) (FL.blk (j := 2) (by exact rfl) (by exact rfl) (by simp) (by simp)) (by simp; omega) _ (zal lc co cl r c (gmM A (mel la ao al) (mel lc bo bl) (fun i j => gmB B (mel lc co cl i j)) w)) (FL.fzn _ _ _ (by simp)) rfl) ?_ | refine cA (zey _ _ la (FL.blk (j := 0) (by exact rfl) (by exact rfl) (by simp) (by simp)) (by omega) _ la (zbd _ qa la) rfl) ?_ | refine cA (zou _ _ (mel lc ao al) r w (FL.fzn _ _ _ (by simp)) _ (mel lb bo bl) c (FL.fzn _ _ _ (by simp)) _ (mel lc co cl) (FL.fzn _ _ _ (by simp)) (by omega) (by omega) (by omega) A B) ?_ | refine cA (znq _ _ lc (zbd _ qc lc) (by omega) co cl r c hcI hgc (by omega) (by omega) _ (gmM A (mel lc ao al) (mel lb bo bl) (fun i j => gmB B (mel lc co cl i j)) w) (FL.fzn _ _ _ (by simp))) ?_ | refine cA (zey _ _ (zal lc co cl r c (gmM A (mel lc ao al) (mel lb bo bl) (fun i j => gmB B (mel lc co cl i j)) w)) (FL.blk (j := 2) (by exact rfl) (by exact rfl) (by simp) (by simp)) (by simp; omega) _ (zal lc co cl r c (gmM A (mel lc ao al) (mel lb bo bl) (fun i j => gmB B (mel lc co cl i j)) w)) (FL.fzn _ _ _ (by simp)) rfl) ?_ | refine cA (zey _ _ lc (FL.blk (j := 0) (by exact rfl) (by exact rfl) (by simp) (by simp)) (by omega) _ lc (zbd _ qc lc) rfl) ?_ | refine cA (zey _ _ lb (FL.blk (j := 1) (by exact rfl) (by exact rfl) (by simp) (by simp)) (by omega) _ lb (zbd _ qb lb) rfl) ?_ | refine cA (zey _ _ lc (FL.blk (j := 1) (by exact rfl) (by exact rfl) (by simp) (by simp)) (by omega) _ lc (zbd _ qc lc) rfl) ?_ | fail))
 |refine m58 ?_
 |refine zdb ?_
 |refine m05 ?_
 |refine m04 ?_ | refine m02 ?_ | refine m03 ?_ | refine zan ?_
 |intro _))
  all_goals first
    | (refine zao rfl (by simp [mx, mxL, zai, aOf, zb5]) ?_; exact rfl)
    | (exfalso; contradiction)
    | (exfalso; omega)
theorem zvx : type_of% @zel.1 := @zel.1
theorem zvy : type_of% @zel.2.1 := @zel.2.1
theorem zvz : type_of% @zel.2.2 := @zel.2.2
theorem zx0 (H : List (List AV)) (qa : Nat × Nat) (la : List Nat) (ao ar ac al : Int) (qb : Nat × Nat) (lb : List Nat) (bo br bc bl : Int) (qc : Nat × Nat) (lc : List Nat) (co cr cc cl : Int) (haI : MI la.length ao ar ac al) (hbI : MI lb.length bo br bc bl) (hcI : MI lc.length co cr cc cl) (s1 s2 s3 : Int) (A B : Nat) (one : Int) (hgr : ((1000 < (la.length : Int) ∨ 20 < ar ∨ 20 < ac) ∨ (1000 < (lb.length : Int) ∨ 20 < br ∨ 20 < bc) ∨ (1000 < (lc.length : Int) ∨ 20 < cr ∨ 20 < cc))) :
    Spec Try.prog 3 [.agg [.int .i64 s1, .int .i64 s2, .int .i64 s3], .flt A, mt (aD qa la) ao ar ac al, mt (aD qb lb) bo br bc bl, .flt B, mt (aD qc lc) co cr cc cl, .int .i64 one] H (.bool true) H := by
  refine Spec.go Try.func3 false [] dOk ?_
  simp only [zbf, Nat.reduceAdd]
  repeat' (first
 |(refine za1 ?_; (first | refine zce ?_ | refine zav ?_ | refine m13 ?_ | refine m12 ?_ | refine m11 ?_ | (refine m10 ?_; (first | refine zbr ?_ | refine zbm ?_ | refine zbq ?_ | refine zbn ?_ | refine zbp ?_ ?_ | refine zbo ?_ ?_ | refine zbl ?_ ?_ | refine zbk ?_ ?_ | fail)) | (refine m09 ?_; (first | refine zbr ?_ | refine zbm ?_ | refine zbq ?_ | refine zbn ?_ | refine zbp ?_ ?_ | refine zbo ?_ ?_ | refine zbl ?_ ?_ | refine zbk ?_ ?_ | fail)) | refine m38 ?_ | fail))
 |(refine za2 ?_; (first | refine m14 ?_ | (refine m17 ?_; first | refine m19 ?_ | refine m18 ?_) | (refine m07 ?_; (first | refine m15 ?_ | refine m16 ?_ | fail)) | (refine m45 ?_; (first | refine zde (by exact rfl) ?_ | refine v_k ?_ | fail)) | (refine m00 ?_; (first | refine m52 ?_ | refine m53 ?_ | refine ze3 ?_ | refine m54 ?_ | refine m55 ?_ | refine zcb ?_ | refine m47 ?_ | refine m48 ?_ | refine m49 ?_ | refine m50 ?_ | refine zd3 ?_ | refine zd1 ?_ | refine zd2 ?_ | refine v_k ?_ | refine m51 ?_ | fail)) | (refine m22 ?_; (first | refine m26 ?_ | refine m27 ?_ | fail)) | refine m42 ?_ | refine zad ?_ | refine zae ?_ | refine m08 ?_ | (refine m20 ?_; (first | refine m52 ?_ | refine m53 ?_ | refine ze3 ?_ | refine m54 ?_ | refine m55 ?_ | refine zcb ?_ | refine m47 ?_ | refine m48 ?_ | refine m49 ?_ | refine m50 ?_ | refine zd3 ?_ | refine zd1 ?_ | refine zd2 ?_ | refine v_k ?_ | refine m51 ?_ | fail)) | refine zar ?_ | refine zbu (by (conv => {lhs; whnf}); done) (by first | rfl | assumption) ?_ | refine m25 ?_ | refine m01 ?_ | refine m24 ?_ | refine zca ?_ | fail))
 |(refine zcy ?_; (first | refine m36 ?_ | refine zcw ?_ | refine m32 ?_ | refine m31 ?_ | refine m30 ?_ | (refine m28 ?_; (first | refine zb2 ?_ | refine zbx ?_ | refine zb1 ?_ | refine zby ?_ | refine zb0 ?_ ?_ | refine zbz ?_ ?_ | refine zbw ?_ ?_ | refine zbv ?_ ?_ | fail)) | (refine m29 ?_; (first | refine zb2 ?_ | refine zbx ?_ | refine zb1 ?_ | refine zby ?_ | refine zb0 ?_ ?_ | refine zbz ?_ ?_ | refine zbw ?_ ?_ | refine zbv ?_ ?_ | fail)) | refine m37 ?_ | fail))
 |(refine zcx ?_; (first | refine zgb ?_ | refine zh9 ?_ | refine zia (by (conv => {lhs; whnf}); done) ?_ | refine zib ?_ | refine zh8 (by exact rfl) (by exact rfl) ?_ | refine m34 ?_ | refine m35 ?_ | refine m33 ?_ | refine zgc ?_ | refine m56 ?_ | refine zcz ?_ | refine zdr (by exact rfl) ?_ | fail))
 |refine zaz ?_ | refine za0 ?_ | refine zay ?_
 |(refine za3 ?_; (first | refine zax ?_ | refine zac ?_ | (refine m06 ?_; (first | refine c_T ?_ | refine c_F ?_ | refine c_P ?_ ?_ | refine c_B ?_ ?_ | fail)) | refine zaw ?_ | refine zam ?_ | refine zaf ?_ | refine b_exit ?_ | refine zba (id := 9) [15, 16, 17] [] [(0, .ld true), (2, .ld true), (4, .ld true), (6, .bx), (7, .bx), (8, .bx), (1, .mn true), (3, .mn true), (5, .mn true), (9, .mn true), (10, .mn true), (11, .mn true)] (by kernel_rfl) ?_ | refine zba (id := 22) [] [] [(0, .ld true), (1, .lt), (2, .ld true), (4, .ld true), (6, .lt), (7, .ld true), (3, .mn true), (5, .mn true), (8, .mn true), (9, .mn true), (10, .mn true), (11, .lt)] (by kernel_rfl) ?_ | fail))
 |refine m21 ?_
 |refine zbi ?_
 |(refine zbj ?_; (first | refine cA (ze6 _) ?_ | refine cA (zp8 _ qa la ao ar ac al haI qb lb bo br bc bl hbI qc lc co cr cc cl hcI hgr) ?_ | fail))
 |refine m58 ?_
 |refine zdb ?_
 |refine m05 ?_
 |refine m04 ?_ | refine m02 ?_ | refine m03 ?_ | refine zan ?_
 |intro _)
  all_goals first
    | (refine zao rfl (by simp [mx, mxL, zai, aOf, zb5]) ?_; exact rfl)
    | (exfalso; contradiction)
    | (exfalso; omega)
theorem zo9 {n : Nat} {o ld a b : Int} {r c : Nat} (hG : zaa n o r c ld) (h0 : n = 0) (h : zcf (msF o r c) (msT o r c ld) a b) : False := by
  obtain ⟨h1, _⟩ := h
  obtain ⟨g1, g2, g3, g4, g5, g6⟩ := hG
  unfold msF msT at h1
  have : (r : Int) = 0 ∨ (c : Int) = 0 := by omega
  rw [if_pos this, if_pos this] at h1
  omega
theorem zin (qa : Nat × Nat) (la : List Nat) (ao ar ac al : Int) (haI : MI la.length ao ar ac al) (qb : Nat × Nat) (lb : List Nat) (bo br bc bl : Int) (hbI : MI lb.length bo br bc bl) (qc : Nat × Nat) (lc : List Nat) (co cr cc cl : Int) (hcI : MI lc.length co cr cc cl) (one : Int) (ho1 : -9223372036854775808 ≤ one) (ho2 : one ≤ 9223372036854775807) : ∃ wa : Int, ∀ H, zab Try.prog 12 [mt (aD qa la) ao ar ac al, mt (aD qb lb) bo br bc bl, mt (aD qc lc) co cr cc cl, .int .i64 one] H (.int .i64 wa) H := by
  by_cases hg : (zaa la.length ao ar ac al ∧ zaa lb.length bo br bc bl ∧ zaa lc.length co cr cc cl)
  · by_cases hs : (ac = br ∧ cr = ar ∧ cc = bc)
    · by_cases h1 : one = 1 ∧ zcf (msF co cr cc) (msT co cr cc cl) (msF ao ar ac) (msT ao ar ac al)
      · exact ⟨2, fun H => zoo H qa la ao ar ac al haI qb lb bo br bc bl hbI qc lc co cr cc cl hcI one ho1 ho2 hg hs h1.1 h1.2⟩
      · by_cases h2 : one = 2 ∧ zcf (msF co cr cc) (msT co cr cc cl) (msF bo br bc) (msT bo br bc bl)
        · exact ⟨2, fun H => zop H qa la ao ar ac al haI qb lb bo br bc bl hbI qc lc co cr cc cl hcI one ho1 ho2 hg hs h2.1 h2.2⟩
        · exact ⟨0, fun H => zlm H qa la ao ar ac al haI qb lb bo br bc bl hbI qc lc co cr cc cl hcI one ho1 ho2 hg hs (fun a b => h1 ⟨a, b⟩) (fun a b => h2 ⟨a, b⟩)⟩
    · exact ⟨3, fun H => zlo H qa la ao ar ac al haI qb lb bo br bc bl hbI qc lc co cr cc cl hcI one ho1 ho2 hg hs⟩
  · exact ⟨1, fun H => zln H qa la ao ar ac al haI qb lb bo br bc bl hbI qc lc co cr cc cl hcI one ho1 ho2 hg⟩
theorem zi3 (H : List (List AV)) (qa : Nat × Nat) (la : List Nat) (ao ar ac al : Int) (qb : Nat × Nat) (lb : List Nat) (bo br bc bl : Int) (qc : Nat × Nat) (lc : List Nat) (co cr cc cl : Int) (haI : MI la.length ao ar ac al) (hbI : MI lb.length bo br bc bl) (hcI : MI lc.length co cr cc cl) (s1 s2 s3 : Int) (hw1 : -9223372036854775808 ≤ s1 ∧ s1 ≤ 9223372036854775807) (hw2 : -9223372036854775808 ≤ s2 ∧ s2 ≤ 9223372036854775807) (hw3 : -9223372036854775808 ≤ s3 ∧ s3 ≤ 9223372036854775807) (A B : Nat) (one : Int) (ho1 : -9223372036854775808 ≤ one) (ho2 : one ≤ 9223372036854775807) : Spec Try.prog 3 [.agg [.int .i64 s1, .int .i64 s2, .int .i64 s3], .flt A, mt (aD qa la) ao ar ac al, mt (aD qb lb) bo br bc bl, .flt B, mt (aD qc lc) co cr cc cl, .int .i64 one] H (.bool true) H := by
  by_cases hgr : ((1000 < (la.length : Int) ∨ 20 < ar ∨ 20 < ac) ∨ (1000 < (lb.length : Int) ∨ 20 < br ∨ 20 < bc) ∨ (1000 < (lc.length : Int) ∨ 20 < cr ∨ 20 < cc))
  · exact zx0 H qa la ao ar ac al qb lb bo br bc bl qc lc co cr cc cl haI hbI hcI s1 s2 s3 A B one hgr
  by_cases hv1 : one = 1 ∧ 0 < lc.length
  · obtain ⟨rfl, h0⟩ := hv1
    have haI' : MI lc.length ao ar ac al := ⟨hcI.1, haI.2, haI.3, haI.4, haI.5, haI.6, haI.7, haI.8, haI.9⟩
    have hbI' : MI lb.length bo br bc bl := ⟨hbI.1, hbI.2, hbI.3, hbI.4, hbI.5, hbI.6, hbI.7, hbI.8, hbI.9⟩
    by_cases hr : 1 ≤ s1 ∧ 1 ≤ s2 ∧ 1 ≤ s3
    · obtain ⟨h1, h2, h3⟩ := hr
      by_cases hg : zaa lc.length ao ar ac al ∧ zaa lb.length bo br bc bl ∧ zaa lc.length co cr cc cl
      · obtain ⟨hga, hgb, hgc⟩ := id hg
        by_cases hs : ac = br ∧ cr = ar ∧ cc = bc
        · obtain ⟨e1, e2, e3⟩ := hs
          subst e1 e2 e3
          obtain ⟨w, rfl⟩ : ∃ w : Nat, ac = (w : Int) := ⟨ac.toNat, by have := hga.2.1; omega⟩
          obtain ⟨r, rfl⟩ : ∃ r : Nat, cr = (r : Int) := ⟨cr.toNat, by have := hgc.1; omega⟩
          obtain ⟨c, rfl⟩ : ∃ c : Nat, cc = (c : Int) := ⟨cc.toNat, by have := hgc.2.1; omega⟩
          have hm1 := haI'.1
          by_cases hsp : zcf (msF co (r : Int) (c : Int)) (msT co (r : Int) (c : Int) cl) (msF ao (r : Int) (w : Int)) (msT ao (r : Int) (w : Int) al)
          · exact znx H qa la ao r w al qb lb bo w c bl qc lc co r c cl haI hbI hcI s1 s2 s3 hw1 hw2 hw3 A B h0 hgr h1 h2 h3 2 (by decide) (zsm (H ++ [fl lc, fl lb, fl lc]) s1 s2 s3 h1 h2 h3 (H.length + 2) lc (zau rfl rfl) ao al r w haI' hga (H.length + 1) lb (zau rfl rfl) bo bl w c hbI' hgb (H.length + 2) lc (zau rfl rfl) co cl r c hcI hgc (by omega) (by omega) (by omega) rfl rfl rfl (fun N => by have h := zrv ((H ++ [fl lc, fl lb, fl lc]) ++ N) (.slm (H.length + 2) lc.length 0 lc.length 1) lc.length co r c cl rfl hcI (.slm (H.length + 2) lc.length 0 lc.length 1) lc.length ao r w al rfl haI' (fun _ _ => zim (zdj (zau (j := 2) rfl rfl)) rfl); rwa [decide_eq_true (zlb hgc hga hsp)] at h) A B) (fun H => zoo H qc lc ao r w al haI' qb lb bo w c bl hbI' qc lc co r c cl hcI 1 (by omega) (by omega) ⟨hga, hgb, hgc⟩ ⟨rfl, rfl, rfl⟩ rfl hsp)
          · skip
            have h := zi4 H s1 s2 s3 h1 h2 h3 hw1 hw2 hw3 [lc, lb, lc] 2 1 2 lc rfl ao al r w haI' hga lb rfl bo bl w c hbI' hgb lc rfl co cl r c hcI hgc (by omega) (by omega) (by omega) rfl rfl rfl _ _ _ _ _ _ (zc5 _ _ _ _) (zc5 _ _ _ _) (zc5 _ _ _ _) (zrh hgc hga hsp) zja A B
            exact zvy H qa la ao al qb lb bo bl qc lc co cl r w c haI hbI hcI s1 s2 s3 hw1 hw2 hw3 A B h0 hgr h1 h2 h3 hga hgb hgc _ rfl h (fun H => zlm H qc lc ao r w al haI' qb lb bo w c bl hbI' qc lc co r c cl hcI 1 (by omega) (by omega) ⟨hga, hgb, hgc⟩ ⟨rfl, rfl, rfl⟩ (fun _ => hsp) (fun h9 => absurd h9 (by decide)))
        · obtain ⟨w, rfl⟩ : ∃ w : Nat, ac = (w : Int) := ⟨ac.toNat, by have := hga.2.1; omega⟩
          obtain ⟨r', rfl⟩ : ∃ r : Nat, ar = (r : Int) := ⟨ar.toNat, by have := hga.1; omega⟩
          obtain ⟨w', rfl⟩ : ∃ w : Nat, br = (w : Int) := ⟨br.toNat, by have := hgb.1; omega⟩
          obtain ⟨c', rfl⟩ : ∃ c : Nat, bc = (c : Int) := ⟨bc.toNat, by have := hgb.2.1; omega⟩
          obtain ⟨r, rfl⟩ : ∃ r : Nat, cr = (r : Int) := ⟨cr.toNat, by have := hgc.1; omega⟩
          obtain ⟨c, rfl⟩ : ∃ c : Nat, cc = (c : Int) := ⟨cc.toNat, by have := hgc.2.1; omega⟩
          refine znx H qa la ao r' w al qb lb bo w' c' bl qc lc co r c cl haI hbI hcI s1 s2 s3 hw1 hw2 hw3 A B h0 hgr h1 h2 h3 3 (by decide) ?_ (fun H => zlo H qc lc ao r' w al haI' qb lb bo w' c' bl hbI' qc lc co r c cl hcI 1 (by omega) (by omega) hg hs)
          by_cases hd : r = r' ∧ c = c'
          · exact zj8 (H ++ [fl lc, fl lb, fl lc]) s1 s2 s3 h1 h2 h3 (H.length + 2) lc (zau rfl rfl) ao al r' w haI' hga (H.length + 1) lb (zau rfl rfl) bo bl w' c' hbI' hgb (H.length + 2) lc (zau rfl rfl) co cl r c hcI hgc (by omega) (by omega) (by omega) hd.1 hd.2 (fun h9 => hs ⟨by omega, by omega, by omega⟩) A B
          · exact zj7 (H ++ [fl lc, fl lb, fl lc]) s1 s2 s3 h1 h2 h3 (.slm (H.length + 2) lc.length 0 lc.length 1) lc (FL.blk (j := 2) rfl rfl rfl rfl) ao al r' w haI' hga (.slm (H.length + 1) lb.length 0 lb.length 1) lb (FL.blk (j := 1) rfl rfl rfl rfl) bo bl w' c' hbI' hgb (.slm (H.length + 2) lc.length 0 lc.length 1) lc (FL.blk (j := 2) rfl rfl rfl rfl) co cl r c hcI hgc (by omega) (by omega) (by omega) hd A B
      · exact znx H qa la ao ar ac al qb lb bo br bc bl qc lc co cr cc cl haI hbI hcI s1 s2 s3 hw1 hw2 hw3 A B h0 hgr h1 h2 h3 1 (by decide) (zm0 (H ++ [fl lc, fl lb, fl lc]) s1 s2 s3 h1 h2 h3 (.slm (H.length + 2) lc.length 0 lc.length 1) lc.length rfl (by simp [mx]) ao ar ac al haI' (.slm (H.length + 1) lb.length 0 lb.length 1) lb.length rfl (by simp [mx]) bo br bc bl hbI' (.slm (H.length + 2) lc.length 0 lc.length 1) lc.length rfl (by simp [mx]) co cr cc cl hcI hg A B) (fun H => zln H qc lc ao ar ac al haI' qb lb bo br bc bl hbI' qc lc co cr cc cl hcI 1 (by omega) (by omega) hg)
    · obtain ⟨wa, hwa⟩ : ∃ wa : Int, ∀ H, zab Try.prog 12 [mt (aD qc lc) ao ar ac al, mt (aD qb lb) bo br bc bl, mt (aD qc lc) co cr cc cl, .int .i64 1] H (.int .i64 wa) H := zin qc lc ao ar ac al haI' qb lb bo br bc bl hbI' qc lc co cr cc cl hcI 1 (by omega) (by omega)
      exact zv1 H qa la ao ar ac al qb lb bo br bc bl qc lc co cr cc cl haI hbI hcI s1 s2 s3 hw1 hw2 hw3 A B h0 hgr hr wa (zm2 (H ++ [fl lc, fl lb, fl lc]) s1 s2 s3 hr (.slm (H.length + 2) lc.length 0 lc.length 1) (.slm (H.length + 1) lb.length 0 lb.length 1) (.slm (H.length + 2) lc.length 0 lc.length 1) ao ar ac al bo br bc bl co cr cc cl A B) hwa
  by_cases hv2 : one = 2 ∧ 0 < lc.length
  · obtain ⟨rfl, h0⟩ := hv2
    have haI' : MI la.length ao ar ac al := ⟨haI.1, haI.2, haI.3, haI.4, haI.5, haI.6, haI.7, haI.8, haI.9⟩
    have hbI' : MI lc.length bo br bc bl := ⟨hcI.1, hbI.2, hbI.3, hbI.4, hbI.5, hbI.6, hbI.7, hbI.8, hbI.9⟩
    by_cases hr : 1 ≤ s1 ∧ 1 ≤ s2 ∧ 1 ≤ s3
    · obtain ⟨h1, h2, h3⟩ := hr
      by_cases hg : zaa la.length ao ar ac al ∧ zaa lc.length bo br bc bl ∧ zaa lc.length co cr cc cl
      · obtain ⟨hga, hgb, hgc⟩ := id hg
        by_cases hs : ac = br ∧ cr = ar ∧ cc = bc
        · obtain ⟨e1, e2, e3⟩ := hs
          subst e1 e2 e3
          obtain ⟨w, rfl⟩ : ∃ w : Nat, ac = (w : Int) := ⟨ac.toNat, by have := hga.2.1; omega⟩
          obtain ⟨r, rfl⟩ : ∃ r : Nat, cr = (r : Int) := ⟨cr.toNat, by have := hgc.1; omega⟩
          obtain ⟨c, rfl⟩ : ∃ c : Nat, cc = (c : Int) := ⟨cc.toNat, by have := hgc.2.1; omega⟩
          have hm1 := haI'.1
          by_cases hsp : zcf (msF co (r : Int) (c : Int)) (msT co (r : Int) (c : Int) cl) (msF bo (w : Int) (c : Int)) (msT bo (w : Int) (c : Int) bl)
          · exact zny H qa la ao r w al qb lb bo w c bl qc lc co r c cl haI hbI hcI s1 s2 s3 hw1 hw2 hw3 A B h0 hgr h1 h2 h3 2 (by decide) (zsn (H ++ [fl la, fl lc, fl lc]) s1 s2 s3 h1 h2 h3 (H.length + 0) la (zau rfl rfl) ao al r w haI' hga (H.length + 2) lc (zau rfl rfl) bo bl w c hbI' hgb (H.length + 2) lc (zau rfl rfl) co cl r c hcI hgc (by omega) (by omega) (by omega) rfl rfl rfl (fun N => zru _ (.slm (H.length + 2) lc.length 0 lc.length 1) lc.length co r c cl rfl hcI (.slm (H.length + 0) la.length 0 la.length 1) la.length ao r w al rfl haI' (fun _ _ => zjq (zdj (zau (j := 2) rfl rfl)) rfl (zdj (zau (j := 0) rfl rfl)) rfl (by omega))) (fun N => by have h := zrv ((H ++ [fl la, fl lc, fl lc]) ++ N) (.slm (H.length + 2) lc.length 0 lc.length 1) lc.length co r c cl rfl hcI (.slm (H.length + 2) lc.length 0 lc.length 1) lc.length bo w c bl rfl hbI' (fun _ _ => zim (zdj (zau (j := 2) rfl rfl)) rfl); rwa [decide_eq_true (zlb hgc hgb hsp)] at h) A B) (fun H => zop H qa la ao r w al haI' qc lc bo w c bl hbI' qc lc co r c cl hcI 2 (by omega) (by omega) ⟨hga, hgb, hgc⟩ ⟨rfl, rfl, rfl⟩ rfl hsp)
          · skip
            have h := zi4 H s1 s2 s3 h1 h2 h3 hw1 hw2 hw3 [la, lc, lc] 0 2 2 la rfl ao al r w haI' hga lc rfl bo bl w c hbI' hgb lc rfl co cl r c hcI hgc (by omega) (by omega) (by omega) rfl rfl rfl _ _ _ _ _ _ (zc5 _ _ _ _) (zc5 _ _ _ _) (zc5 _ _ _ _) zja (zrh hgc hgb hsp) A B
            exact zvz H qa la ao al qb lb bo bl qc lc co cl r w c haI hbI hcI s1 s2 s3 hw1 hw2 hw3 A B h0 hgr h1 h2 h3 hga hgb hgc _ rfl h (fun H => zlm H qa la ao r w al haI' qc lc bo w c bl hbI' qc lc co r c cl hcI 2 (by omega) (by omega) ⟨hga, hgb, hgc⟩ ⟨rfl, rfl, rfl⟩ (fun h9 => absurd h9 (by decide)) (fun _ => hsp))
        · obtain ⟨w, rfl⟩ : ∃ w : Nat, ac = (w : Int) := ⟨ac.toNat, by have := hga.2.1; omega⟩
          obtain ⟨r', rfl⟩ : ∃ r : Nat, ar = (r : Int) := ⟨ar.toNat, by have := hga.1; omega⟩
          obtain ⟨w', rfl⟩ : ∃ w : Nat, br = (w : Int) := ⟨br.toNat, by have := hgb.1; omega⟩
          obtain ⟨c', rfl⟩ : ∃ c : Nat, bc = (c : Int) := ⟨bc.toNat, by have := hgb.2.1; omega⟩
          obtain ⟨r, rfl⟩ : ∃ r : Nat, cr = (r : Int) := ⟨cr.toNat, by have := hgc.1; omega⟩
          obtain ⟨c, rfl⟩ : ∃ c : Nat, cc = (c : Int) := ⟨cc.toNat, by have := hgc.2.1; omega⟩
          refine zny H qa la ao r' w al qb lb bo w' c' bl qc lc co r c cl haI hbI hcI s1 s2 s3 hw1 hw2 hw3 A B h0 hgr h1 h2 h3 3 (by decide) ?_ (fun H => zlo H qa la ao r' w al haI' qc lc bo w' c' bl hbI' qc lc co r c cl hcI 2 (by omega) (by omega) hg hs)
          by_cases hd : r = r' ∧ c = c'
          · exact zj8 (H ++ [fl la, fl lc, fl lc]) s1 s2 s3 h1 h2 h3 (H.length + 0) la (zau rfl rfl) ao al r' w haI' hga (H.length + 2) lc (zau rfl rfl) bo bl w' c' hbI' hgb (H.length + 2) lc (zau rfl rfl) co cl r c hcI hgc (by omega) (by omega) (by omega) hd.1 hd.2 (fun h9 => hs ⟨by omega, by omega, by omega⟩) A B
          · exact zj7 (H ++ [fl la, fl lc, fl lc]) s1 s2 s3 h1 h2 h3 (.slm (H.length + 0) la.length 0 la.length 1) la (FL.blk (j := 0) rfl rfl rfl rfl) ao al r' w haI' hga (.slm (H.length + 2) lc.length 0 lc.length 1) lc (FL.blk (j := 2) rfl rfl rfl rfl) bo bl w' c' hbI' hgb (.slm (H.length + 2) lc.length 0 lc.length 1) lc (FL.blk (j := 2) rfl rfl rfl rfl) co cl r c hcI hgc (by omega) (by omega) (by omega) hd A B
      · exact zny H qa la ao ar ac al qb lb bo br bc bl qc lc co cr cc cl haI hbI hcI s1 s2 s3 hw1 hw2 hw3 A B h0 hgr h1 h2 h3 1 (by decide) (zm0 (H ++ [fl la, fl lc, fl lc]) s1 s2 s3 h1 h2 h3 (.slm (H.length + 0) la.length 0 la.length 1) la.length rfl (by simp [mx]) ao ar ac al haI' (.slm (H.length + 2) lc.length 0 lc.length 1) lc.length rfl (by simp [mx]) bo br bc bl hbI' (.slm (H.length + 2) lc.length 0 lc.length 1) lc.length rfl (by simp [mx]) co cr cc cl hcI hg A B) (fun H => zln H qa la ao ar ac al haI' qc lc bo br bc bl hbI' qc lc co cr cc cl hcI 2 (by omega) (by omega) hg)
    · obtain ⟨wa, hwa⟩ : ∃ wa : Int, ∀ H, zab Try.prog 12 [mt (aD qa la) ao ar ac al, mt (aD qc lc) bo br bc bl, mt (aD qc lc) co cr cc cl, .int .i64 2] H (.int .i64 wa) H := zin qa la ao ar ac al haI' qc lc bo br bc bl hbI' qc lc co cr cc cl hcI 2 (by omega) (by omega)
      exact zv2 H qa la ao ar ac al qb lb bo br bc bl qc lc co cr cc cl haI hbI hcI s1 s2 s3 hw1 hw2 hw3 A B h0 hgr hr wa (zm2 (H ++ [fl la, fl lc, fl lc]) s1 s2 s3 hr (.slm (H.length + 0) la.length 0 la.length 1) (.slm (H.length + 2) lc.length 0 lc.length 1) (.slm (H.length + 2) lc.length 0 lc.length 1) ao ar ac al bo br bc bl co cr cc cl A B) hwa
  · have hv1 : one = 1 → lc.length = 0 := fun h => Nat.eq_zero_of_not_pos fun h0 => hv1 ⟨h, h0⟩
    have hv2 : one = 2 → lc.length = 0 := fun h => Nat.eq_zero_of_not_pos fun h0 => hv2 ⟨h, h0⟩
    have haI' : MI la.length ao ar ac al := ⟨haI.1, haI.2, haI.3, haI.4, haI.5, haI.6, haI.7, haI.8, haI.9⟩
    have hbI' : MI lb.length bo br bc bl := ⟨hbI.1, hbI.2, hbI.3, hbI.4, hbI.5, hbI.6, hbI.7, hbI.8, hbI.9⟩
    by_cases hr : 1 ≤ s1 ∧ 1 ≤ s2 ∧ 1 ≤ s3
    · obtain ⟨h1, h2, h3⟩ := hr
      by_cases hg : zaa la.length ao ar ac al ∧ zaa lb.length bo br bc bl ∧ zaa lc.length co cr cc cl
      · obtain ⟨hga, hgb, hgc⟩ := id hg
        by_cases hs : ac = br ∧ cr = ar ∧ cc = bc
        · obtain ⟨e1, e2, e3⟩ := hs
          subst e1 e2 e3
          obtain ⟨w, rfl⟩ : ∃ w : Nat, ac = (w : Int) := ⟨ac.toNat, by have := hga.2.1; omega⟩
          obtain ⟨r, rfl⟩ : ∃ r : Nat, cr = (r : Int) := ⟨cr.toNat, by have := hgc.1; omega⟩
          obtain ⟨c, rfl⟩ : ∃ c : Nat, cc = (c : Int) := ⟨cc.toNat, by have := hgc.2.1; omega⟩
          have hm1 := haI'.1
          have h := zi4 H s1 s2 s3 h1 h2 h3 hw1 hw2 hw3 [la, lb, lc] 0 1 2 la rfl ao al r w haI' hga lb rfl bo bl w c hbI' hgb lc rfl co cl r c hcI hgc (by omega) (by omega) (by omega) rfl rfl rfl _ _ _ _ _ _ (zc5 _ _ _ _) (zc5 _ _ _ _) (zc5 _ _ _ _) zja zja A B
          exact zvx H qa la ao al qb lb bo bl qc lc co cl r w c haI hbI hcI s1 s2 s3 hw1 hw2 hw3 A B one ho1 ho2 hv1 hv2 hgr h1 h2 h3 hga hgb hgc _ rfl h (fun H => zlm H qa la ao r w al haI' qb lb bo w c bl hbI' qc lc co r c cl hcI one ho1 ho2 ⟨hga, hgb, hgc⟩ ⟨rfl, rfl, rfl⟩ (fun h9 hsp => zo9 hgc (hv1 h9) hsp) (fun h9 hsp => zo9 hgc (hv2 h9) hsp))
        · obtain ⟨w, rfl⟩ : ∃ w : Nat, ac = (w : Int) := ⟨ac.toNat, by have := hga.2.1; omega⟩
          obtain ⟨r', rfl⟩ : ∃ r : Nat, ar = (r : Int) := ⟨ar.toNat, by have := hga.1; omega⟩
          obtain ⟨w', rfl⟩ : ∃ w : Nat, br = (w : Int) := ⟨br.toNat, by have := hgb.1; omega⟩
          obtain ⟨c', rfl⟩ : ∃ c : Nat, bc = (c : Int) := ⟨bc.toNat, by have := hgb.2.1; omega⟩
          obtain ⟨r, rfl⟩ : ∃ r : Nat, cr = (r : Int) := ⟨cr.toNat, by have := hgc.1; omega⟩
          obtain ⟨c, rfl⟩ : ∃ c : Nat, cc = (c : Int) := ⟨cc.toNat, by have := hgc.2.1; omega⟩
          refine zro H qa la ao r' w al qb lb bo w' c' bl qc lc co r c cl haI hbI hcI s1 s2 s3 hw1 hw2 hw3 A B one ho1 ho2 hv1 hv2 hgr h1 h2 h3 3 (by decide) ?_ (fun H => zlo H qa la ao r' w al haI' qb lb bo w' c' bl hbI' qc lc co r c cl hcI one ho1 ho2 hg hs)
          by_cases hd : r = r' ∧ c = c'
          · exact zj8 (H ++ [fl la, fl lb, fl lc]) s1 s2 s3 h1 h2 h3 (H.length + 0) la (zau rfl rfl) ao al r' w haI' hga (H.length + 1) lb (zau rfl rfl) bo bl w' c' hbI' hgb (H.length + 2) lc (zau rfl rfl) co cl r c hcI hgc (by omega) (by omega) (by omega) hd.1 hd.2 (fun h9 => hs ⟨by omega, by omega, by omega⟩) A B
          · exact zj7 (H ++ [fl la, fl lb, fl lc]) s1 s2 s3 h1 h2 h3 (.slm (H.length + 0) la.length 0 la.length 1) la (FL.blk (j := 0) rfl rfl rfl rfl) ao al r' w haI' hga (.slm (H.length + 1) lb.length 0 lb.length 1) lb (FL.blk (j := 1) rfl rfl rfl rfl) bo bl w' c' hbI' hgb (.slm (H.length + 2) lc.length 0 lc.length 1) lc (FL.blk (j := 2) rfl rfl rfl rfl) co cl r c hcI hgc (by omega) (by omega) (by omega) hd A B
      · exact zro H qa la ao ar ac al qb lb bo br bc bl qc lc co cr cc cl haI hbI hcI s1 s2 s3 hw1 hw2 hw3 A B one ho1 ho2 hv1 hv2 hgr h1 h2 h3 1 (by decide) (zm0 (H ++ [fl la, fl lb, fl lc]) s1 s2 s3 h1 h2 h3 (.slm (H.length + 0) la.length 0 la.length 1) la.length rfl (by simp [mx]) ao ar ac al haI' (.slm (H.length + 1) lb.length 0 lb.length 1) lb.length rfl (by simp [mx]) bo br bc bl hbI' (.slm (H.length + 2) lc.length 0 lc.length 1) lc.length rfl (by simp [mx]) co cr cc cl hcI hg A B) (fun H => zln H qa la ao ar ac al haI' qb lb bo br bc bl hbI' qc lc co cr cc cl hcI one ho1 ho2 hg)
    · obtain ⟨wa, hwa⟩ : ∃ wa : Int, ∀ H, zab Try.prog 12 [mt (aD qa la) ao ar ac al, mt (aD qb lb) bo br bc bl, mt (aD qc lc) co cr cc cl, .int .i64 one] H (.int .i64 wa) H := zin qa la ao ar ac al haI' qb lb bo br bc bl hbI' qc lc co cr cc cl hcI one ho1 ho2
      exact zv0 H qa la ao ar ac al qb lb bo br bc bl qc lc co cr cc cl haI hbI hcI s1 s2 s3 hw1 hw2 hw3 A B one ho1 ho2 hv1 hv2 hgr hr wa (zm2 (H ++ [fl la, fl lb, fl lc]) s1 s2 s3 hr (.slm (H.length + 0) la.length 0 la.length 1) (.slm (H.length + 1) lb.length 0 lb.length 1) (.slm (H.length + 2) lc.length 0 lc.length 1) ao ar ac al bo br bc bl co cr cc cl A B) hwa
end Go.Sx
