/- A part of the proofs of this seat: YH. No condition is set. -/
import Derived.Ground.Names2Prog
import Derived.Shelf.Slices.CompactI
import Derived.Shelf.Sort.Plain
import Derived.Sort.Grow
import Derived.Sort.Row
import Derived.Test.YtdlgclpoomlijaaProg
import Derived.Test.YtdlgclpoomlijaaYE
import Derived.Test.YtdlgclpoomlijaaYF
import Derived.Test.YtdlgclpoomlijaaYG
set_option maxHeartbeats 8000000
set_option linter.unusedVariables false
set_option linter.unusedSimpArgs false
set_option maxRecDepth 20000
namespace Go.Sx
open Go.Proofs
attribute [local irreducible] Ex zau exD opX opE zdh zfd zfl Spec zaa Fr zdg zbf zbe ckK zcq zda zbo faK zcz ze4 gK fK rK zgd lpX prK
theorem z1x (H : List (List AV)) (D : AV) (l : List Nat) (hF : FL H D l) (off n inc : Int) (hI : VI l.length off n inc) :
    zaa Try.prog 97 [vt D off n inc] H (mt D off 1 n inc) H := by
  refine .go Try.call97 Try.func97 false [] dOk ?_
  simp only [zbp, Nat.reduceAdd]
  repeat' (first
 |(refine za4 ?_; (first | refine zcm ?_ | refine zay ?_ | fail))
 |(refine za5 ?_; (first | (refine m17 ?_; first | refine m19 ?_ | refine m18 ?_) | (refine m07 ?_; (first | refine m15 ?_ | refine m16 ?_ | fail)) | refine m25 ?_ | refine m01 ?_ | refine m24 ?_ | refine zco ?_ | fail))
 |refine za2 ?_ | refine za3 ?_ | refine za1 ?_
 |(refine za6 ?_; (first | refine za0 ?_ | refine zab ?_ | (refine m06 ?_; (first | refine c_T ?_ | refine c_F ?_ | refine c_P ?_ ?_ | refine c_B ?_ ?_ | fail)) | refine zaz ?_ | refine zaq ?_ | refine zai ?_ | refine b_exit ?_ | fail))
 |refine m58 ?_
 |refine zdu ?_
 |refine m05 ?_
 |refine m04 ?_ | refine m02 ?_ | refine m03 ?_ | refine zar ?_
 |intro _)
  all_goals first
    | (refine zan rfl (by have := hF.mx; simp [mx, mxL, zaf, aOf, zb1]; omega) ?_; exact rfl)
theorem zvy (H N : List (List AV)) (D : AV) (m : Nat) (off n inc : Int) (hI : VI m off n inc) (h : ∃ l', FL H D l' ∧ l'.length = m) : zaa Try.prog 97 [vt D off n inc] (H ++ N) (mt D off 1 n inc) (H ++ N) := by
  obtain ⟨l', h1, h2⟩ := h
  subst h2; exact z1x _ D l' (h1.app N) off n inc hI
theorem zc7 {m : Nat} {off inc : Int} {n k : Nat} (hR : zal m off n inc) (hk : k < n) : off + (k : Int) * inc = ((pos off inc 0 k : Nat) : Int) := by
  have h1 := zbv hR (i := (k : Int)) (by omega) (by omega)
  unfold pos; omega
theorem zei {m : Nat} {off inc : Int} {n k : Nat} (hR : zal m off n inc) (hk : k < n) : pos off inc 0 k < m := by
  have h1 := zbv hR (i := (k : Int)) (by omega) (by omega)
  unfold pos; omega
theorem zwy (H : List (List AV)) (D : AV) (m : Nat) (hD : slen D = some m) (hm : mx D ≤ H.length) (xo xi : Int) (n : Nat) (hxI : VI m xo n xi) (hxR : zal m xo n xi) (i : Nat) (hi : i < n) :
    zaa Try.prog 98 [vt D xo (n : Int) xi, .int .i64 (i : Int)] H (.eptr D (pos xo xi 0 i)) H := by
  obtain ⟨vn, vo1, vo2, vn1, vn2, vi1, vi2⟩ := id hxI
  refine .go Try.call98 Try.func98 false [] dOk ?_
  simp only [zbp, Nat.reduceAdd]
  repeat' (first
 |(refine za4 ?_; (first | refine zcm ?_ | refine zay ?_ | fail))
 |(refine za5 ?_; (first | refine m14 ?_ | (refine m17 ?_; first | refine m19 ?_ | refine m18 ?_) | (refine m07 ?_; (first | refine m15 ?_ | refine m16 ?_ | fail)) | refine zi7 (m := pos xo xi 0 i) (by (conv => {lhs; whnf}); done) (by (conv => {lhs; whnf}); done) (by exact hD) (by exact zc7 hxR hi) (by exact zei hxR hi) ?_ | (refine m00 ?_; (first | refine v_w (by first | omega | (have h1 := zbv hxR (i := (i : Int)) (by omega) (by omega); omega) | fail) ?_ | refine m49 ?_ | refine m50 ?_ | refine v_k ?_ | refine m51 ?_ | fail)) | refine m42 ?_ | refine zad ?_ | refine zae ?_ | refine m08 ?_ | refine m01 ?_ | fail))
 |refine za2 ?_ | refine za3 ?_ | refine za1 ?_
 |(refine za6 ?_; (first | refine za0 ?_ | refine zab ?_ | (refine m06 ?_; (first | refine c_T ?_ | refine c_F ?_ | refine c_P ?_ ?_ | refine c_B ?_ ?_ | fail)) | refine zaz ?_ | refine zaq ?_ | refine zai ?_ | refine b_exit ?_ | fail))
 |refine m05 ?_
 |refine m04 ?_ | refine m02 ?_ | refine m03 ?_ | refine zar ?_
 |intro _)
  all_goals first
    | (refine zan rfl (by simp [mx, mxL, zaf, aOf, zb1]; omega) ?_; exact rfl)
theorem zz2 (H : List (List AV)) (b : Nat) (l : List Nat) (hbl : b < H.length) (yo yi : Int) (n : Nat) (hyI : VI l.length yo n yi) (hyR : zal l.length yo n yi) (f : Nat → Nat) (N : List (List AV)) (i : Nat) (hi : i < n) : zaa Try.prog 98 [vt (.slm b l.length 0 l.length 1) yo (n : Int) yi, .int .i64 (i : Int)] (H.set b (fl (zaw l yo yi n f)) ++ N) (.eptr (.slm b l.length 0 l.length 1) (pos yo yi 0 i)) (H.set b (fl (zaw l yo yi n f)) ++ N) :=
  zwy _ _ _ rfl (by simp [mx]; omega) yo yi n hyI hyR i hi
theorem z0k {P : Program} {e : List (Nat × EV)} {L : List (Nat × List AV)} {H N : List (List AV)} {K : St → Prop} {dd : Nat} {t : TypeId} {b : Nat} {l : List Nat} {yo yi : Int} {n : Nat} {f : Nat → Nat} {i : Nat} [ti : TyI P t 1 false] (hb : b < H.length) (hyR : zal l.length yo n yi) (hi : i < n) (h : K ⟨(dd, .val (.flt (f i))) :: e, L, H.set b (fl (zaw l yo yi n f)) ++ N⟩) :
    zbo P t dd K ⟨e, L, H.set b (fl (zaw l yo yi n f)) ++ N⟩ (.val (.eptr (.slm b l.length 0 l.length 1) (pos yo yi 0 i))) :=
  z18 hb (by simp) (by rw [Nat.zero_add]; simp; exact zeh hyR hi) (by rw [Nat.zero_add, znn hyR hi]; exact h)
theorem zz4 (H : List (List AV)) (b : Nat) (l : List Nat) (hbl : b < H.length) (yo yi : Int) (n : Nat) (hyI : VI l.length yo n yi) (hyR : zal l.length yo n yi) (B : Nat) (f : Nat → Nat) :
    zaa Try.prog 77 [.flt B, vt (.slm b l.length 0 l.length 1) yo (n : Int) yi] (H.set b (fl (zaw l yo yi n f))) (.tup []) (H.set b (fl (zaw l yo yi n (fun i => gmB B (f i))))) := by
  obtain ⟨vn, vo1, vo2, vn1, vn2, vi1, vi2⟩ := id hyI
  have hA : (zaw l yo yi n (gbP B f 0)) = (zaw l yo yi n f) := zbh hyR.2.2.1 hyR.2.1 fun i hi => zp5 i
  have hZ : (zaw l yo yi n (gbP B f n)) = (zaw l yo yi n (fun i => gmB B (f i))) := zbh hyR.2.2.1 hyR.2.1 fun i hi => zti i hi
  have hs : ∀ k, k < n → (zaw l yo yi n (gbP B f k)).set (0 + pos yo yi 0 k) (gmB B (f k)) = (zaw l yo yi n (gbP B f (k + 1))) := fun k hk => (by rw [Nat.zero_add, zg8 hyR hk]; exact zbh hyR.2.2.1 hyR.2.1 fun i hi => ztj i)
  have hc0 : cn 0 = 0 := by decide
  rw [← hA, ← hZ]
  refine .go Try.call77 Try.func77 false [] dOk ?_
  simp only [zbp, Nat.reduceAdd]
  repeat' (first
 |(refine za4 ?_; (first | refine zcm ?_ | refine zay ?_ | fail))
 |(refine za5 ?_; (first | refine m41 ?_ | refine zbj ?_ | refine m14 ?_ | (refine m17 ?_; first | refine m19 ?_ | refine m18 ?_) | (refine m07 ?_; (first | refine m15 ?_ | refine m16 ?_ | refine z0k hbl hyR (show k < n by omega) ?_ | fail)) | refine zek (by (conv => {lhs; whnf}); done) ?_ | refine zkh (X' := (zaw l yo yi n (gbP B f (k + 1)))) (f := cn 0) (by (conv => {lhs; whnf}); done) (by exact rfl) hbl (by simp) (by simp; exact zeh hyR (by omega)) (by rw [← hs k (by omega), z3m (by simp_all), hc0]) ?_ | refine zkh (X' := (zaw l yo yi n (gbP B f (k + 1)))) (by (conv => {lhs; whnf}); done) (by (conv => {lhs; whnf}); done) hbl (by simp) (by simp; exact zeh hyR (by omega)) (by rw [← hs k (by omega), z3l (by simp_all), zz3]) ?_ | (refine m45 ?_; (first | refine zbk ((k + 1 : Nat) : Int) (by omega) (by omega) ?_ | refine zeg (by exact rfl) ?_ | refine v_k ?_ | fail)) | (refine m00 ?_; (first | refine zbk ((k + 1 : Nat) : Int) (by omega) (by omega) ?_ | refine m52 ?_ | refine m53 ?_ | refine zgv ?_ | refine m47 ?_ | refine m48 ?_ | refine m49 ?_ | refine m50 ?_ | refine v_k ?_ | refine m51 ?_ | fail)) | refine m08 ?_ | refine zao ?_ | refine m25 ?_ | refine m01 ?_ | fail))
 |refine za2 ?_ | refine za3 ?_ | refine za1 ?_
 |(refine za6 ?_; (first | refine za0 ?_ | refine zab ?_ | (refine m06 ?_; (first | refine c_T ?_ | refine c_F ?_ | refine c_P ?_ ?_ | refine c_B ?_ ?_ | fail)) | refine zaz ?_ | refine zaq ?_ | refine zai ?_ | refine b_exit ?_ | (refine zbc [0, 3, 7, 8] n (fun k => ⟨[(0, .val (.flt B)), (3, .loc 3 0), (7, .val (.int .i64 ((n : Nat) : Int))), (8, .val (.int .i64 ((k : Nat) : Int)))], [(3, [(.slm b l.length 0 l.length 1), .int .i64 yo, .int .i64 (n : Int), .int .i64 yi])], H.set b (fl (zaw l yo yi n (gbP B f k))) ++ []⟩) (by exact rfl) ?_ ?_ <;> (first | intro k hk K hK | intro K) <;> (try dsimp only at *)) | fail))
 |refine m21 ?_
 |refine zbb ?_
 |(refine zbd ?_; (first | refine cA (zz2 H b l hbl yo yi n hyI hyR _ [] k (by omega)) ?_ | fail))
 |refine zbz ?_ | refine zb0 ?_ | refine zby ?_ | refine m57 ?_
 |refine zfn ?_ | refine zfo ?_ | refine zfm ?_
 |(refine zfp (by exact rfl) ?_; first | exact hK | fail | (exfalso; first | omega | (simp_all; done) | (simp_all; omega)))
 |refine m05 ?_
 |refine m04 ?_ | refine m02 ?_ | refine m03 ?_ | refine zar ?_
 |intro _)
  all_goals first
    | (exfalso; contradiction)
    | (exfalso; omega)
    | (refine zan (by simp) (by simp [mx, mxL, zaf, aOf, zb1]) ?_; exact rfl)
theorem z3j (H : List (List AV)) (ba A : Nat) (hba : H[ba]? = some [.flt A]) (v x : Nat) :
    zaa Try.prog 79 [.flt v, .flt x, .eptr (.slm ba 1 0 1 1) 0] H (.flt (zd8 (zd8 A x) v)) H := by
  refine .go Try.call79 Try.func79 false [] dOk ?_
  simp only [zbp, Nat.reduceAdd]
  repeat' (first
 |(refine za4 ?_; (first | refine zcm ?_ | refine zay ?_ | fail))
 |(refine za5 ?_; (first | refine m14 ?_ | (refine m07 ?_; (first | refine m15 ?_ | refine m16 ?_ | refine zsg hba (by exact rfl) (by exact rfl) ?_ | fail)) | (refine m00 ?_; (first | refine m49 ?_ | refine m50 ?_ | refine v_k ?_ | refine m51 ?_ | fail)) | refine m42 ?_ | refine zad ?_ | refine zae ?_ | refine m08 ?_ | fail))
 |refine za2 ?_ | refine za3 ?_ | refine za1 ?_
 |(refine za6 ?_; (first | refine za0 ?_ | refine zab ?_ | (refine m06 ?_; (first | refine c_T ?_ | refine c_F ?_ | refine c_P ?_ ?_ | refine c_B ?_ ?_ | fail)) | refine zaz ?_ | refine zaq ?_ | refine zai ?_ | refine b_exit ?_ | fail))
 |refine m05 ?_
 |refine m04 ?_ | refine m02 ?_ | refine m03 ?_ | refine zar ?_
 |intro _)
  all_goals first | refine zan rfl (by simp [mx, mxL, aOf, zb1, zaf]) ?_ | (trace_state; fail)
  all_goals exact rfl
theorem zgk (H N : List (List AV)) (D : AV) (m : Nat) (off ld : Int) (r c : Nat) (hI : MI m off r c ld) (hG : zac m off r c ld) (h : ∃ l', FL H D l' ∧ l'.length = m) (j : Nat) (hj : j < c) :
    zaa Try.prog 57 [mt D off (r : Int) (c : Int) ld, .int .i64 (j : Int)] (H ++ N) (vt D (zcj off (r : Int) ld (j : Int)) (r : Int) 1) (H ++ N) := by
  obtain ⟨l', h1, h2⟩ := h
  subst h2; exact zpo _ D l' (h1.app N) off r c ld hI hG j (by omega) (by omega)
theorem zkl {m : Nat} {off ld : Int} {r c j : Nat} (hI : MI m off r c ld) (hG : zac m off r c ld) (hj : j < c) : VI m (zcj off (r : Int) ld (j : Int)) r 1 := by
  obtain ⟨hm, ho1, ho2, hr1, hr2, hc1, hc2, hl1, hl2⟩ := id hI
  have h := zc4 hG (j := (j : Int)) (by omega) (by omega)
  unfold zcj at h ⊢
  by_cases hr : 0 < r
  · rw [if_pos (by omega)] at h ⊢
    have h1 := zbv h (i := 0) (by omega) (by omega)
    exact ⟨hm, by omega, by omega, by omega, by omega, by omega, by omega⟩
  · rw [if_neg (by omega)] at h ⊢
    exact ⟨hm, by omega, by omega, by omega, by omega, by omega, by omega⟩
theorem zwz (H : List (List AV)) (b : Nat) (l : List Nat) (hbl : b < H.length) (yo yi : Int) (n : Nat) (hyI : VI l.length yo n yi) (hyR : zal l.length yo n yi) (D : AV) (hD : mx D ≤ H.length) (ml : Nat) (mo ld : Int) (w : Nat) (hI : MI ml mo n w ld) (hG : zac ml mo n w ld) (a : Nat → Nat → Nat) (hrd : ∀ f, ∃ l', FL (H.set b (fl (zaw l yo yi n f))) D l' ∧ l'.length = ml ∧ ∀ i j, i < n → j < w → mel l' mo ld i j = a i j) (X : AV) (hX : mx X ≤ H.length) (xl : Nat) (xo xi : Int) (hxI : VI xl xo w xi) (hxR : zal xl xo w xi) (xv : Nat → Nat) (hrx : ∀ f, ∃ l', FL (H.set b (fl (zaw l yo yi n f))) X l' ∧ l'.length = xl ∧ ∀ j, j < w → vf l' xo xi j = xv j) (hn0 : 0 < n) (A fid : Nat) (caps : List AV) (hcl : ∀ v x f N, zaa Try.prog fid ([.flt v, .flt x] ++ caps) (H.set b (fl (zaw l yo yi n f)) ++ N) (.flt (zd8 (zd8 A x) v)) (H.set b (fl (zaw l yo yi n f)) ++ N)) (f : Nat → Nat) :
    zaa Try.prog 78 [mt D mo (n : Int) (w : Int) ld, vt X xo (w : Int) xi, vt (.slm b l.length 0 l.length 1) yo (n : Int) yi, .func fid [] caps] (H.set b (fl (zaw l yo yi n f))) (.tup []) (H.set b (fl (zaw l yo yi n (gmC A a xv f w)))) := by
  obtain ⟨vn, vo1, vo2, vn1, vn2, vi1, vi2⟩ := id hyI
  obtain ⟨hm, ho1, ho2, hr1, hr2, hc1, hc2, hl1, hl2⟩ := id hI
  obtain ⟨wn, wo1, wo2, wn1, wn2, wi1, wi2⟩ := id hxI
  have hA : (zaw l yo yi n (gmC A a xv f 0)) = (zaw l yo yi n f) := zbh hyR.2.2.1 hyR.2.1 fun i hi => rfl
  have hB : ∀ k, (zaw l yo yi n (gmP A a xv f k 0)) = (zaw l yo yi n (gmC A a xv f k)) := fun k => zbh hyR.2.2.1 hyR.2.1 fun i hi => zqb i
  have hZ : ∀ k, (zaw l yo yi n (gmP A a xv f k n)) = (zaw l yo yi n (gmC A a xv f (k + 1))) := fun k => zbh hyR.2.2.1 hyR.2.1 fun i hi => zto i hi
  have hs : ∀ k t, t < n → (zaw l yo yi n (gmP A a xv f k t)).set (0 + pos yo yi 0 t) (zmy ((gmP A a xv f k t) t) (zd8 (zd8 A (xv k)) (a t k))) = (zaw l yo yi n (gmP A a xv f k (t + 1))) := fun k t ht => (by rw [Nat.zero_add, zg8 hyR ht]; exact zbh hyR.2.2.1 hyR.2.1 fun i hi => ztp i)
  have hDl : slen D = some ml := (by obtain ⟨l', h1, h2, _⟩ := hrd f; rw [← h2]; exact h1.len)
  have hXl : slen X = some xl := (by obtain ⟨l', h1, h2, _⟩ := hrx f; rw [← h2]; exact h1.len)
  have hcp : ∀ k t, k < w → t < n → pos (zcj mo (n : Int) ld (k : Int)) 1 0 t = pos mo ld t k := fun k t hk ht => (by unfold zcj; rw [if_pos (by omega)]; exact znj)
  rw [← hA]
  refine .go Try.call78 Try.func78 false [] dOk ?_
  simp only [zbp, Nat.reduceAdd]
  repeat' (first
 |(refine za4 ?_; (first | refine zcm ?_ | refine zay ?_ | fail))
 |(refine za5 ?_; (first | refine m41 ?_ | refine zbj ?_ | refine m14 ?_ | (refine m17 ?_; first | refine m19 ?_ | refine m18 ?_) | (refine m07 ?_; (first | refine m15 ?_ | refine m16 ?_ | refine z0k hbl hyR (show t < n by omega) ?_ | refine z3v (hrd _) hG (show t < n by omega) (show k < w by omega) (by exact hcp k t (by omega) (by omega)) ?_ | refine z0j (hrx _) hxR (show k < w by omega) (by exact rfl) ?_ | fail)) | refine zek (by (conv => {lhs; whnf}); done) ?_ | refine zkh (X' := (zaw l yo yi n (gmP A a xv f k (t + 1)))) (by (conv => {lhs; whnf}); done) (by (conv => {lhs; whnf}); done) hbl (by simp) (by simp; exact zeh hyR (by omega)) (by exact hs k t (by omega)) ?_ | (refine m00 ?_; (first | refine zbk ((k + 1 : Nat) : Int) (by omega) (by omega) ?_ | refine zbk ((t + 1 : Nat) : Int) (by omega) (by omega) ?_ | refine m47 ?_ | refine m48 ?_ | refine m49 ?_ | refine m50 ?_ | refine v_k ?_ | refine m51 ?_ | fail)) | refine m08 ?_ | refine zao ?_ | refine m39 ?_ | refine m25 ?_ | refine m01 ?_ | refine m24 ?_ | fail))
 |(refine zcv ?_; (first | refine m36 ?_ | refine zct ?_ | fail))
 |(refine zcu ?_; (first | refine zfe ?_ | refine zh6 ?_ | refine zh7 (by (conv => {lhs; whnf}); done) ?_ | refine zh8 ?_ | refine zh5 (by exact rfl) (by exact rfl) ?_ | refine m34 ?_ | refine m35 ?_ | refine m33 ?_ | refine zff ?_ | refine m56 ?_ | refine zcw ?_ | refine zdr (by exact rfl) ?_ | fail))
 |refine za2 ?_ | refine za3 ?_ | refine za1 ?_
 |(refine za6 ?_; (first | refine za0 ?_ | refine zab ?_ | (refine m06 ?_; (first | refine c_T ?_ | refine c_F ?_ | refine c_P ?_ ?_ | refine c_B ?_ ?_ | fail)) | refine zaz ?_ | refine zaq ?_ | refine zai ?_ | refine b_exit ?_ | refine zax (id := 8) [] [19] [(0, .ld true), (1, .lt), (5, .lt), (6, .ld true), (7, .lt), (11, .ld true), (12, .lt), (2, .mn true), (3, .lt), (4, .ld true), (8, .mn true), (9, .lt), (10, .ld true), (13, .mn true), (14, .lt), (15, .ld true), (16, .mn true), (17, .lt), (18, .lt), (19, .mn false)] (by kernel_rfl) ?_ | (refine zbc [3, 4, 5, 6, 8, 9, 12, 13, 20, 21] n (fun t => ⟨[(3, .val (.func fid [] caps)), (4, .loc 4 0), (5, .loc 5 0), (6, .loc 6 0), (8, .val (.int .i64 ((k : Nat) : Int))), (9, .loc 9 0), (12, .val (.int .i64 ((w : Nat) : Int))), (13, .val (.int .i64 ((k : Nat) : Int))), (20, .val (.int .i64 ((n : Nat) : Int))), (21, .val (.int .i64 ((t : Nat) : Int)))], [(4, [D, .int .i64 mo, .int .i64 (n : Int), .int .i64 (w : Int), .int .i64 ld]), (5, [X, .int .i64 xo, .int .i64 (w : Int), .int .i64 xi]), (6, [(.slm b l.length 0 l.length 1), .int .i64 yo, .int .i64 (n : Int), .int .i64 yi]), (9, [D, .int .i64 (zcj mo (n : Int) ld (k : Int)), .int .i64 (n : Int), .int .i64 1])], H.set b (fl (zaw l yo yi n (gmP A a xv f k t))) ++ []⟩) (by simp only [hB]; exact rfl) ?_ ?_ <;> (first | intro t ht K hK | intro K) <;> (try dsimp only at *)) | (refine zbc [3, 4, 5, 6, 12, 13] w (fun k => ⟨[(3, .val (.func fid [] caps)), (4, .loc 4 0), (5, .loc 5 0), (6, .loc 6 0), (12, .val (.int .i64 ((w : Nat) : Int))), (13, .val (.int .i64 ((k : Nat) : Int)))], [(4, [D, .int .i64 mo, .int .i64 (n : Int), .int .i64 (w : Int), .int .i64 ld]), (5, [X, .int .i64 xo, .int .i64 (w : Int), .int .i64 xi]), (6, [(.slm b l.length 0 l.length 1), .int .i64 yo, .int .i64 (n : Int), .int .i64 yi])], H.set b (fl (zaw l yo yi n (gmC A a xv f k))) ++ []⟩) (by exact rfl) ?_ ?_ <;> (first | intro k hk K hK | intro K) <;> (try dsimp only at *)) | fail))
 |refine m21 ?_
 |refine zbb ?_
 |(refine zbd ?_; (first | refine cA (zgk _ _ D ml mo ld n w hI hG ((hrd _).imp fun l' h => ⟨h.1, h.2.1⟩) k (by omega)) ?_ | refine cA (zz2 H b l hbl yo yi n hyI hyR _ [] t (by omega)) ?_ | refine cA (zwy _ D ml hDl (by simpa using hD) (zcj mo (n : Int) ld (k : Int)) 1 n (zkl hI hG (by omega)) (zc4 hG (by omega) (by omega)) t (by omega)) ?_ | refine cA (zwy _ X xl hXl (by simpa using hX) xo xi w hxI hxR k (by omega)) ?_ | refine cA (hcl _ _ _ _) ?_ | fail))
 |refine m44 ?_
 |refine m40 ?_
 |(refine zdq (by (conv => {lhs; simp only [List.nil_append, List.cons_append]}); done) ?_; first | refine ⟨by exact rfl, ?_⟩ | skip)
 |refine zd9 ?_
 |(intro N' hN'; simp only [List.nil_append, List.cons_append] at hN'; subst hN')
 |refine zbz ?_ | refine zb0 ?_ | refine zby ?_ | refine m57 ?_
 |refine zfn ?_ | refine zfo ?_ | refine zfm ?_
 |(refine zfp (by exact rfl) ?_; first | exact hK | (rw [hZ]; exact hK) | (exfalso; first | omega | (simp_all; done) | (simp_all; omega)))
 |refine m05 ?_
 |refine m04 ?_ | refine m02 ?_ | refine m03 ?_ | refine zar ?_
 |intro _)
  all_goals first
    | (exfalso; contradiction)
    | (exfalso; omega)
    | (refine zan (by simp) (by simp [mx, mxL, zaf, aOf, zb1]) ?_; exact rfl)
theorem zj1 (H N : List (List AV)) (D : AV) (m : Nat) (off n inc : Int) (hI : VI m off n inc) (hR : zal m off n inc) (h : ∃ l', FL H D l' ∧ l'.length = m) : zaa Try.prog 82 [vt D off n inc] (H ++ N) (.bool true) (H ++ N) := by
  obtain ⟨l', h1, h2⟩ := h
  subst h2; exact zx2 _ D l' (h1.app N) off n inc hI true (decide_eq_true hR)
theorem zgl (H N : List (List AV)) (D : AV) (m : Nat) (off rows cols ld : Int) (hI : MI m off rows cols ld) (hG : zac m off rows cols ld) (h : ∃ l', FL H D l' ∧ l'.length = m) : zaa Try.prog 30 [mt D off rows cols ld] (H ++ N) (.bool true) (H ++ N) := by
  obtain ⟨l', h1, h2⟩ := h
  subst h2
  have h := zd1 (H ++ N) D l'.length off rows cols ld (h1.app N).len hI
  rwa [decide_eq_true hG] at h
theorem z3a (H : List (List AV)) (b : Nat) (l : List Nat) (hbl : b < H.length) (yo yi : Int) (n : Nat) (hyI : VI l.length yo n yi) (hyR : zal l.length yo n yi) (f : Nat → Nat) : ∃ l', FL (H.set b (fl (zaw l yo yi n f))) (.slm b l.length 0 l.length 1) l' ∧ l'.length = l.length := ⟨zaw l yo yi n f, by have h := FL.set (N := []) (g := l.length) (q := l.length) (X := zaw l yo yi n f) hbl (by simp) (by simp); rw [List.append_nil] at h; exact h, by simp⟩
theorem zz6 (H : List (List AV)) (b : Nat) (l : List Nat) (hbl : b < H.length) (yo yi : Int) (n : Nat) (hyI : VI l.length yo n yi) (hyR : zal l.length yo n yi) (D : AV) (hD : mx D ≤ H.length) (ml : Nat) (mo ld : Int) (w : Nat) (hI : MI ml mo n w ld) (hG : zac ml mo n w ld) (a : Nat → Nat → Nat) (hrd : ∀ f, ∃ l', FL (H.set b (fl (zaw l yo yi n f))) D l' ∧ l'.length = ml ∧ ∀ i j, i < n → j < w → mel l' mo ld i j = a i j) (X : AV) (hX : mx X ≤ H.length) (xl : Nat) (xo xi : Int) (hxI : VI xl xo w xi) (hxR : zal xl xo w xi) (xv : Nat → Nat) (hrx : ∀ f, ∃ l', FL (H.set b (fl (zaw l yo yi n f))) X l' ∧ l'.length = xl ∧ ∀ j, j < w → vf l' xo xi j = xv j) (hm1 : ∀ f N, zaa Try.prog 34 [mt (.slm b l.length 0 l.length 1) yo 1 (n : Int) yi, mt D mo (n : Int) (w : Int) ld] (H.set b (fl (zaw l yo yi n f)) ++ N) (.bool false) (H.set b (fl (zaw l yo yi n f)) ++ N)) (hm2 : ∀ f N, zaa Try.prog 34 [mt (.slm b l.length 0 l.length 1) yo 1 (n : Int) yi, mt X xo 1 (w : Int) xi] (H.set b (fl (zaw l yo yi n f)) ++ N) (.bool false) (H.set b (fl (zaw l yo yi n f)) ++ N)) (f : Nat → Nat) :
    zaa Try.prog 76 [mt D mo (n : Int) (w : Int) ld, .int .i64 (n : Int), .int .i64 (w : Int), vt X xo (w : Int) xi, vt (.slm b l.length 0 l.length 1) yo (n : Int) yi] (H.set b (fl (zaw l yo yi n f))) (.int .i64 0) (H.set b (fl (zaw l yo yi n f))) := by
  obtain ⟨vn, vo1, vo2, vn1, vn2, vi1, vi2⟩ := id hyI
  obtain ⟨hm, ho1, ho2, hr1, hr2, hc1, hc2, hl1, hl2⟩ := id hI
  obtain ⟨wn, wo1, wo2, wn1, wn2, wi1, wi2⟩ := id hxI
  refine .go Try.call76 Try.func76 false [] dOk ?_
  simp only [zbp, Nat.reduceAdd]
  repeat' (first
 |(refine za4 ?_; (first | refine zcm ?_ | refine zay ?_ | refine m13 ?_ | refine m12 ?_ | refine m11 ?_ | (refine m10 ?_; (first | refine zci ?_ | refine zcd ?_ | refine zch ?_ | refine zce ?_ | refine zcg ?_ ?_ | refine zcf ?_ ?_ | refine zcc ?_ ?_ | refine zcb ?_ ?_ | fail)) | (refine m09 ?_; (first | refine zci ?_ | refine zcd ?_ | refine zch ?_ | refine zce ?_ | refine zcg ?_ ?_ | refine zcf ?_ ?_ | refine zcc ?_ ?_ | refine zcb ?_ ?_ | fail)) | refine m38 ?_ | fail))
 |(refine za5 ?_; (first | refine m14 ?_ | (refine m17 ?_; first | refine m19 ?_ | refine m18 ?_) | (refine m07 ?_; (first | refine m15 ?_ | refine m16 ?_ | fail)) | (refine m00 ?_; (first | refine m54 ?_ | refine m55 ?_ | refine zck ?_ | refine m49 ?_ | refine m50 ?_ | refine zdk ?_ | refine zdi ?_ | refine zdj ?_ | refine v_k ?_ | refine m51 ?_ | fail)) | (refine m22 ?_; (first | refine m26 ?_ | refine m27 ?_ | fail)) | refine m42 ?_ | refine zad ?_ | refine zae ?_ | refine m08 ?_ | (refine m20 ?_; (first | refine m54 ?_ | refine m55 ?_ | refine zck ?_ | refine m49 ?_ | refine m50 ?_ | refine zdk ?_ | refine zdi ?_ | refine zdj ?_ | refine v_k ?_ | refine m51 ?_ | fail)) | refine zao ?_ | refine m01 ?_ | fail))
 |(refine zcv ?_; (first | refine m36 ?_ | refine zct ?_ | refine m32 ?_ | refine m31 ?_ | refine m30 ?_ | (refine m28 ?_; (first | refine zca ?_ | refine zb5 ?_ | refine zb9 ?_ | refine zb6 ?_ | refine zb8 ?_ ?_ | refine zb7 ?_ ?_ | refine zb4 ?_ ?_ | refine zb3 ?_ ?_ | fail)) | (refine m29 ?_; (first | refine zca ?_ | refine zb5 ?_ | refine zb9 ?_ | refine zb6 ?_ | refine zb8 ?_ ?_ | refine zb7 ?_ ?_ | refine zb4 ?_ ?_ | refine zb3 ?_ ?_ | fail)) | refine m37 ?_ | fail))
 |(refine zcu ?_; (first | refine zfe ?_ | refine zh6 ?_ | refine zh7 (by (conv => {lhs; whnf}); done) ?_ | refine zh8 ?_ | refine zh5 (by exact rfl) (by exact rfl) ?_ | refine m34 ?_ | refine m35 ?_ | refine m33 ?_ | refine zff ?_ | refine m56 ?_ | refine zcw ?_ | refine zdr (by exact rfl) ?_ | fail))
 |refine za2 ?_ | refine za3 ?_ | refine za1 ?_
 |(refine za6 ?_; (first | refine za0 ?_ | refine zab ?_ | (refine m06 ?_; (first | refine c_T ?_ | refine c_F ?_ | refine c_P ?_ ?_ | refine c_B ?_ ?_ | fail)) | refine zaz ?_ | refine zaq ?_ | refine zai ?_ | refine b_exit ?_ | refine zax (id := 5) [] [] [(0, .ld true), (2, .ld true), (1, .mn true), (3, .mn true), (4, .lt), (5, .ld true), (7, .ld true), (6, .mn true), (8, .mn true), (9, .mn true), (10, .lt), (11, .lt)] (by kernel_rfl) ?_ | fail))
 |refine m21 ?_
 |refine zbb ?_
 |(refine zbd ?_; (first | refine cA (zgl _ _ D ml mo _ _ ld hI hG ((hrd _).imp fun l' h => ⟨h.1, h.2.1⟩)) ?_ | refine cA (zj1 _ _ X xl xo _ xi hxI hxR ((hrx _).imp fun l' h => ⟨h.1, h.2.1⟩)) ?_ | refine cA (zj1 _ _ (.slm b l.length 0 l.length 1) l.length yo _ yi hyI hyR (z3a H b l hbl yo yi n hyI hyR _)) ?_ | refine cA (zvy _ _ (.slm b l.length 0 l.length 1) l.length yo _ yi hyI (z3a H b l hbl yo yi n hyI hyR _)) ?_ | refine cA (zvy _ _ X xl xo _ xi hxI ((hrx _).imp fun l' h => ⟨h.1, h.2.1⟩)) ?_ | refine cA (hm1 _ _) ?_ | refine cA (hm2 _ _) ?_ | fail))
 |refine zbz ?_ | refine zb0 ?_ | refine zby ?_ | refine m57 ?_
 |refine m05 ?_
 |refine m04 ?_ | refine m02 ?_ | refine m03 ?_ | refine zar ?_
 |intro _)
  all_goals first
    | (exfalso; contradiction)
    | (exfalso; omega)
    | (refine zan (by simp) (by simp [mx, mxL, zaf, aOf, zb1]) ?_; exact rfl)
theorem zz7 (H : List (List AV)) (b : Nat) (l : List Nat) (hbl : b < H.length) (yo yi : Int) (n : Nat) (hyI : VI l.length yo n yi) (hyR : zal l.length yo n yi) (D : AV) (hD : mx D ≤ H.length) (ml : Nat) (mo ld : Int) (w : Nat) (hI : MI ml mo n w ld) (hG : zac ml mo n w ld) (a : Nat → Nat → Nat) (hrd : ∀ f, ∃ l', FL (H.set b (fl (zaw l yo yi n f))) D l' ∧ l'.length = ml ∧ ∀ i j, i < n → j < w → mel l' mo ld i j = a i j) (X : AV) (hX : mx X ≤ H.length) (xl : Nat) (xo xi : Int) (hxI : VI xl xo w xi) (hxR : zal xl xo w xi) (xv : Nat → Nat) (hrx : ∀ f, ∃ l', FL (H.set b (fl (zaw l yo yi n f))) X l' ∧ l'.length = xl ∧ ∀ j, j < w → vf l' xo xi j = xv j) (hm1 : ∀ f N, zaa Try.prog 34 [mt (.slm b l.length 0 l.length 1) yo 1 (n : Int) yi, mt D mo (n : Int) (w : Int) ld] (H.set b (fl (zaw l yo yi n f)) ++ N) (.bool false) (H.set b (fl (zaw l yo yi n f)) ++ N)) (hm2 : ∀ f N, zaa Try.prog 34 [mt (.slm b l.length 0 l.length 1) yo 1 (n : Int) yi, mt X xo 1 (w : Int) xi] (H.set b (fl (zaw l yo yi n f)) ++ N) (.bool false) (H.set b (fl (zaw l yo yi n f)) ++ N)) (f : Nat → Nat) (N : List (List AV)) : zaa Try.prog 76 [mt D mo (n : Int) (w : Int) ld, .int .i64 (n : Int), .int .i64 (w : Int), vt X xo (w : Int) xi, vt (.slm b l.length 0 l.length 1) yo (n : Int) yi] (H.set b (fl (zaw l yo yi n f)) ++ N) (.int .i64 0) (H.set b (fl (zaw l yo yi n f)) ++ N) := by
  have hs : ∀ Z, (H ++ N).set b Z = H.set b Z ++ N := fun Z => za9 hbl
  have h := zz6 (H ++ N) b l (by simp; omega) yo yi n hyI hyR D (by simp; omega) ml mo ld w hI hG a (fun f => by obtain ⟨l', h1, h2⟩ := hrd f; rw [hs]; exact ⟨l', h1.app N, h2⟩) X (by simp; omega) xl xo xi hxI hxR xv (fun f => by obtain ⟨l', h1, h2⟩ := hrx f; rw [hs]; exact ⟨l', h1.app N, h2⟩) (fun f N' => by rw [hs, List.append_assoc]; exact hm1 f (N ++ N')) (fun f N' => by rw [hs, List.append_assoc]; exact hm2 f (N ++ N')) f
  rwa [hs] at h
theorem zz5 (H : List (List AV)) (b : Nat) (l : List Nat) (hbl : b < H.length) (yo yi : Int) (n : Nat) (hyI : VI l.length yo n yi) (hyR : zal l.length yo n yi) (B : Nat) (f : Nat → Nat) (N : List (List AV)) : zaa Try.prog 77 [.flt B, vt (.slm b l.length 0 l.length 1) yo (n : Int) yi] (H.set b (fl (zaw l yo yi n f)) ++ N) (.tup []) (H.set b (fl (zaw l yo yi n (fun i => gmB B (f i)))) ++ N) := by
  have h := zz4 (H ++ N) b l (by simp; omega) yo yi n hyI hyR B f
  rwa [za9 hbl, za9 hbl] at h
theorem zw0 (H : List (List AV)) (b : Nat) (l : List Nat) (hbl : b < H.length) (yo yi : Int) (n : Nat) (hyI : VI l.length yo n yi) (hyR : zal l.length yo n yi) (D : AV) (hD : mx D ≤ H.length) (ml : Nat) (mo ld : Int) (w : Nat) (hI : MI ml mo n w ld) (hG : zac ml mo n w ld) (a : Nat → Nat → Nat) (hrd : ∀ f, ∃ l', FL (H.set b (fl (zaw l yo yi n f))) D l' ∧ l'.length = ml ∧ ∀ i j, i < n → j < w → mel l' mo ld i j = a i j) (X : AV) (hX : mx X ≤ H.length) (xl : Nat) (xo xi : Int) (hxI : VI xl xo w xi) (hxR : zal xl xo w xi) (xv : Nat → Nat) (hrx : ∀ f, ∃ l', FL (H.set b (fl (zaw l yo yi n f))) X l' ∧ l'.length = xl ∧ ∀ j, j < w → vf l' xo xi j = xv j) (hn0 : 0 < n) (A q : Nat) (hq : q = H.length) (N : List (List AV)) (hA : N[0]? = some [.flt A]) (f : Nat → Nat) : zaa Try.prog 78 [mt D mo (n : Int) (w : Int) ld, vt X xo (w : Int) xi, vt (.slm b l.length 0 l.length 1) yo (n : Int) yi, .func 79 [] [.eptr (.slm (q + 0) 1 0 1 1) 0]] (H.set b (fl (zaw l yo yi n f)) ++ N) (.tup []) (H.set b (fl (zaw l yo yi n (gmC A a xv f w))) ++ N) := by
  subst hq
  have hs : ∀ Z, (H ++ N).set b Z = H.set b Z ++ N := fun Z => za9 hbl
  have h := zwz (H ++ N) b l (by simp; omega) yo yi n hyI hyR D (by simp; omega) ml mo ld w hI hG a (fun f => by obtain ⟨l', h1, h2⟩ := hrd f; rw [hs]; exact ⟨l', h1.app N, h2⟩) X (by simp; omega) xl xo xi hxI hxR xv (fun f => by obtain ⟨l', h1, h2⟩ := hrx f; rw [hs]; exact ⟨l', h1.app N, h2⟩) hn0 A 79 [.eptr (.slm (H.length + 0) 1 0 1 1) 0] (fun v x f N' => by rw [hs, List.append_assoc]; exact z3j _ _ A (zbg (by simp) (by rw [List.getElem?_append_left (List.getElem?_eq_some_iff.1 hA).1]; exact hA)) v x) f
  rwa [hs, hs] at h
theorem zqe (H : List (List AV)) (b : Nat) (l : List Nat) (hbl : b < H.length) (yo yi : Int) (n : Nat) (hyI : VI l.length yo n yi) (hyR : zal l.length yo n yi) (D : AV) (hD : mx D ≤ H.length) (ml : Nat) (mo ld : Int) (w : Nat) (hI : MI ml mo n w ld) (hG : zac ml mo n w ld) (a : Nat → Nat → Nat) (hrd : ∀ f, ∃ l', FL (H.set b (fl (zaw l yo yi n f))) D l' ∧ l'.length = ml ∧ ∀ i j, i < n → j < w → mel l' mo ld i j = a i j) (X : AV) (hX : mx X ≤ H.length) (xl : Nat) (xo xi : Int) (hxI : VI xl xo w xi) (hxR : zal xl xo w xi) (xv : Nat → Nat) (hrx : ∀ f, ∃ l', FL (H.set b (fl (zaw l yo yi n f))) X l' ∧ l'.length = xl ∧ ∀ j, j < w → vf l' xo xi j = xv j) (hm1 : ∀ f N, zaa Try.prog 34 [mt (.slm b l.length 0 l.length 1) yo 1 (n : Int) yi, mt D mo (n : Int) (w : Int) ld] (H.set b (fl (zaw l yo yi n f)) ++ N) (.bool false) (H.set b (fl (zaw l yo yi n f)) ++ N)) (hm2 : ∀ f N, zaa Try.prog 34 [mt (.slm b l.length 0 l.length 1) yo 1 (n : Int) yi, mt X xo 1 (w : Int) xi] (H.set b (fl (zaw l yo yi n f)) ++ N) (.bool false) (H.set b (fl (zaw l yo yi n f)) ++ N)) (A B : Nat) (f : Nat → Nat) :
    zaa Try.prog 60 [.flt A, mt D mo (n : Int) (w : Int) ld, vt X xo (w : Int) xi, .flt B, vt (.slm b l.length 0 l.length 1) yo (n : Int) yi] (H.set b (fl (zaw l yo yi n f))) (.int .i64 0) (H.set b (fl (zaw l yo yi n (fun i => gmS A (a i) xv (gmB B (f i)) w)))) := by
  obtain ⟨vn, vo1, vo2, vn1, vn2, vi1, vi2⟩ := id hyI
  obtain ⟨hm, ho1, ho2, hr1, hr2, hc1, hc2, hl1, hl2⟩ := id hI
  obtain ⟨wn, wo1, wo2, wn1, wn2, wi1, wi2⟩ := id hxI
  have hE : n = 0 → (zaw l yo yi n (fun i => gmS A (a i) xv (gmB B (f i)) w)) = (zaw l yo yi n f) := fun h => zbh hyR.2.2.1 hyR.2.1 fun i hi => by omega
  refine .go Try.call60 Try.func60 true [] dOk ?_
  simp only [zbp, Nat.reduceAdd]
  repeat' (first
 |(refine za4 ?_; (first | refine zcm ?_ | refine zay ?_ | refine m13 ?_ | refine m12 ?_ | refine m11 ?_ | (refine m10 ?_; (first | refine zci ?_ | refine zcd ?_ | refine zch ?_ | refine zce ?_ | refine zcg ?_ ?_ | refine zcf ?_ ?_ | refine zcc ?_ ?_ | refine zcb ?_ ?_ | fail)) | (refine m09 ?_; (first | refine zci ?_ | refine zcd ?_ | refine zch ?_ | refine zce ?_ | refine zcg ?_ ?_ | refine zcf ?_ ?_ | refine zcc ?_ ?_ | refine zcb ?_ ?_ | fail)) | refine m38 ?_ | fail))
 |(refine za5 ?_; (first | refine m14 ?_ | (refine m17 ?_; first | refine m19 ?_ | refine m18 ?_) | (refine m07 ?_; (first | refine m15 ?_ | refine m16 ?_ | refine z0h (by exact rfl) (by exact rfl) (by exact rfl) (by exact rfl) ?_ | refine zqn (by exact rfl) (by exact rfl) (by exact rfl) (by exact rfl) ?_ | refine z0h (by simp) (by exact rfl) (by exact rfl) (by exact rfl) ?_ | refine zqn (by simp) (by exact rfl) (by exact rfl) (by exact rfl) ?_ | fail)) | refine zms (by (conv => {lhs; whnf}); done) (by exact rfl) (by exact rfl) (by exact rfl) (by (conv => {lhs; whnf}); done) (by (conv => {lhs; simp only [List.nil_append, List.cons_append]}); done) ?_ | refine zzb ?_ | (refine m45 ?_; (first | refine zeg (by exact rfl) ?_ | refine v_k ?_ | fail)) | (refine m00 ?_; (first | refine m52 ?_ | refine m53 ?_ | refine zgv ?_ | refine m47 ?_ | refine m48 ?_ | refine m49 ?_ | refine m50 ?_ | refine v_k ?_ | refine m51 ?_ | fail)) | (refine m22 ?_; (first | refine m26 ?_ | refine m27 ?_ | fail)) | refine m42 ?_ | refine zad ?_ | refine zae ?_ | refine m08 ?_ | refine zao ?_ | refine m01 ?_ | fail))
 |refine za2 ?_ | refine za3 ?_ | refine za1 ?_
 |(refine za6 ?_; (first | refine za0 ?_ | refine zab ?_ | (refine m06 ?_; (first | refine c_T ?_ | refine c_F ?_ | refine c_P ?_ ?_ | refine c_B ?_ ?_ | fail)) | refine zaz ?_ | refine zaq ?_ | refine zai ?_ | refine b_exit ?_ | fail))
 |refine m21 ?_
 |refine zbb ?_
 |(refine zbd ?_; (first | refine cA (zz7 H b l hbl yo yi n hyI hyR D hD ml mo ld w hI hG a hrd X hX xl xo xi hxI hxR xv hrx hm1 hm2 f _) ?_ | refine c_call (zz5 H b l hbl yo yi n hyI hyR B f _) (za7.set2 hbl (by simp) (by rw [zbs]; omega)) ?_ | refine c_call (zw0 H b l hbl yo yi n hyI hyR D hD ml mo ld w hI hG a hrd X hX xl xo xi hxI hxR xv hrx (by omega) A _ (by simp) _ (by exact rfl) (fun i => gmB B (f i))) (za7.set2 hbl (by simp) (by rw [zbs]; omega)) ?_ | fail))
 |refine m44 ?_
 |refine m40 ?_
 |(refine zdq (by (conv => {lhs; simp only [List.nil_append, List.cons_append]}); done) ?_; first | refine ⟨by exact rfl, ?_⟩ | skip)
 |refine zd9 ?_
 |(intro N' hN'; simp only [List.nil_append, List.cons_append] at hN'; subst hN')
 |refine m05 ?_
 |refine m04 ?_ | refine m02 ?_ | refine m03 ?_ | refine zar ?_
 |intro _)
  all_goals first
    | (exfalso; contradiction)
    | (exfalso; omega)
    | (refine zan (by simp) (by simp [mx, mxL, zaf, aOf, zb1]) ?_; exact rfl)
    | (rw [hE (by omega)]; refine zan (by simp) (by simp [mx, mxL, zaf, aOf, zb1]) ?_; exact rfl)
end Go.Sx
set_option linter.unusedVariables false
set_option linter.unusedSimpArgs false
namespace Go.Sx
class ArrI (P : Program) (t : TypeId) (k : outParam IntKind) : Prop where
  h : ∃ e, P.underlying t = some (.array 2 e) ∧ tsz P e = some 1 ∧ P.underlying e = some (.int k)
  g : P.eqGuardType P.depth t = false
  z : (zh4 P t).bind AV.cells = some [.int k 0, .int k 0]
def pr2 (a b : Int) : List AV := [.int .i64 a, .int .i64 b]
def pl2 (l : List (Int × Int)) : List AV := (l.map fun p => pr2 p.1 p.2).flatten
theorem zg5 (a : Int × Int) (l : List (Int × Int)) : pl2 (a :: l) = .int .i64 a.1 :: .int .i64 a.2 :: pl2 l := rfl
@[simp] theorem z4c (l : List (Int × Int)) : (pl2 l).length = 2 * l.length := by
  induction l with
  | nil => rfl
  | cons a l ih => rw [zg5]; simp only [List.length_cons, ih]; omega
theorem zt7 (l : List (Int × Int)) (p : Int × Int) : pl2 l ++ pr2 p.1 p.2 = pl2 (l ++ [p]) := by simp [pl2]
theorem zqy (l : List (Int × Int)) : mxL (pl2 l) = 0 := by
  induction l with
  | nil => rfl
  | cons a l ih => rw [zg5]; simp only [mxL, mx, ih]; rfl
theorem zxw (l : List (Int × Int)) : ∀ (j : Nat) (p : Int × Int), l[j]? = some p → (pl2 l)[j * 2 + 0]? = some (.int .i64 p.1) ∧ (pl2 l)[j * 2 + 1]? = some (.int .i64 p.2) := by
  induction l with
  | nil => intro j p h; simp at h
  | cons a l ih =>
    intro j p h
    cases j with
    | zero => simp at h; subst h; simp [zg5]
    | succ j =>
      have := ih j p (by simpa using h)
      rw [zg5, show (j + 1) * 2 + 0 = j * 2 + 0 + 1 + 1 by omega, show (j + 1) * 2 + 1 = (j * 2 + 1) + 1 + 1 by omega]
      simpa using this
theorem z00 (l : List (Int × Int)) {j : Nat} {p : Int × Int} (h : l[j]? = some p) : gc (pl2 l) (j * 2) 2 = some (pr2 p.1 p.2) := by
  obtain ⟨h1, h2⟩ := zxw l j p h
  rw [Nat.add_zero] at h1
  simp [gc, h1, h2, pr2]
section
variable {P : Program} {cfg : Cfg} {e : List (Nat × EV)} {L : List (Nat × List AV)} {H A N N' N₀ : List (List AV)} {K : St → Prop}
variable {ty : TypeId} {pos : String} {aft : Array Edge} {gd : Option (Nat × Bool)} {dd : Nat} {t tx : TypeId}
theorem zy4 {k : IntKind} [ar : ArrI P t k] {x y : Operand} {a b : Int} (hx : St.ev ⟨e, L, H⟩ x = .val (.int k a)) (hy : St.ev ⟨e, L, H⟩ y = .val (.int k b)) (h : K ⟨(dd, .val (.agg [.int k a, .int k b])) :: e, L, H⟩) :
    opX P cfg ⟨some dd, .build t #[(0, x), (1, y)], ty, pos, aft, gd⟩ K ⟨e, L, H⟩ := by
  rw [zbu P cfg e L H K _ _ _ _ _ _ rfl]
  obtain ⟨el, h1, h2, h3⟩ := ar.h
  have hz := ar.z
  cases hq : zh4 P t with
  | none => rw [hq] at hz; cases hz
  | some z =>
    rw [hq] at hz
    simp only [Option.bind_some] at hz
    have : zhk P (St.ev ⟨e, L, H⟩) t #[(0, x), (1, y)] = some (.agg [.int k a, .int k b]) := by
      have hf : zdp (fun i => some (i * 1, 1)) [.int k 0, .int k 0] [(0, some (.int k a)), (1, some (.int k b))] = some [.int k a, .int k b] := by simp [zdp, AV.cells, sc]
      have e2 : (#[(0, x), (1, y)] : Array (Nat × Operand)).toList.map (fun (i, x) => (i, ((St.ev ⟨e, L, H⟩) x).asV)) = [(0, some (.int k a)), (1, some (.int k b))] := by simp [hx, hy, EV.asV]
      unfold zhk
      rw [hq, h1]
      simp only [h2, Option.bind_some, hz]
      rw [e2, hf]; rfl
    simp only [zas, this, Option.map_some, zdb]
    exact ⟨trivial, h⟩
theorem zy5 {by_ : Nat} {z1 z2 a b : AV} {x : Operand} [ei : EI P t 2 by_ [z1, z2]] (hx : St.ev ⟨e, L, H⟩ x = .val (.agg [a, b])) (hfz : cfg.fz.contains dd = true) (h : K ⟨(dd, .val (.sl none 1 [a, b])) :: e, L, H⟩) :
    opX P cfg ⟨some dd, .buildSlice t 1 #[(0, x)], ty, pos, aft, gd⟩ K ⟨e, L, H⟩ := by
  have : zdp (fun i => some (i * 2, 2)) (zkb 1 [z1, z2]) ([(0, x)].map fun (p : Nat × Operand) => (p.1, ((St.ev ⟨e, L, H⟩) p.2).asV)) = some [a, b] := by
    simp [hx, EV.asV, zdp, AV.cells, sc, zkb]
  simp only [opX, opE, ei.h, Option.any_some, hfz, if_true]
  have e2 : (#[(0, x)] : Array (Nat × Operand)).toList.map (fun (i, x) => (i, ((St.ev ⟨e, L, H⟩) x).asV)) = [(0, x)].map fun (p : Nat × Operand) => (p.1, ((St.ev ⟨e, L, H⟩) p.2).asV) := rfl
  rw [e2, this]
  exact ⟨rfl, by omega, by omega, h⟩
def gV2 (n i k : Nat) : AV := if k = 0 then .slnil else .slm (n + i) (2 * k) 0 k 2
theorem zwa {s x : Operand} {n i k by_ el' z' : Nat} {z1 z2 : AV} {l l' : List (Int × Int)} {p : Int × Int} [ei : EI P t 2 by_ [z1, z2]] [si : SlI P tx el' z'] (hs : St.ev ⟨e, L, A ++ (N₀ ++ gN (pl2 l))⟩ s = .val (gV2 n i k)) (hx : St.ev ⟨e, L, A ++ (N₀ ++ gN (pl2 l))⟩ x = .val (.sl none 1 (pr2 p.1 p.2)))
    (hA : A.length = n) (hi : N₀.length = i) (hk : l.length = k) (hm : k + 1 ≤ 2 ^ 32) (hn : cfg.n0 = n) (hz : (decide (by_ ≤ 2 ^ 10) && decide (0 < by_)) = true) (hl : l ++ [p] = l')
    (h : K ⟨(dd, .val (gV2 n i (k + 1))) :: e, L, A ++ (N₀ ++ gN (pl2 l'))⟩) :
    opX P cfg ⟨some dd, .call { callee := .builtin .append, args := #[s, x], argTypes := #[t, tx] }, ty, pos, aft, gd⟩ K ⟨e, L, A ++ (N₀ ++ gN (pl2 l))⟩ := by
  subst hl hA hi hk
  have hne : pl2 (l ++ [p]) ≠ [] := by intro h; have := congrArg List.length h; simp at this
  have e1 : gV2 A.length N₀.length (l.length + 1) = .slm (A.length + N₀.length) (2 * (l.length + 1)) 0 (l.length + 1) 2 := by simp [gV2]
  have e2 : gN (pl2 (l ++ [p])) = [pl2 (l ++ [p])] := by simp [gN, hne]
  rw [e1, e2] at h
  cases l with
  | nil =>
    simp only [pl2, List.map_nil, List.flatten_nil, gN, if_true, List.append_nil, List.length_nil, gV2] at hs hx h ⊢
    refine zu0 hs hx (zgu (by simp [pr2])) (by omega) (by simpa using hz) ?_
    have e3 : pl2 ([] ++ [p]) = pr2 p.1 p.2 := by simp [pl2]
    simpa [List.append_assoc, pr2, e3] using h
  | cons q l =>
    have hne' : pl2 (q :: l) ≠ [] := by intro h; have := congrArg List.length h; simp at this
    have e3 : gV2 A.length N₀.length (q :: l).length = .slm (A.length + N₀.length) (2 * (q :: l).length) 0 (q :: l).length 2 := by simp [gV2]
    have e4 : gN (pl2 (q :: l)) = [pl2 (q :: l)] := by simp [gN, hne']
    rw [e3] at hs
    rw [e4] at hs hx ⊢
    refine zu1 (cs := pl2 (q :: l)) hs hx (zgu (by simp [pr2])) (zbg rfl (by simp)) (by simp) (by omega) hm (.inl (by omega)) (by simpa using hz) ?_
    rw [zea rfl (N' := N₀ ++ [pl2 (q :: l) ++ pr2 p.1 p.2]) (by simp), zt7]
    have e5 : (pl2 (q :: l)).length + (pr2 p.1 p.2).length = 2 * ((q :: l).length + 1) := by simp [pr2]; omega
    rw [e5]
    exact h
theorem zz0 {n i k : Nat} {l : List (Int × Int)} (hA : A.length = n) (hi : N₀.length = i) (hk : l.length = k) : Fr n [] (A ++ (N₀ ++ gN (pl2 l))) (gV2 n i k) (.sl none k (pl2 l)) := by
  cases l with
  | nil =>
    simp only [List.length_nil] at hk; subst hk
    exact Fr.nil
  | cons a l =>
    have hk0 : k ≠ 0 := by simp at hk; omega
    have hne' : pl2 (a :: l) ≠ [] := by intro h; have := congrArg List.length h; simp at this
    simp only [gV2, if_neg hk0]
    have : (A ++ (N₀ ++ gN (pl2 (a :: l))))[n + i]? = some (pl2 (a :: l)) := by
      refine zbg hA ?_
      subst hi; simp [gN, hne']
    exact Fr.fz (by omega) (by simp) this (by simp at hk ⊢; omega) (zfy _ (by simp at hk ⊢; omega)) (Frs.old (by rw [zqy]; exact Nat.zero_le _))
theorem z3u {l : List (Int × Int)} {j m : Nat} {p : Int × Int} [ti : TyI P t 2 true] (hp : l[j]? = some p) (h : K ⟨(dd, .val (.agg (pr2 p.1 p.2))) :: e, L, H⟩) : zbo P t dd K ⟨e, L, H⟩ (.val (.eptr (.sl none m (pl2 l)) (j * 2))) :=
  zqo (by simp only [zbx]; exact z00 l hp) h
end
end Go.Sx
namespace Go.Sx
theorem zio {a b : List Int} {k : Nat} (h : k < a.length) : (il (a ++ b))[k]? = some (.int .i64 (a.getD k 0)) := by
  rw [zku (by rw [List.length_append]; omega)]
  congr 2
  simp [List.getD, List.getElem?_append_left h]
end Go.Sx
set_option linter.unusedVariables false
set_option linter.unusedSimpArgs false
namespace Go.Sx
def InS (off r c ld lo hi : Int) : Prop := r = 0 ∨ c = 0 ∨ (lo ≤ off ∧ off + (c - 1) * ld + r - 1 ≤ hi)
def zfk (pe : Bool) (a b c d : Int) : Prop := pe = true → b < c ∨ d < a
theorem ztd {n1 n2 : Nat} {o1 r1 c1 l1 o2 r2 c2 l2 a b c d : Int} {pe : Bool} (h1 : InS o1 r1 c1 l1 a b) (h2 : InS o2 r2 c2 l2 c d) (hf : zfk pe a b c d) (hg1 : r1 ≠ 0 → c1 ≠ 0 → o1 ≤ o1 + (c1 - 1) * l1 + r1 - 1) :
    ¬ (zeo n1 o1 r1 c1 l1 ∧ zeo n2 o2 r2 c2 l2 ∧ pe = true ∧ sF n1 o1 r1 c1 l1 ≤ sT n2 o2 r2 c2 l2 ∧ sF n2 o2 r2 c2 l2 ≤ sT n1 o1 r1 c1 l1) := by
  rintro ⟨s1, s2, hp, h3, h4⟩
  obtain ⟨g1, z1, z2⟩ := id s1
  obtain ⟨g2, z3, z4⟩ := id s2
  unfold sF sT at h3 h4
  rw [if_pos s1, if_pos s2] at h3 h4
  rcases h1 with h1 | h1 | h1
  · exact z1 h1
  · exact z2 h1
  · rcases h2 with h2 | h2 | h2
    · exact z3 h2
    · exact z4 h2
    · rcases hf hp with hf | hf <;> omega
theorem InS.col {off : Int} {r c j : Nat} {ld lo hi : Int} (h : InS off r c ld lo hi) (hl : 1 ≤ ld) (hj : j < c) : InS (zcj off (r : Int) ld (j : Int)) 1 r 1 lo hi := by
  by_cases hr : r = 0
  · exact .inr (.inl (by omega))
  · rcases h with h | h | ⟨h1, h2⟩
    · omega
    · omega
    · right; right
      unfold zcj; rw [if_pos (by omega)]
      have h3 : 0 ≤ (j : Int) * ld := Int.mul_nonneg (by omega) (by omega)
      have h4 : (j : Int) * ld ≤ ((c : Int) - 1) * ld := Int.mul_le_mul_of_nonneg_right (by omega) (by omega)
      exact ⟨by omega, by omega⟩
theorem InS.part {off : Int} {r c i j r' c' : Nat} {ld lo hi : Int} (h : InS off r c ld lo hi) (hl : 1 ≤ ld) (hi' : i + r' ≤ r) (hj' : j + c' ≤ c) {o : Int} (ho : o = if (0 : Int) < (r' : Int) ∧ (0 : Int) < (c' : Int) then off + ((i : Int) + (j : Int) * ld) else off) : InS o r' c' ld lo hi := by
  by_cases hr : r' = 0
  · exact .inl (by omega)
  · by_cases hc : c' = 0
    · exact .inr (.inl (by omega))
    · rw [if_pos ⟨by omega, by omega⟩] at ho
      subst ho
      rcases h with h | h | ⟨h1, h2⟩
      · omega
      · omega
      · right; right
        have h3 : 0 ≤ (j : Int) * ld := Int.mul_nonneg (by omega) (by omega)
        have h4 : ((j : Int) + ((c' : Int) - 1)) * ld ≤ ((c : Int) - 1) * ld := Int.mul_le_mul_of_nonneg_right (by omega) (by omega)
        rw [Int.add_mul] at h4
        exact ⟨by omega, by omega⟩
theorem zx9 {off ld : Int} {r c : Nat} (hl : 1 ≤ ld) : (r : Int) ≠ 0 → (c : Int) ≠ 0 → off ≤ off + ((c : Int) - 1) * ld + (r : Int) - 1 := by
  intro h1 h2
  have : 0 ≤ ((c : Int) - 1) * ld := Int.mul_nonneg (by omega) (by omega)
  omega
theorem zlg {l : List Nat} {off xl : Int} {n c j : Nat} {g : Nat → Nat → Nat} {f : Nat → Nat} (hG : zac l.length off n c xl) (hj : j < c) (hn : 0 < n) :
    zaw (zah l off xl n c g) (zcj off (n : Int) xl (j : Int)) 1 n f = zah l off xl n c (zed g 0 n j f) := by
  have h := zh0 (g := g) (f := f) (r0 := 0) (m := n) hG (by omega) hj hn
  have e : zcj off (n : Int) xl (j : Int) = off + (((0 : Nat) : Int) + (j : Int) * xl) := by unfold zcj; rw [if_pos (by omega)]; omega
  rw [e]; exact h
theorem znc {L : List Nat} {off xl : Int} {n j k : Nat} (hk : k < n) : mel L (zcj off (n : Int) xl (j : Int)) 1 0 k = mel L off xl k j := by
  unfold zcj; rw [if_pos (by omega), zbr, zbr, znj]
theorem zkk {g : Nat → Nat → Nat} {n j : Nat} (i k : Nat) (hi : i < n) : zed g 0 n j (fun i => g i j) i k = g i k := by
  unfold zed; split
  · rename_i h; rw [h.1]; simp
  · rfl
theorem zor {l : List Nat} {off ld : Int} {r c i0 j0 r' c' : Nat} {g f : Nat → Nat → Nat} (hG : zac l.length off r c ld) (hi : i0 + r' ≤ r) (hj : j0 + c' ≤ c) (hr : 0 < r') (hc : 0 < c') :
    zah (zah l off ld r c g) (off + ((i0 : Int) + (j0 : Int) * ld)) ld r' c' f = zah l off ld r c (zbw g f i0 j0 r' c') := by
  rw [zle (by simpa using hG) hi hj (by simpa using zdx hG hi hj hr hc), zlf]
  refine zam hG.2.2.2.1 hG.2.2.1 fun i j h1 h2 => ?_
  unfold zbw
  split
  · rfl
  · exact zc6 hG h1 h2
theorem ziv {g : Nat → Nat → Nat} {i0 j0 r' c' : Nat} (i j : Nat) : zbw g (fun i j => g (i0 + i) (j0 + j)) i0 j0 r' c' i j = g i j := by
  unfold zbw; split
  · rename_i h; show g (i0 + (i - i0)) (j0 + (j - j0)) = _; rw [show i0 + (i - i0) = i by omega, show j0 + (j - j0) = j by omega]
  · rfl
theorem ze1 (g : Nat → Nat → Nat) (r c : Nat) : zac (cmA g r c).length 0 (r : Int) (c : Int) ((max r 1 : Nat) : Int) := by
  refine ⟨by omega, by omega, by omega, by omega, by omega, ?_⟩
  rcases Nat.eq_zero_or_pos r with h | h
  · exact .inl (by omega)
  · rcases Nat.eq_zero_or_pos c with h' | h'
    · exact .inr (.inl (by omega))
    · have e : (cmA g r c).length = r * c := by simp [cmA]
      have e2 : ((r * c : Nat) : Int) = ((c : Int) - 1) * (r : Int) + r := by rw [Int.sub_mul, Int.natCast_mul, Int.mul_comm]; omega
      have e3 : ((max r 1 : Nat) : Int) = r := by omega
      have e4 : 0 ≤ ((c : Int) - 1) * (r : Int) := Int.mul_nonneg (by omega) (by omega)
      rw [e, e3]
      exact .inr (.inr ⟨by omega, by omega, by omega⟩)
theorem zkj {g : Nat → Nat → Nat} {r c : Nat} (hr : r ≤ 64) (hc : c ≤ 64) : MI (cmA g r c).length 0 (r : Int) (c : Int) ((max r 1 : Nat) : Int) := by
  have e : (cmA g r c).length = r * c := by simp [cmA]
  have : r * c ≤ 64 * 64 := Nat.mul_le_mul hr hc
  exact ⟨by omega, by omega, by omega, by omega, by omega, by omega, by omega, by omega, by omega⟩
theorem zhs {g : Nat → Nat → Nat} {r c i j : Nat} (hi : i < r) (hj : j < c) : mel (cmA g r c) 0 ((max r 1 : Nat) : Int) i j = g i j := by
  have hk : i + j * r < r * c := by
    have : (j + 1) * r ≤ c * r := Nat.mul_le_mul_right r hj
    rw [Nat.add_mul, Nat.mul_comm c r] at this; omega
  have e : ((0 : Int) + (i : Int) + (j : Int) * ((max r 1 : Nat) : Int)).toNat = i + j * r := by
    rw [show ((max r 1 : Nat) : Int) = (r : Int) by omega, ← Int.natCast_mul]; omega
  unfold mel
  rw [e, cmA, zew hk]
  have h1 : (i + j * r) % r = i := by rw [Nat.add_mul_mod_self_right]; exact Nat.mod_eq_of_lt hi
  have h2 : (i + j * r) / r = j := by rw [Nat.add_mul_div_right _ _ (by omega), Nat.div_eq_of_lt hi]; omega
  rw [h1, h2]
theorem zuk {g g' : Nat → Nat → Nat} {r c : Nat} : zah (cmA g r c) 0 ((max r 1 : Nat) : Int) r c g' = cmA g' r c := by
  have hG := ze1 g r c
  apply List.ext_getElem
  · simp [cmA]
  · intro p h1 h2
    have hp : p < r * c := by simpa [cmA] using h2
    have hr : 0 < r := Nat.pos_of_ne_zero fun h => by subst h; simp at hp
    have hi := Nat.mod_lt p hr
    have hj : p / r < c := Nat.div_lt_of_lt_mul hp
    have hpos : pos 0 ((max r 1 : Nat) : Int) (p % r) (p / r) = p := by
      unfold pos
      rw [show ((max r 1 : Nat) : Int) = (r : Int) by omega, ← Int.natCast_mul]
      have := Nat.mod_add_div p r
      rw [Nat.mul_comm] at this
      omega
    have e1 := zc6 (g := g') hG hi hj
    have e2 := zhs (g := g') hi hj
    have e3 := e1.trans e2.symm
    rw [zbr, zbr, hpos] at e3
    simp only [List.getD_eq_getElem?_getD, List.getElem?_eq_getElem h1, List.getElem?_eq_getElem h2, Option.getD_some] at e3
    exact e3
def prs (T : Nat) (P : Nat → Nat) : List (Int × Int) := (List.range T).map fun t => ((P t : Int), ((P (t + 1) - P t : Nat) : Int))
def cuV (T : Nat) (P : Nat → Nat) : AV := .sl none T (pl2 (prs T P))
theorem zrd {T t : Nat} {P : Nat → Nat} (h : t < T) : (prs T P)[t]? = some ((P t : Int), ((P (t + 1) - P t : Nat) : Int)) := by simp [prs, h]
theorem zt8 {D : List Int} {P : Nat → Nat} (h : ∀ t, t < D.length → D.getD t 0 = (P t : Int)) (hi : ∀ t, t + 1 < D.length → P t ≤ P (t + 1)) : zka D = prs (D.length - 1) P := by
  apply List.ext_getElem?
  intro t
  by_cases ht : t + 1 < D.length
  · have h9 := hi t ht
    rw [zjz D t ht, zrd (by omega), h t (by omega), h (t + 1) ht]
    congr 2; omega
  · rw [List.getElem?_eq_none (by rw [zf1]; omega), List.getElem?_eq_none (by simp [prs]; omega)]
structure Cuts (n T : Nat) (P : Nat → Nat) : Prop where
  zero : P 0 = 0
  last : P T = n
  inc : ∀ t, t < T → P t < P (t + 1)
  le : ∀ t, t ≤ T → P t ≤ n
theorem zwo {n m : Nat} (hm : 0 < m) (hn : 0 < n) : Cuts n ((dL n m []).length - 1) (fun t => ((dL n m []).getD t 0).toNat) ∧ zka (dL n m []) = prs ((dL n m []).length - 1) (fun t => ((dL n m []).getD t 0).toNat) := by
  obtain ⟨g1, g2, g3, g4⟩ := zja (n := n) (m := m) hm hn []
  obtain ⟨h1, h2, h3⟩ := zwp (n := n) (m := m) hm hn []
  refine ⟨⟨by simp only [h1]; rfl, by simp only [h2]; omega, fun t ht => ?_, fun t ht => ?_⟩, zt8 (fun t ht => ?_) (fun t ht => ?_)⟩
  · have k1 := h3 t (by omega)
    have k2 := g3 t (by omega)
    omega
  · have k2 := g3 t (by omega)
    omega
  · have k2 := g3 t ht
    omega
  · have k1 := h3 t ht
    have k2 := g3 t (by omega)
    omega
theorem zs7 : Cuts 0 0 (fun _ => 0) := ⟨rfl, rfl, fun t h => absurd h (Nat.not_lt_zero t), fun _ _ => Nat.le_refl _⟩
theorem Cuts.ltn {n T : Nat} {P : Nat → Nat} (h : Cuts n T P) {t : Nat} (ht : t < T) : P t < P (t + 1) ∧ P (t + 1) ≤ n := ⟨h.inc t ht, h.le (t + 1) (by omega)⟩
theorem Cuts.t_le {n T : Nat} {P : Nat → Nat} (h : Cuts n T P) : T ≤ n := by
  have : ∀ t, t ≤ T → t ≤ P t := fun t => by
    induction t with
    | zero => intro _; omega
    | succ t ih => intro ht; have h1 := ih (by omega); have h2 := h.inc t (by omega); omega
  have h1 := this T (Nat.le_refl _)
  have h2 := h.last
  omega
section
variable {P : Program} {cfg : Cfg} {e : List (Nat × EV)} {L : List (Nat × List AV)} {H : List (List AV)} {K : St → Prop} {dd : Nat} {ty : TypeId} {pos : String} {aft : Array Edge} {gd : Option (Nat × Bool)} {t : TypeId}
theorem znz {k : IntKind} [ar : ArrI P t k] {x : Operand} {key off n : Nat} (hx : St.ev ⟨e, L, H⟩ x = .loc key off) (hn : n < 2) (h : K ⟨(dd, .loc key (off + n)) :: e, L, H⟩) :
    opX P cfg ⟨some dd, .indexAddr t x (.const (.int .i64 (n : Int))), ty, pos, aft, gd⟩ K ⟨e, L, H⟩ := by
  rw [zbu P cfg e L H K _ _ _ _ _ _ rfl]
  obtain ⟨el, h1, h2, h3⟩ := ar.h
  have ht : zen P t = none := by simp [zen, h1]
  have hta : zyv P t = some (2, el) := by simp [zyv, h1]
  have hc : zlp ((St.ev ⟨e, L, H⟩) (.const (.int .i64 (n : Int)))) = some (n : Int) := rfl
  have : zas P (St.ev ⟨e, L, H⟩) (lk L) H (.indexAddr t x (.const (.int .i64 (n : Int)))) = some (0 ≤ (n : Int) ∧ (n : Int) < (2 : Nat), .loc key (off + n)) := by
    simp only [zas, ht, hc, hta, Option.bind_some, h2, hx, Int.toNat_natCast, Nat.mul_one]
  rw [this]
  exact ⟨by omega, h⟩
theorem zzd {t t' : TypeId} [pt : PtI P t] {x y : Operand} {s s' : AV} {a a' : Nat} (hx : St.ev ⟨e, L, H⟩ x = .val (.eptr s a)) (hy : St.ev ⟨e, L, H⟩ y = .val (.eptr s' a')) {r : Bool} (hr : ptrEq H s a s' a' = some r) (h : K ⟨(dd, .val (.bool (!r))) :: e, L, H⟩) :
    opX P cfg ⟨some dd, .binOp .neq t x y t', ty, pos, aft, gd⟩ K ⟨e, L, H⟩ := by
  rw [zq4, hx, hy]
  have : zou P .neq t (.val (.eptr s a)) (.val (.eptr s' a')) = none := by simp [zou, AV.asF, z0s, zok]
  rw [this]
  simp only [zxz, pt.h, if_true, hr, Option.map_some, zdb]
  exact ⟨trivial, h⟩
theorem zxa {T t' : Nat} {Q : Nat → Nat} [ti : TyI P t 2 true] (ht : t' < T) (h : K ⟨(dd, .val (.agg [.int .i64 (Q t' : Int), .int .i64 ((Q (t' + 1) - Q t' : Nat) : Int)])) :: e, L, H⟩) : zbo P t dd K ⟨e, L, H⟩ (.val (.eptr (cuV T Q) (t' * 2))) :=
  z3u (p := ((Q t' : Int), ((Q (t' + 1) - Q t' : Nat) : Int))) (zrd ht) h
end
end Go.Sx
set_option linter.unusedVariables false
set_option linter.unusedSimpArgs false
set_option maxRecDepth 20000
namespace Go.Sx
open Go.Proofs
def gmR (A B : Nat) (x y : Nat → Nat → Nat) (w : Nat) (g : Nat → Nat → Nat) : Nat → Nat → Nat := fun i j => gmS A (x i) (fun k => y k j) (gmB B (g i j)) w
theorem zdm (H : List (List AV)) (Da : AV) (na : Nat) (oa : Int) (ra ca : Nat) (la : Int) (hDa : slen Da = some na) (hIa : MI na oa ra ca la) (Db : AV) (nb : Nat) (ob rb cb lb : Int) (hDb : slen Db = some nb) (hIb : MI nb ob rb cb lb) (pe : Bool) (hpe : 0 < na → 0 < nb → ptrEq H Da 0 Db 0 = some pe) {lo hi lo1 hi1 : Int} (h1 : InS oa ra ca la lo hi) (h2 : InS ob rb cb lb lo1 hi1) (hf : zfk pe lo hi lo1 hi1) (hl : 1 ≤ la) :
    zaa Try.prog 34 [mt Da oa (ra : Int) (ca : Int) la, mt Db ob rb cb lb] H (.bool false) H := by
  have h := zvp H Da na oa ra ca la hDa hIa Db nb ob rb cb lb hDb hIb pe hpe
  rwa [decide_eq_false (ztd h1 h2 hf (zx9 hl))] at h
theorem zw8 (H : List (List AV)) (b : Nat) (l : List Nat) (hbl : b < H.length) (zo zl : Int) (r c : Nat) (hzI : MI l.length zo r c zl) (hzG : zac l.length zo r c zl) (lo hi : Int) (hin : InS zo r c zl lo hi) (w : Nat) (X : AV) (hX : mx X ≤ H.length) (xm : Nat) (xo xl : Int) (hxI : MI xm xo r w xl) (hxG : zac xm xo r w xl) (xa : Nat → Nat → Nat) (hrx : ∀ g, ∃ l', FL (H.set b (fl (zah l zo zl r c g))) X l' ∧ l'.length = xm ∧ ∀ i j, i < r → j < w → mel l' xo xl i j = xa i j) (px : Bool) (hpx : ∀ g N, 0 < l.length → 0 < xm → ptrEq (H.set b (fl (zah l zo zl r c g)) ++ N) (.slm b l.length 0 l.length 1) 0 X 0 = some px) (lox hix : Int) (hinx : InS xo r w xl lox hix) (hfx : zfk px lo hi lox hix) (Y : AV) (hY : mx Y ≤ H.length) (ym : Nat) (yo yl : Int) (hyI : MI ym yo w c yl) (hyG : zac ym yo w c yl) (ya : Nat → Nat → Nat) (hry : ∀ g, ∃ l', FL (H.set b (fl (zah l zo zl r c g))) Y l' ∧ l'.length = ym ∧ ∀ i j, i < w → j < c → mel l' yo yl i j = ya i j) (py : Bool) (hpy : ∀ g N, 0 < l.length → 0 < ym → ptrEq (H.set b (fl (zah l zo zl r c g)) ++ N) (.slm b l.length 0 l.length 1) 0 Y 0 = some py) (loy hiy : Int) (hiny : InS yo w c yl loy hiy) (hfy : zfk py lo hi loy hiy) (A B : Nat) (g : Nat → Nat → Nat) (N : List (List AV)) (j : Nat) (hj : j < c) (hr0 : 0 < r) :
    zaa Try.prog 60 [.flt A, mt X xo (r : Int) (w : Int) xl, vt Y (zcj yo (w : Int) yl (j : Int)) (w : Int) 1, .flt B, vt (.slm b l.length 0 l.length 1) (zcj zo (r : Int) zl (j : Int)) (r : Int) 1] (H.set b (fl (zah l zo zl r c g)) ++ N) (.int .i64 0) (H.set b (fl (zah l zo zl r c (zed g 0 r j (fun i => gmS A (xa i) (fun k => ya k j) (gmB B (g i j)) w)))) ++ N) := by
  have hst : ∀ f, (H ++ N).set b (fl (zaw (zah l zo zl r c g) (zcj zo (r : Int) zl (j : Int)) 1 r f)) = H.set b (fl (zah l zo zl r c (zed g 0 r j f))) ++ N := fun f => by rw [za9 hbl, zlg hzG hj hr0]
  have hlen : (zah l zo zl r c g).length = l.length := by simp
  have hI1 : VI l.length (zcj zo (r : Int) zl (j : Int)) (r : Int) 1 := zkl hzI hzG hj
  have hR1 : zal l.length (zcj zo (r : Int) zl (j : Int)) (r : Int) 1 := zc4 hzG (by omega) (by omega)
  have hI2 : VI ym (zcj yo (w : Int) yl (j : Int)) (w : Int) 1 := zkl hyI hyG hj
  have hR2 : zal ym (zcj yo (w : Int) yl (j : Int)) (w : Int) 1 := zc4 hyG (by omega) (by omega)
  have hXl : slen X = some xm := by obtain ⟨l', h1, h2, _⟩ := hrx g; rw [← h2]; exact h1.len
  have hYl : slen Y = some ym := by obtain ⟨l', h1, h2, _⟩ := hry g; rw [← h2]; exact h1.len
  have h := zqe (H ++ N) b (zah l zo zl r c g) (by simp; omega) (zcj zo (r : Int) zl (j : Int)) 1 r (by rw [hlen]; exact hI1) (by rw [hlen]; exact hR1) X (by simp; omega) xm xo xl w hxI hxG xa
    (fun f => by rw [hst]; obtain ⟨l', h1, h2⟩ := hrx (zed g 0 r j f); exact ⟨l', h1.app N, h2⟩) Y (by simp; omega) ym (zcj yo (w : Int) yl (j : Int)) 1 hI2 hR2 (fun k => ya k j)
    (fun f => by
      rw [hst]; obtain ⟨l', h1, h2, h3⟩ := hry (zed g 0 r j f)
      refine ⟨l', h1.app N, h2, fun k hk => ?_⟩
      unfold vf; rw [znc hk]; exact h3 k j hk hj)
    (fun f N' => by
      rw [hst, hlen, List.append_assoc]
      exact zdm _ (.slm b l.length 0 l.length 1) l.length (zcj zo (r : Int) zl (j : Int)) 1 r 1 rfl hI1.mat X xm xo r w xl hXl hxI px (hpx _ _) (hin.col hzG.2.2.2.1 hj) hinx hfx (by omega))
    (fun f N' => by
      rw [hst, hlen, List.append_assoc]
      exact zdm _ (.slm b l.length 0 l.length 1) l.length (zcj zo (r : Int) zl (j : Int)) 1 r 1 rfl hI1.mat Y ym (zcj yo (w : Int) yl (j : Int)) 1 w 1 hYl hI2.mat py (hpy _ _) (hin.col hzG.2.2.2.1 hj) (hiny.col hyG.2.2.2.1 hj) hfy (by omega)) A B (fun i => g i j)
  rw [hst, hst, hlen, zam (g := zed g 0 r j (fun i => g i j)) (g' := g) hzG.2.2.2.1 hzG.2.2.1 (fun i k hi _ => zkk i k hi)] at h
  exact h
theorem zyq (H : List (List AV)) (b : Nat) (l : List Nat) (hbl : b < H.length) (zo zl : Int) (r c : Nat) (g : Nat → Nat → Nat) : ∃ l', FL (H.set b (fl (zah l zo zl r c g))) (.slm b l.length 0 l.length 1) l' ∧ l'.length = l.length := ⟨zah l zo zl r c g, by have h := FL.set (N := []) (g := l.length) (q := l.length) (X := zah l zo zl r c g) hbl (by simp) (by simp); rw [List.append_nil] at h; exact h, by simp⟩
attribute [local irreducible] Ex zau exD opX opE zdh zfd zfl Spec zaa Fr zdg zbf zbe ckK zcq zda zbo faK zcz ze4 gK fK rK zgd lpX prK
theorem ztu (H : List (List AV)) (b : Nat) (l : List Nat) (hbl : b < H.length) (zo zl : Int) (r c : Nat) (hzI : MI l.length zo r c zl) (hzG : zac l.length zo r c zl) (lo hi : Int) (hin : InS zo r c zl lo hi) (w : Nat) (X : AV) (hX : mx X ≤ H.length) (xm : Nat) (xo xl : Int) (hxI : MI xm xo r w xl) (hxG : zac xm xo r w xl) (xa : Nat → Nat → Nat) (hrx : ∀ g, ∃ l', FL (H.set b (fl (zah l zo zl r c g))) X l' ∧ l'.length = xm ∧ ∀ i j, i < r → j < w → mel l' xo xl i j = xa i j) (px : Bool) (hpx : ∀ g N, 0 < l.length → 0 < xm → ptrEq (H.set b (fl (zah l zo zl r c g)) ++ N) (.slm b l.length 0 l.length 1) 0 X 0 = some px) (lox hix : Int) (hinx : InS xo r w xl lox hix) (hfx : zfk px lo hi lox hix) (Y : AV) (hY : mx Y ≤ H.length) (ym : Nat) (yo yl : Int) (hyI : MI ym yo w c yl) (hyG : zac ym yo w c yl) (ya : Nat → Nat → Nat) (hry : ∀ g, ∃ l', FL (H.set b (fl (zah l zo zl r c g))) Y l' ∧ l'.length = ym ∧ ∀ i j, i < w → j < c → mel l' yo yl i j = ya i j) (py : Bool) (hpy : ∀ g N, 0 < l.length → 0 < ym → ptrEq (H.set b (fl (zah l zo zl r c g)) ++ N) (.slm b l.length 0 l.length 1) 0 Y 0 = some py) (loy hiy : Int) (hiny : InS yo w c yl loy hiy) (hfy : zfk py lo hi loy hiy) (g : Nat → Nat → Nat) :
    zaa Try.prog 59 [mt X xo (r : Int) (w : Int) xl, mt Y yo (w : Int) (c : Int) yl, mt (.slm b l.length 0 l.length 1) zo (r : Int) (c : Int) zl] (H.set b (fl (zah l zo zl r c g))) (.int .i64 0) (H.set b (fl (zah l zo zl r c g))) := by
  obtain ⟨hm, ho1, ho2, hr1, hr2, hc1, hc2, hl1, hl2⟩ := id hzI
  obtain ⟨xm1, xo1, xo2, xr1, xr2, xc1, xc2, xl1, xl2⟩ := id hxI
  obtain ⟨ym1, yo1, yo2, yr1, yr2, yc1, yc2, yl1, yl2⟩ := id hyI
  have hXl : slen X = some xm := by (obtain ⟨l', h1, h2, _⟩ := hrx g; rw [← h2]; exact h1.len)
  have hYl : slen Y = some ym := by (obtain ⟨l', h1, h2, _⟩ := hry g; rw [← h2]; exact h1.len)
  refine .go Try.call59 Try.func59 false [] dOk ?_
  simp only [zbp, Nat.reduceAdd]
  repeat' (first
 |(refine za4 ?_; (first | refine zcm ?_ | refine zay ?_ | refine m13 ?_ | refine m12 ?_ | refine m11 ?_ | (refine m10 ?_; (first | refine zci ?_ | refine zcd ?_ | refine zch ?_ | refine zce ?_ | refine zcg ?_ ?_ | refine zcf ?_ ?_ | refine zcc ?_ ?_ | refine zcb ?_ ?_ | fail)) | (refine m09 ?_; (first | refine zci ?_ | refine zcd ?_ | refine zch ?_ | refine zce ?_ | refine zcg ?_ ?_ | refine zcf ?_ ?_ | refine zcc ?_ ?_ | refine zcb ?_ ?_ | fail)) | refine m38 ?_ | fail))
 |(refine za5 ?_; (first | refine m14 ?_ | (refine m17 ?_; first | refine m19 ?_ | refine m18 ?_) | (refine m07 ?_; (first | refine m15 ?_ | refine m16 ?_ | fail)) | (refine m00 ?_; (first | refine m54 ?_ | refine m55 ?_ | refine zck ?_ | refine m49 ?_ | refine m50 ?_ | refine zdk ?_ | refine zdi ?_ | refine zdj ?_ | refine v_k ?_ | refine m51 ?_ | fail)) | (refine m22 ?_; (first | refine m26 ?_ | refine m27 ?_ | fail)) | refine m42 ?_ | refine zad ?_ | refine zae ?_ | refine m08 ?_ | (refine m20 ?_; (first | refine m54 ?_ | refine m55 ?_ | refine zck ?_ | refine m49 ?_ | refine m50 ?_ | refine zdk ?_ | refine zdi ?_ | refine zdj ?_ | refine v_k ?_ | refine m51 ?_ | fail)) | refine zao ?_ | refine m01 ?_ | fail))
 |refine za2 ?_ | refine za3 ?_ | refine za1 ?_
 |(refine za6 ?_; (first | refine za0 ?_ | refine zab ?_ | (refine m06 ?_; (first | refine c_T ?_ | refine c_F ?_ | refine c_P ?_ ?_ | refine c_B ?_ ?_ | fail)) | refine zaz ?_ | refine zaq ?_ | refine zai ?_ | refine b_exit ?_ | fail))
 |refine m21 ?_
 |refine zbb ?_
 |(refine zbd ?_; (first | refine cA (zgl _ _ X xm xo _ _ xl hxI hxG ((hrx _).imp fun l' h => ⟨h.1, h.2.1⟩)) ?_ | refine cA (zgl _ _ Y ym yo _ _ yl hyI hyG ((hry _).imp fun l' h => ⟨h.1, h.2.1⟩)) ?_ | refine cA (zgl _ _ (.slm b l.length 0 l.length 1) l.length zo _ _ zl hzI hzG (zyq H b l hbl zo zl r c _)) ?_ | refine cA (zdm _ (.slm b l.length 0 l.length 1) l.length zo r c zl (by exact rfl) hzI X xm xo r w xl hXl hxI px (hpx _ _) hin hinx hfx hzG.2.2.2.1) ?_ | refine cA (zdm _ (.slm b l.length 0 l.length 1) l.length zo r c zl (by exact rfl) hzI Y ym yo w c yl hYl hyI py (hpy _ _) hin hiny hfy hzG.2.2.2.1) ?_ | fail))
 |refine zbz ?_ | refine zb0 ?_ | refine zby ?_ | refine m57 ?_
 |refine m05 ?_
 |refine m04 ?_ | refine m02 ?_ | refine m03 ?_ | refine zar ?_
 |intro _)
  all_goals first
    | (exfalso; contradiction)
    | (exfalso; omega)
    | (refine zan (by simp) (by simp [mx, mxL, zaf, aOf, zb1]) ?_; exact rfl)
theorem ztv (H : List (List AV)) (b : Nat) (l : List Nat) (hbl : b < H.length) (zo zl : Int) (r c : Nat) (hzI : MI l.length zo r c zl) (hzG : zac l.length zo r c zl) (lo hi : Int) (hin : InS zo r c zl lo hi) (w : Nat) (X : AV) (hX : mx X ≤ H.length) (xm : Nat) (xo xl : Int) (hxI : MI xm xo r w xl) (hxG : zac xm xo r w xl) (xa : Nat → Nat → Nat) (hrx : ∀ g, ∃ l', FL (H.set b (fl (zah l zo zl r c g))) X l' ∧ l'.length = xm ∧ ∀ i j, i < r → j < w → mel l' xo xl i j = xa i j) (px : Bool) (hpx : ∀ g N, 0 < l.length → 0 < xm → ptrEq (H.set b (fl (zah l zo zl r c g)) ++ N) (.slm b l.length 0 l.length 1) 0 X 0 = some px) (lox hix : Int) (hinx : InS xo r w xl lox hix) (hfx : zfk px lo hi lox hix) (Y : AV) (hY : mx Y ≤ H.length) (ym : Nat) (yo yl : Int) (hyI : MI ym yo w c yl) (hyG : zac ym yo w c yl) (ya : Nat → Nat → Nat) (hry : ∀ g, ∃ l', FL (H.set b (fl (zah l zo zl r c g))) Y l' ∧ l'.length = ym ∧ ∀ i j, i < w → j < c → mel l' yo yl i j = ya i j) (py : Bool) (hpy : ∀ g N, 0 < l.length → 0 < ym → ptrEq (H.set b (fl (zah l zo zl r c g)) ++ N) (.slm b l.length 0 l.length 1) 0 Y 0 = some py) (loy hiy : Int) (hiny : InS yo w c yl loy hiy) (hfy : zfk py lo hi loy hiy) (g : Nat → Nat → Nat) (N : List (List AV)) : zaa Try.prog 59 [mt X xo (r : Int) (w : Int) xl, mt Y yo (w : Int) (c : Int) yl, mt (.slm b l.length 0 l.length 1) zo (r : Int) (c : Int) zl] (H.set b (fl (zah l zo zl r c g)) ++ N) (.int .i64 0) (H.set b (fl (zah l zo zl r c g)) ++ N) := by
  have hs : ∀ Z, (H ++ N).set b Z = H.set b Z ++ N := fun Z => za9 hbl
  have h := ztu (H ++ N) b l (by simp; omega) zo zl r c hzI hzG lo hi hin w X (by simp; omega) xm xo xl hxI hxG xa (fun g => by obtain ⟨l', h1, h2⟩ := hrx g; rw [hs]; exact ⟨l', h1.app N, h2⟩) px (fun g N' => by rw [hs, List.append_assoc]; exact hpx g (N ++ N')) lox hix hinx hfx Y (by simp; omega) ym yo yl hyI hyG ya (fun g => by obtain ⟨l', h1, h2⟩ := hry g; rw [hs]; exact ⟨l', h1.app N, h2⟩) py (fun g N' => by rw [hs, List.append_assoc]; exact hpy g (N ++ N')) loy hiy hiny hfy g
  rwa [hs] at h
theorem z0b (H : List (List AV)) (b : Nat) (l : List Nat) (hbl : b < H.length) (zo zl : Int) (r c : Nat) (hzI : MI l.length zo r c zl) (hzG : zac l.length zo r c zl) (lo hi : Int) (hin : InS zo r c zl lo hi) (w : Nat) (X : AV) (hX : mx X ≤ H.length) (xm : Nat) (xo xl : Int) (hxI : MI xm xo r w xl) (hxG : zac xm xo r w xl) (xa : Nat → Nat → Nat) (hrx : ∀ g, ∃ l', FL (H.set b (fl (zah l zo zl r c g))) X l' ∧ l'.length = xm ∧ ∀ i j, i < r → j < w → mel l' xo xl i j = xa i j) (px : Bool) (hpx : ∀ g N, 0 < l.length → 0 < xm → ptrEq (H.set b (fl (zah l zo zl r c g)) ++ N) (.slm b l.length 0 l.length 1) 0 X 0 = some px) (lox hix : Int) (hinx : InS xo r w xl lox hix) (hfx : zfk px lo hi lox hix) (Y : AV) (hY : mx Y ≤ H.length) (ym : Nat) (yo yl : Int) (hyI : MI ym yo w c yl) (hyG : zac ym yo w c yl) (ya : Nat → Nat → Nat) (hry : ∀ g, ∃ l', FL (H.set b (fl (zah l zo zl r c g))) Y l' ∧ l'.length = ym ∧ ∀ i j, i < w → j < c → mel l' yo yl i j = ya i j) (py : Bool) (hpy : ∀ g N, 0 < l.length → 0 < ym → ptrEq (H.set b (fl (zah l zo zl r c g)) ++ N) (.slm b l.length 0 l.length 1) 0 Y 0 = some py) (loy hiy : Int) (hiny : InS yo w c yl loy hiy) (hfy : zfk py lo hi loy hiy) (A B : Nat) (g : Nat → Nat → Nat) :
    zaa Try.prog 31 [.flt A, mt X xo (r : Int) (w : Int) xl, mt Y yo (w : Int) (c : Int) yl, .flt B, mt (.slm b l.length 0 l.length 1) zo (r : Int) (c : Int) zl] (H.set b (fl (zah l zo zl r c g))) (.int .i64 0) (H.set b (fl (zah l zo zl r c (gmR A B xa ya w g)))) := by
  obtain ⟨hm, ho1, ho2, hr1, hr2, hc1, hc2, hl1, hl2⟩ := id hzI
  obtain ⟨xm1, xo1, xo2, xr1, xr2, xc1, xc2, xl1, xl2⟩ := id hxI
  obtain ⟨ym1, yo1, yo2, yr1, yr2, yc1, yc2, yl1, yl2⟩ := id hyI
  have hXl : slen X = some xm := by (obtain ⟨l', h1, h2, _⟩ := hrx g; rw [← h2]; exact h1.len)
  have hYl : slen Y = some ym := by (obtain ⟨l', h1, h2, _⟩ := hry g; rw [← h2]; exact h1.len)
  have hsm : ∀ g1 g2 : Nat → Nat → Nat, (∀ i j, i < r → j < c → g1 i j = g2 i j) → (zah l zo zl r c g1) = (zah l zo zl r c g2) := fun g1 g2 h => zam hzG.2.2.2.1 hzG.2.2.1 h
  have hE : r = 0 → (zah l zo zl r c (gmR A B xa ya w g)) = (zah l zo zl r c g) := fun h => hsm _ _ (by omega)
  have hA : (zah l zo zl r c (wrC g (gmR A B xa ya w g) 0)) = (zah l zo zl r c g) := hsm _ _ fun i j _ _ => zhc i j
  have hZ : (zah l zo zl r c (wrC g (gmR A B xa ya w g) c)) = (zah l zo zl r c (gmR A B xa ya w g)) := hsm _ _ fun i j _ hj => zj6 hj
  have hst : ∀ j, j < c → (zah l zo zl r c (zed (wrC g (gmR A B xa ya w g) j) 0 r j (fun i => gmS A (xa i) (fun k => ya k j) (gmB B ((wrC g (gmR A B xa ya w g) j) i j)) w))) = (zah l zo zl r c (wrC g (gmR A B xa ya w g) (j + 1))) := fun j hj => hsm _ _ fun i j' hi _ => zj7 (n := r) (fun i hi => by rw [if_pos ⟨by omega, by omega⟩, zvz]; rfl) i j' hi
  refine .go Try.call31 Try.func31 false [] dOk ?_
  simp only [zbp, Nat.reduceAdd]
  repeat' (first
 |(refine za4 ?_; (first | refine zcm ?_ | refine zay ?_ | refine m13 ?_ | refine m12 ?_ | refine m11 ?_ | (refine m10 ?_; (first | refine zci ?_ | refine zcd ?_ | refine zch ?_ | refine zce ?_ | refine zcg ?_ ?_ | refine zcf ?_ ?_ | refine zcc ?_ ?_ | refine zcb ?_ ?_ | fail)) | (refine m09 ?_; (first | refine zci ?_ | refine zcd ?_ | refine zch ?_ | refine zce ?_ | refine zcg ?_ ?_ | refine zcf ?_ ?_ | refine zcc ?_ ?_ | refine zcb ?_ ?_ | fail)) | refine m38 ?_ | fail))
 |(refine za5 ?_; (first | refine m41 ?_ | refine zbj ?_ | refine m14 ?_ | (refine m17 ?_; first | refine m19 ?_ | refine m18 ?_) | (refine m07 ?_; (first | refine m15 ?_ | refine m16 ?_ | fail)) | (refine m45 ?_; (first | refine zbk ((k + 1 : Nat) : Int) (by omega) (by omega) ?_ | refine zeg (by exact rfl) ?_ | refine v_k ?_ | fail)) | (refine m00 ?_; (first | refine zbk ((k + 1 : Nat) : Int) (by omega) (by omega) ?_ | refine m52 ?_ | refine m53 ?_ | refine zgv ?_ | refine m54 ?_ | refine m55 ?_ | refine zck ?_ | refine m47 ?_ | refine m48 ?_ | refine m49 ?_ | refine m50 ?_ | refine v_k ?_ | refine m51 ?_ | fail)) | (refine m22 ?_; (first | refine m26 ?_ | refine m27 ?_ | fail)) | refine m42 ?_ | refine zad ?_ | refine zae ?_ | refine m08 ?_ | refine zao ?_ | refine m01 ?_ | fail))
 |(refine zcv ?_; (first | refine m36 ?_ | refine zct ?_ | refine m32 ?_ | refine m31 ?_ | refine m30 ?_ | (refine m28 ?_; (first | refine zca ?_ | refine zb5 ?_ | refine zb9 ?_ | refine zb6 ?_ | refine zb8 ?_ ?_ | refine zb7 ?_ ?_ | refine zb4 ?_ ?_ | refine zb3 ?_ ?_ | fail)) | (refine m29 ?_; (first | refine zca ?_ | refine zb5 ?_ | refine zb9 ?_ | refine zb6 ?_ | refine zb8 ?_ ?_ | refine zb7 ?_ ?_ | refine zb4 ?_ ?_ | refine zb3 ?_ ?_ | fail)) | refine m37 ?_ | fail))
 |(refine zcu ?_; (first | refine zfe ?_ | refine zh6 ?_ | refine zh7 (by (conv => {lhs; whnf}); done) ?_ | refine zh8 ?_ | refine zh5 (by exact rfl) (by exact rfl) ?_ | refine m34 ?_ | refine m35 ?_ | refine m33 ?_ | refine zff ?_ | refine m56 ?_ | refine zcw ?_ | refine zdr (by exact rfl) ?_ | fail))
 |refine za2 ?_ | refine za3 ?_ | refine za1 ?_
 |(refine za6 ?_; (first | refine za0 ?_ | refine zab ?_ | (refine m06 ?_; (first | refine c_T ?_ | refine c_F ?_ | refine c_P ?_ ?_ | refine c_B ?_ ?_ | fail)) | refine zaz ?_ | refine zaq ?_ | refine zai ?_ | refine b_exit ?_ | refine zax (id := 7) [] [9] [(0, .lt), (1, .ld true), (2, .ld true), (3, .lt), (5, .lt), (6, .ld true), (7, .lt), (4, .mn true), (8, .mn true), (9, .mn false)] (by kernel_rfl) ?_ | (refine zbc [0, 3, 6, 7, 9, 26, 27] c (fun k => ⟨[(0, .val (.flt A)), (3, .val (.flt B)), (6, .loc 6 0), (7, .loc 7 0), (9, .loc 9 0), (26, .val (.int .i64 ((c : Nat) : Int))), (27, .val (.int .i64 ((k : Nat) : Int)))], [(6, [X, .int .i64 xo, .int .i64 (r : Int), .int .i64 (w : Int), .int .i64 xl]), (7, [Y, .int .i64 yo, .int .i64 (w : Int), .int .i64 (c : Int), .int .i64 yl]), (9, [(.slm b l.length 0 l.length 1), .int .i64 zo, .int .i64 (r : Int), .int .i64 (c : Int), .int .i64 zl])], H.set b (fl (zah l zo zl r c (wrC g (gmR A B xa ya w g) k))) ++ []⟩) (by simp only [hA]; exact rfl) ?_ ?_ <;> (first | intro k hk K hK | intro K) <;> (try dsimp only at *)) | fail))
 |refine m21 ?_
 |refine zbb ?_
 |(refine zbd ?_; (first | refine cA (ztv H b l hbl zo zl r c hzI hzG lo hi hin w X hX xm xo xl hxI hxG xa hrx px hpx lox hix hinx hfx Y hY ym yo yl hyI hyG ya hry py hpy loy hiy hiny hfy g _) ?_ | refine cA (zgk _ _ Y ym yo yl w c hyI hyG ((hry _).imp fun l' h => ⟨h.1, h.2.1⟩) k (by omega)) ?_ | refine cA (zgk _ _ (.slm b l.length 0 l.length 1) l.length zo zl r c hzI hzG (zyq H b l hbl zo zl r c _) k (by omega)) ?_ | refine c_call (zw8 H b l hbl zo zl r c hzI hzG lo hi hin w X hX xm xo xl hxI hxG xa hrx px hpx lox hix hinx hfx Y hY ym yo yl hyI hyG ya hry py hpy loy hiy hiny hfy A B _ [] k (by omega) (by omega)) (za7.set2 hbl (by simp) (by rw [zbs]; omega)) ?_ | fail))
 |refine zbz ?_ | refine zb0 ?_ | refine zby ?_ | refine m57 ?_
 |refine zfn ?_ | refine zfo ?_ | refine zfm ?_
 |(refine zfp (by exact rfl) ?_; first | exact hK | (rw [hst k (by omega)]; exact hK) | (exfalso; first | omega | (simp_all; done) | (simp_all; omega)))
 |refine m05 ?_
 |refine m04 ?_ | refine m02 ?_ | refine m03 ?_ | refine zar ?_
 |intro _)
  all_goals first
    | (exfalso; contradiction)
    | (exfalso; omega)
    | (refine zan (by simp) (by simp [mx, mxL, zaf, aOf, zb1]) ?_; exact rfl)
    | (rw [hE (by omega)]; refine zan (by simp) (by simp [mx, mxL, zaf, aOf, zb1]) ?_; exact rfl)
    | (rw [← hZ]; refine zan (by simp) (by simp [mx, mxL, zaf, aOf, zb1]) ?_; exact rfl)
end Go.Sx
set_option linter.unusedVariables false
set_option linter.unusedSimpArgs false
namespace Go.Sx
theorem SRepG.bare {P : Program} {w : World} {g : Gh} {H : List (List AV)} (hw : WRep w g H) (a : Act) (hd : a.defers = []) (hs : a.tmps.size = 0) :
    SRepG ⟨P, ⟨false, 0, []⟩, w, g, H, 0⟩ ⟨[], [], H⟩ a w g (fun _ => 0) where
  wr := hw
  si := Since.refl hw
  lr := ⟨fun key cs h => by simp [lk] at h, fun key key' h => by simp [lk] at h⟩
  env := fun t e h => by simp [lk] at h
  defs := hd
  size := hs
  n0 := Nat.zero_le _
  om := fun id cs h => by simp at h
theorem zf2 (d : Array Int) (off : Nat) (c : Array Value) : (Sort.putCells (Value.int .i64) off d c).size = c.size := by simp [Sort.putCells]
theorem zk9 {d : Array Int} {off k : Nat} {c : Array Value} (hk : k < d.size) (hc : off + k < c.size) : (Sort.putCells (Value.int .i64) off d c)[off + k]? = some (.int .i64 d[k]!) := by
  simp [Sort.putCells, hc, hk]
theorem zld {w : World} {g : Gh} {H : List (List AV)} {id b δ n : Nat} {zs ys : List Int} {os : Array Obj} (hw : WRep w g H) (hid : H[id]? = some (il zs)) (hcur : g.ρ id zs.length = some (b, δ)) (hlen : ys.length = zs.length) :
    ∃ g', WRep (Sort.grow (Sort.putRow (Value.int .i64) (Sort.ahead w n) b δ ys.toArray) os) g' (H.set id (il ys)) ∧
      Since w g H (Sort.grow (Sort.putRow (Value.int .i64) (Sort.ahead w n) b δ ys.toArray) os) g' (H.set id (il ys)) ∧
      g'.ρ id zs.length = some (b, δ) ∧ Ext w g (Sort.grow (Sort.putRow (Value.int .i64) (Sort.ahead w n) b δ ys.toArray) os) g' := by
  generalize hw' : Sort.grow (Sort.putRow (Value.int .i64) (Sort.ahead w n) b δ ys.toArray) os = w'
  obtain ⟨b₀, δ₀, c, e, k1, k2, k3, k4, k5, k6⟩ := hw.blk id _ hid
  rw [zgn, hcur] at k1; simp only [Option.some.injEq, Prod.mk.injEq] at k1; obtain ⟨rfl, rfl⟩ := k1
  have hblt : b < w.heap.size := (Array.getElem?_eq_some_iff.1 k2).1
  have hheap : w'.heap = w.heap.modify b (Sort.onCells (Sort.putCells (Value.int .i64) δ ys.toArray)) ++ os := by subst hw'; rfl
  have hget : ∀ k, k < w.heap.size → w'.heap[k]? = if b = k then (w.heap[k]?).map (Sort.onCells (Sort.putCells (Value.int .i64) δ ys.toArray)) else w.heap[k]? := by
    intro k hk
    rw [hheap, Array.getElem?_append_left (by simpa using hk), Array.getElem?_modify]
  have hb' : w'.heap[b]? = some (.cells (Sort.putCells (Value.int .i64) δ ys.toArray c) e (0, 0)) := by
    rw [hget b hblt, if_pos rfl, k2]; rfl
  have hk : ∀ k, k < w.heap.size → k ≠ b → w'.heap[k]? = w.heap[k]? := fun k hk hn => by rw [hget k hk, if_neg (Ne.symm hn)]
  have hsz : w.heap.size ≤ w'.heap.size := by rw [hheap]; simp
  have hv : zgz w g (il ys) (Sort.putCells (Value.int .i64) δ ys.toArray c) δ := by
    intro i cv hi
    have hlt : i < ys.length := by have := (List.getElem?_eq_some_iff.1 hi).1; simpa using this
    rw [zku hlt] at hi
    simp only [Option.some.injEq] at hi; subst hi
    refine ⟨.int .i64 (ys.getD i 0), ?_, rfl, by simp [zaj]⟩
    rw [zk9 (by simpa using hlt) (by rw [zgn] at k3; omega)]
    congr 2
    simp [List.getD, hlt, getElem!_def]
  have hfr : ∀ a : Addr, a.block = b → w'.frozen? a = w.frozen? a := by
    intro a ha
    simp only [World.frozen?, ha, hb', k2]
  have h := (SRepG.bare (P := default) hw ⟨#[], []⟩ rfl rfl).repl (id := id) (cs := il zs) (cs' := il ys) (b := b) (δ := δ) (b' := b) (δ' := δ) (e := e) hid (by rw [zgn]; exact hcur) (by simp [hlen]) (.inl (Nat.zero_le _))
    hsz hk (fun n hn => by simp only [bsz, hb', k2] at hn ⊢; rw [zf2]; exact hn) (fun o => hfr _ rfl) (by subst hw'; exact ⟨rfl, rfl, rfl⟩) hb' (.inl ⟨rfl, rfl⟩) hv (by rw [zf2, zgn, hlen]; rw [zgn] at k3; exact k3) hfr
  refine ⟨_, h.1.wr, h.1.si, ?_, h.2⟩
  simp [zir, hlen]
theorem zkt {w : World} {g : Gh} {H : List (List AV)} {id b δ : Nat} {zs : List Int} (hw : WRep w g H) (hid : H[id]? = some (il zs)) (hcur : g.ρ id zs.length = some (b, δ)) : Sort.Holds (Value.int .i64) w b δ zs.toArray := by
  obtain ⟨b₀, δ₀, c, e, k1, k2, k3, k4, k5, k6⟩ := hw.blk id _ hid
  rw [zgn, hcur] at k1; simp only [Option.some.injEq, Prod.mk.injEq] at k1; obtain ⟨rfl, rfl⟩ := k1
  intro j hj
  have hlt : j < zs.length := by simpa using hj
  rw [zdl] at k4
  obtain ⟨v, h1, h2, h3⟩ := k4 j _ (zku hlt)
  simp only [zaj] at h3
  refine ⟨?_, by simp [World.frozen?, k2]⟩
  rw [h1, h3]
  simp [List.getD, hlt, getElem!_def]
theorem zuo {P : Program} {f : Nat} {zs ys : List Int} (hlen : ys.length = zs.length) {H : List (List AV)} {id : Nat} (hid : H[id]? = some (il zs))
    (h : ∀ (b off cap : Nat) (w : World), Sort.Holds (Value.int .i64) w b off zs.toArray → b < w.heap.size → zs.length ≤ cap → Calls P f #[.slice (some ⟨b, off, none⟩) zs.length cap] w fun e w' =>
      e = .returned (.tuple #[]) ∧ ∃ n os, w' = Sort.grow (Sort.putRow (Value.int .i64) (Sort.ahead w n) b off ys.toArray) os) :
    Spec P f [.slm id zs.length 0 zs.length 1] H (.tup []) (H.set id (il ys)) := by
  intro w g cargs hw ha
  simp only [zba, zaj] at ha
  obtain ⟨v, rest, hc, ⟨b, δ, cap, n, hr, rfl, h1, h2, h3, h4⟩, rfl⟩ := ha
  obtain rfl : cargs = #[.slice (some ⟨b, δ + 0, none⟩) zs.length cap] := Array.toList_inj.1 (by simpa using hc)
  rw [Nat.add_zero]
  refine (h b δ cap w (zkt hw hid hr) (zij h3) h1).mono ?_
  rintro e w' ⟨rfl, n', os, rfl⟩
  obtain ⟨g', k1, k2, _, _⟩ := zld (n := n') (os := os) hw hid hr hlen
  exact ⟨.tuple #[], g', rfl, k1, k2, by simp [zaj, zba]⟩
theorem zun {P : Program} {f : Nat} {zs ys : List Int} {m : Nat} (hlen : ys.length = zs.length) (hm : m ≤ zs.length) {H : List (List AV)} {id : Nat} (hid : H[id]? = some (il zs))
    (h : ∀ (b off cap : Nat) (w : World), Sort.Holds (Value.int .i64) w b off zs.toArray → b < w.heap.size → zs.length ≤ cap → Calls P f #[.slice (some ⟨b, off, none⟩) zs.length cap] w fun e w' =>
      e = .returned (.slice (some ⟨b, off, none⟩) m cap) ∧ ∃ q, w' = Sort.putRow (Value.int .i64) (Sort.ahead w q) b off ys.toArray) :
    Spec P f [.slm id zs.length 0 zs.length 1] H (.slm id zs.length 0 m 1) (H.set id (il ys)) := by
  intro w g cargs hw ha
  simp only [zba, zaj] at ha
  obtain ⟨v, rest, hc, ⟨b, δ, cap, n, hr, rfl, h1, h2, h3, h4⟩, rfl⟩ := ha
  obtain rfl : cargs = #[.slice (some ⟨b, δ + 0, none⟩) zs.length cap] := Array.toList_inj.1 (by simpa using hc)
  rw [Nat.add_zero]
  refine (h b δ cap w (zkt hw hid hr) (zij h3) h1).mono ?_
  rintro e w' ⟨rfl, q, rfl⟩
  obtain ⟨g', k1, k2, k3, k5⟩ := zld (n := q) (os := #[]) hw hid hr hlen
  rw [Sort.grow_empty] at k1 k2 k5
  refine ⟨_, g', rfl, k1, k2, ?_⟩
  simp only [zaj]
  exact ⟨b, δ, cap, n, k3, by rw [Nat.add_zero], by omega, by omega, k5.bsz b n h3, h4⟩
end Go.Sx
/- The kit's contracts of slices.Sort and slices.Compact over []int, laid at this program by the kit's lay-shelf.mjs and lay-plain.mjs. No condition is set. -/
namespace Go.Proofs
open Go.Shelf
def Try.lays189_ren : Go.Shelf.Ren := ⟨fun | 189 => 70 | 125 => 91 | 257 => 90 | 128 => 109 | 129 => 110 | 294 => 100 | 295 => 101 | 296 => 102 | 297 => 103 | 298 => 104 | 299 => 105 | 216 => 106 | 300 => 107 | 301 => 108 | 328 => 115 | 329 => 116 | 330 => 117 | 331 => 118 | 332 => 119 | 215 => 120 | 343 => 122 | n => n, fun | 28 => 52 | 3 => 3 | 46 => 120 | 0 => 0 | 51 => 147 | 53 => 103 | 4 => 4 | 183 => 140 | 182 => 139 | 131 => 113 | 5 => 5 | 9 => 9 | 218 => 152 | 222 => 156 | 228 => 160 | 229 => 47 | n => n, fun | n => n⟩
theorem Try.lays189 : Go.Proofs.Lays.n189 Try.prog Try.lays189_ren := {
  mixed := by kernel_rfl
  f125 := Try.func91.trans (congrArg some (by kernel_rfl))
  f128 := Try.func109.trans (congrArg some (by kernel_rfl))
  f129 := Try.func110.trans (congrArg some (by kernel_rfl))
  f189 := Try.func70.trans (congrArg some (by kernel_rfl))
  f215 := Try.func120.trans (congrArg some (by kernel_rfl))
  f216 := Try.func106.trans (congrArg some (by kernel_rfl))
  f257 := Try.func90.trans (congrArg some (by kernel_rfl))
  f294 := Try.func100.trans (congrArg some (by kernel_rfl))
  f295 := Try.func101.trans (congrArg some (by kernel_rfl))
  f296 := Try.func102.trans (congrArg some (by kernel_rfl))
  f297 := Try.func103.trans (congrArg some (by kernel_rfl))
  f298 := Try.func104.trans (congrArg some (by kernel_rfl))
  f299 := Try.func105.trans (congrArg some (by kernel_rfl))
  f300 := Try.func107.trans (congrArg some (by kernel_rfl))
  f301 := Try.func108.trans (congrArg some (by kernel_rfl))
  f328 := Try.func115.trans (congrArg some (by kernel_rfl))
  f329 := Try.func116.trans (congrArg some (by kernel_rfl))
  f330 := Try.func117.trans (congrArg some (by kernel_rfl))
  f331 := Try.func118.trans (congrArg some (by kernel_rfl))
  f332 := Try.func119.trans (congrArg some (by kernel_rfl))
  f343 := Try.func122.trans (congrArg some (by kernel_rfl))
  t0 := Try.underlying0
  a0 := Try.isAgg0
  z0 := Try.sizeOf0
  v0 := Try.zeroValue0
  t3 := Try.underlying3
  a3 := Try.isAgg3
  z3 := Try.sizeOf3
  v3 := Try.zeroValue3
  t4 := Try.underlying4
  a4 := Try.isAgg4
  z4 := Try.sizeOf4
  v4 := Try.zeroValue4
  t5 := Try.underlying5
  a5 := Try.isAgg5
  z5 := Try.sizeOf5
  v5 := Try.zeroValue5
  t9 := Try.underlying9
  a9 := Try.isAgg9
  z9 := Try.sizeOf9
  v9 := Try.zeroValue9
  t28 := Try.underlying52
  a28 := Try.isAgg52
  z28 := Try.sizeOf52
  v28 := Try.zeroValue52
  t46 := Try.underlying120
  a46 := Try.isAgg120
  z46 := Try.sizeOf120
  v46 := Try.zeroValue120
  t51 := Try.underlying147
  a51 := Try.isAgg147
  z51 := Try.sizeOf147
  v51 := Try.zeroValue147
  t53 := Try.underlying103
  a53 := Try.isAgg103
  z53 := Try.sizeOf103
  v53 := Try.zeroValue103
  t131 := Try.underlying113
  a131 := Try.isAgg113
  z131 := Try.sizeOf113
  v131 := Try.zeroValue113
  t182 := Try.underlying139
  a182 := Try.isAgg139
  z182 := Try.sizeOf139
  v182 := Try.zeroValue139
  t183 := Try.underlying140
  a183 := Try.isAgg140
  z183 := Try.sizeOf140
  v183 := Try.zeroValue140
  t218 := Try.underlying152
  a218 := Try.isAgg152
  z218 := Try.sizeOf152
  v218 := Try.zeroValue152
  t222 := Try.underlying156
  a222 := Try.isAgg156
  z222 := Try.sizeOf156
  v222 := Try.zeroValue156
  t228 := Try.underlying160
  a228 := Try.isAgg160
  z228 := Try.sizeOf160
  v228 := Try.zeroValue160
  t229 := Try.underlying47
  a229 := Try.isAgg47
  z229 := Try.sizeOf47
  v229 := Try.zeroValue47 }
open Go.Sort Go.RowKit in
theorem Try.slices_Sort_int (blk off cap : Nat) (zs : List Int) (w : World) (hH : Holds (Value.int .i64) w blk off zs.toArray) (hblk : blk < w.heap.size) (hsz : zs.length < 4611686018427387904) :
    Calls Try.prog 70 #[.slice (some ⟨blk, off, none⟩) zs.length cap] w fun e w' =>
      e = .returned (.tuple #[]) ∧ ∃ n os, w' = grow (putRow (Value.int .i64) (Sort.ahead w n) blk off (zs.mergeSort fun x y => decide (x ≤ y)).toArray) os := Any.slices_Sort_int Try.lays189 blk off cap zs w hH hblk hsz
def Try.laysNm220_ren : Go.Shelf.Ren := ⟨fun | 20 => 71 | n => n, fun | 22 => 52 | 3 => 3 | 4 => 4 | 0 => 0 | n => n, fun | n => n⟩
theorem Try.laysNm220 : Go.Proofs.Lays2.n20 Try.prog Try.laysNm220_ren := {
  mixed := by kernel_rfl
  f20 := Try.func71.trans (congrArg some (by kernel_rfl))
  t0 := Try.underlying0
  a0 := Try.isAgg0
  z0 := Try.sizeOf0
  v0 := Try.zeroValue0
  t3 := Try.underlying3
  a3 := Try.isAgg3
  z3 := Try.sizeOf3
  v3 := Try.zeroValue3
  t4 := Try.underlying4
  a4 := Try.isAgg4
  z4 := Try.sizeOf4
  v4 := Try.zeroValue4
  t22 := Try.underlying52
  a22 := Try.isAgg52
  z22 := Try.sizeOf52
  v22 := Try.zeroValue52
  i3 := by kernel_rfl }
open Go.RowKit Go.Lib Go.Sort in
theorem Try.slices_Compact_int (blk off cap : Nat) (zs : List Int) (w : World) (hH : Holds (Value.int .i64) w blk off zs.toArray) (hsz : zs.length ≤ 9223372036854775807) (hcap : zs.length ≤ cap) :
    Calls Try.prog 71 #[.slice (some ⟨blk, off, none⟩) zs.length cap] w fun e w' => e = .returned (.slice (some ⟨blk, off, none⟩) (Lib.compact zs).length cap) ∧ ∃ q, w' = putRow (Value.int .i64) (Sort.ahead w q) blk off (Lib.compact zs ++ List.replicate (zs.length - (Lib.compact zs).length) 0).toArray := Any.slices_Compact_int Try.laysNm220 blk off cap zs w hH hsz hcap
end Go.Proofs
set_option linter.unusedVariables false
set_option linter.unusedSimpArgs false
namespace Go.Sx
open Go.Proofs
theorem sort_c {H H' : List (List AV)} {id n : Nat} {zs : List Int} (hid : H[id]? = some (il zs)) (hn : zs.length = n) (hsz : zs.length < 4611686018427387904) (hH : H.set id (il (srt zs)) = H') : zaa Try.prog 70 [.slm id n 0 n 1] H (.tup []) H' := by
  subst hH hn
  exact .inl ⟨fun args w => Try.call70 args w, zuo (zmm zs) hid fun b off cap w hH hb hc => Try.slices_Sort_int b off cap zs w hH hb hsz⟩
theorem compact_c {H H' : List (List AV)} {id n : Nat} {zs : List Int} (hid : H[id]? = some (il zs)) (hn : zs.length = n) (hsz : zs.length ≤ 9223372036854775807) (hH : H.set id (il (Lib.compact zs ++ List.replicate (zs.length - (Lib.compact zs).length) 0)) = H') :
    zaa Try.prog 71 [.slm id n 0 n 1] H (.slm id n 0 (Lib.compact zs).length 1) H' := by
  subst hH hn
  have hl := zib zs
  refine .inl ⟨fun args w => Try.call71 args w, zun (by simp; omega) hl hid fun b off cap w hH hb hc => ?_⟩
  exact Try.slices_Compact_int b off cap zs w hH hsz hc
end Go.Sx
set_option linter.unusedVariables false
set_option linter.unusedSimpArgs false
set_option linter.unusedSectionVars false
set_option maxRecDepth 20000
namespace Go.Sx
open Go.Proofs
instance : ArrI Try.prog 76 .i64 := ⟨⟨3, by kernel_rfl, by kernel_rfl, by kernel_rfl⟩, by kernel_rfl, by kernel_rfl⟩
section
attribute [local irreducible] Ex zau exD opX opE zdh zfd zfl Spec zaa Fr zdg zbf zbe ckK zcq zda zbo faK zcz ze4 gK fK rK zgd lpX prK
theorem zjh :
    (∀ (H : List (List AV)) (P : AV) (more : List Int) (hP : IL H P more) (hml : more.length ≤ 1000) (n size : Int) (hn : -9223372036854775808 ≤ n ∧ n ≤ 9223372036854775807) (hs : -9223372036854775808 ≤ size ∧ size ≤ 9223372036854775807) (hbad : n < 1 ∨ 4096 < n ∨ size < 1), zaa Try.prog 53 [.int .i64 n, .int .i64 size, P] H (.sl none 0 (pl2 [])) H) ∧
    (∀ (H : List (List AV)) (P : AV) (more : List Int) (hP : IL H P more) (hml : more.length ≤ 1000) (n m : Nat) (size : Int) (hn1 : 1 ≤ n) (hn4 : n ≤ 4096) (hs1 : 1 ≤ size) (hs2 : size ≤ 9223372036854775807) (hmin : min size (n : Int) = (m : Int)), zaa Try.prog 53 [.int .i64 (n : Int), .int .i64 size, P] H (.sl none ((dL n m more).length - 1) (pl2 (zka (dL n m more)))) H) := by
  refine ⟨?_, ?_⟩
  (intro H P more hP hml n size hn hs hbad
   refine .go Try.call53 Try.func53 false [] dOk ?_
   simp only [zbp, Nat.reduceAdd])
  rotate_left
  (intro H P more hP hml n m size hn1 hn4 hs1 hs2 hmin
   have hm0 : 0 < m := by omega
   have hmn : m ≤ n := by omega
   have hK := fun i => @z5d n m i hm0
   have hKn := K_le (n := n) hm0
   have hPl := hP.len
   obtain ⟨hd2, hdz, hdb, hds⟩ := zja (n := n) (m := m) hm0 (by omega) more
   have hcl : ∀ j, (cM n m ((n + m - 1) / m) more j).length ≤ 4096 + 1 + 1000 := fun j => by have := zpj n m ((n + m - 1) / m) more j; omega
   have hok : ∀ j, j < more.length → (0 ≤ more.getD j 0 ∧ more.getD j 0 ≤ n) → (cM n m ((n + m - 1) / m) more (j + 1)) = (cM n m ((n + m - 1) / m) more j) ++ [more.getD j 0] := fun j hj h => z2w hj h
   have hno : ∀ j, j < more.length → ¬ (0 ≤ more.getD j 0 ∧ more.getD j 0 ≤ n) → (cM n m ((n + m - 1) / m) more (j + 1)) = (cM n m ((n + m - 1) / m) more j) := fun j hj h => z2v hj h
   have hc0 : cI n m ((n + m - 1) / m) = (cM n m ((n + m - 1) / m) more 0) := (zwh n m ((n + m - 1) / m) more).symm
   have hzl := hcl more.length
   have hsz : (srt (cM n m ((n + m - 1) / m) more more.length)).length = (cM n m ((n + m - 1) / m) more more.length).length := zmm _
   have hkm : ∀ k, k < ((n + m - 1) / m) → k * m < n := fun k hk => (hK k).1 hk
   have hkm' : ∀ k, k < ((n + m - 1) / m) → (k + 1) * m = k * m + m := fun k hk => by rw [Nat.add_mul, Nat.one_mul]
   have hK9 : ¬ ((n + m - 1) / m) * m < n := fun h => absurd ((hK _).2 h) (by omega)
   have hlk : ∀ k, k < (dL n m more).length → (il ((dL n m more) ++ List.replicate ((srt (cM n m ((n + m - 1) / m) more more.length)).length - (dL n m more).length) 0))[0 + k]? = some (.int .i64 ((dL n m more).getD k 0)) := fun k hk => by rw [Nat.zero_add]; exact zio hk
   have hlk1 : ∀ k, k + 1 < (dL n m more).length → (il ((dL n m more) ++ List.replicate ((srt (cM n m ((n + m - 1) / m) more more.length)).length - (dL n m more).length) 0))[1 + k]? = some (.int .i64 ((dL n m more).getD (k + 1) 0)) := fun k hk => by rw [Nat.add_comm 1 k]; exact zio hk
   have hT9 : ((zka (dL n m more)).take ((dL n m more).length - 1)) = zka (dL n m more) := zur
   have hblk : (il ((dL n m more) ++ List.replicate ((srt (cM n m ((n + m - 1) / m) more more.length)).length - (dL n m more).length) 0)).length = (cM n m ((n + m - 1) / m) more more.length).length := by rw [zgn, List.length_append, List.length_replicate]; omega
   refine .go Try.call53 Try.func53 false [36, 53, 80] dOk ?_
   simp only [zbp, Nat.reduceAdd])
  rotate_left
  all_goals (repeat' (first
 |(refine za4 ?_; (first | refine zcm ?_ | refine zay ?_ | refine m13 ?_ | refine m12 ?_ | refine m11 ?_ | (refine m10 ?_; (first | refine zci ?_ | refine zcd ?_ | refine zch ?_ | refine zce ?_ | refine zcg ?_ ?_ | refine zcf ?_ ?_ | refine zcc ?_ ?_ | refine zcb ?_ ?_ | fail)) | (refine m09 ?_; (first | refine zci ?_ | refine zcd ?_ | refine zch ?_ | refine zce ?_ | refine zcg ?_ ?_ | refine zcf ?_ ?_ | refine zcc ?_ ?_ | refine zcb ?_ ?_ | fail)) | refine m38 ?_ | fail))
 |(refine za5 ?_; (first | refine m41 ?_ | refine zbj ?_ | refine m14 ?_ | (refine m07 ?_; (first | refine m15 ?_ | refine m16 ?_ | refine z3t (hP.app _) (by omega) ?_ | refine zqn (by exact rfl) (by exact rfl) hblk (by exact hlk k (by omega)) ?_ | refine zqn (by exact rfl) (by exact rfl) hblk (by exact hlk1 k (by omega)) ?_ | fail)) | refine zkf (i := 0) (g' := (cI n m (k + 1)).length) (q := (cI n m (k + 1)).length) (cs' := il (cI n m (k + 1))) (N' := [il (cI n m (k + 1))]) (by (conv => {lhs; whnf}); done) (by (conv => {lhs; whnf}); done) (by exact rfl) (by exact rfl) (zgu rfl) (by simp) (by exact rfl) (by simp; omega) (.inl (Nat.le_refl _)) (by exact rfl) (by exact zwg n m k) (by exact rfl) (by simp) (by simp) ?_ | refine zkf (i := 0) (g' := (cM n m ((n + m - 1) / m) more (k + 1)).length) (q := (cM n m ((n + m - 1) / m) more (k + 1)).length) (cs' := il (cM n m ((n + m - 1) / m) more (k + 1))) (N' := [il (cM n m ((n + m - 1) / m) more (k + 1))]) (by (conv => {lhs; whnf}); done) (by (conv => {lhs; whnf}); done) (by exact rfl) (by exact rfl) (zgu rfl) (by simp) (by exact rfl) (by have := hcl k; omega) (.inl (Nat.le_refl _)) (by exact rfl) (by rw [hok k (by omega) (by omega)]; simp [il]) (by exact rfl) (by rw [hok k (by omega) (by omega)]; simp) (by rw [hok k (by omega) (by omega)]; simp) ?_ | refine zbm (by (conv => {lhs; whnf}); done) (by exact hPl) ?_ | refine zbm (by (conv => {lhs; whnf}); done) (by exact rfl) ?_ | refine zkg (by (conv => {lhs; whnf}); done) (by (conv => {lhs; whnf}); done) (by exact hPl) (by omega) ?_ | refine zsr (v' := .slm (H.length + 0) (cM n m ((n + m - 1) / m) more more.length).length 1 ((dL n m more).length - 1) 1) (n := (dL n m more).length) (l := 1) (q := (dL n m more).length) (by (conv => {lhs; whnf}); done) (by exact rfl) (by exact rfl) (by exact rfl) (by omega) (by simp [zsi]; omega) ?_ | refine zkg (by (conv => {lhs; whnf}); done) (by (conv => {lhs; whnf}); done) (by exact rfl) (by omega) ?_ | refine zy4 (by (conv => {lhs; whnf}); done) (by (conv => {lhs; whnf}); done) ?_ | refine zy5 (by (conv => {lhs; whnf}); done) (by exact rfl) ?_ | refine zwa (i := 1) (N₀ := [(il ((dL n m more) ++ List.replicate ((srt (cM n m ((n + m - 1) / m) more more.length)).length - (dL n m more).length) 0))]) (l := ((zka (dL n m more)).take k)) (l' := ((zka (dL n m more)).take (k + 1))) (p := ((dL n m more).getD k 0, (dL n m more).getD (k + 1) 0 - (dL n m more).getD k 0)) (by (conv => {lhs; whnf}); done) (by exact rfl) (by exact rfl) (by exact rfl) (by simp [zf1]; omega) (by omega) (by exact rfl) (by exact rfl) (by exact zus (by omega)) ?_ | refine zpa (by exact rfl) (by exact rfl) (by decide) (by exact rfl) (by (conv => {lhs; whnf}); done) ?_ | (refine m00 ?_; (first | refine v_T (by first | omega | (have := hkm k (by omega); omega) | fail) ?_ | refine v_F (by first | omega | (have := hK9; omega) | fail) ?_ | refine zbk (((k + 1) * m : Nat) : Int) (by have h1 := hkm k (by omega); have h2 := hkm' k (by omega); omega) (by have h2 := hkm' k (by omega); omega) ?_ | refine zbk ((k + 1 : Nat) : Int) (by omega) (by omega) ?_ | refine v_w (by have h1 := hdb k (by omega); have h2 := hdb (k + 1) (by omega); omega) ?_ | refine m47 ?_ | refine m48 ?_ | refine m49 ?_ | refine m50 ?_ | refine v_k ?_ | refine m51 ?_ | fail)) | (refine m22 ?_; (first | refine m26 ?_ | refine m27 ?_ | fail)) | refine m42 ?_ | refine zad ?_ | refine zae ?_ | refine m08 ?_ | refine zao ?_ | refine zbm (by (conv => {lhs; whnf}); done) (by first | rfl | assumption) ?_ | refine zco ?_ | refine zgg (by exact rfl) (by exact rfl) (by decide) ?_ | refine zu7 (by first | (conv => {lhs; whnf}; done) | exact (by exact rfl) | fail) (by first | (conv => {lhs; whnf}; done) | exact (by exact rfl) | fail) (by first | assumption | exact rfl) ?_ | fail))
 |(refine zcv ?_; (first | refine m36 ?_ | refine zct ?_ | refine m32 ?_ | refine m31 ?_ | refine m30 ?_ | (refine m28 ?_; (first | refine zca ?_ | refine zb5 ?_ | refine zb9 ?_ | refine zb6 ?_ | refine zb8 ?_ ?_ | refine zb7 ?_ ?_ | refine zb4 ?_ ?_ | refine zb3 ?_ ?_ | fail)) | (refine m29 ?_; (first | refine zca ?_ | refine zb5 ?_ | refine zb9 ?_ | refine zb6 ?_ | refine zb8 ?_ ?_ | refine zb7 ?_ ?_ | refine zb4 ?_ ?_ | refine zb3 ?_ ?_ | fail)) | refine m37 ?_ | fail))
 |(refine zcu ?_; (first | refine zfe ?_ | refine zh6 ?_ | refine zh7 (by (conv => {lhs; whnf}); done) ?_ | refine zh8 ?_ | refine zh5 (by exact rfl) (by exact rfl) ?_ | refine m34 ?_ | refine m35 ?_ | refine m33 ?_ | refine zff ?_ | refine m56 ?_ | refine zcw ?_ | refine zdr (by exact rfl) ?_ | fail))
 |refine za2 ?_ | refine za3 ?_ | refine za1 ?_
 |(refine za6 ?_; (first | refine za0 ?_ | refine zab ?_ | (refine m06 ?_; (first | refine c_T ?_ | refine c_F ?_ | refine c_P ?_ ?_ | refine c_B ?_ ?_ | fail)) | refine zaz ?_ | refine zaq ?_ | refine zai ?_ | refine b_exit ?_ | refine zax (id := 20) [] [13] [(0, .lt), (1, .lt), (2, .lt), (3, .lt), (4, .ld true), (5, .lt), (6, .lt), (7, .lt), (8, .lt), (9, .ld true), (10, .lt), (11, .lt), (12, .mn true), (13, .mn false), (14, .lt)] (by kernel_rfl) ?_ | refine zax (id := 20) [] [13] [(0, .lt), (1, .lt), (2, .lt), (3, .lt), (4, .ld true), (5, .lt), (6, .lt), (7, .lt), (8, .lt), (9, .ld true), (10, .lt), (11, .lt), (12, .fz), (13, .mn false), (14, .lt)] (by kernel_rfl) ?_ | (refine zbc [0, 1, 2, 7, 8] ((n + m - 1) / m) (fun k => ⟨[(0, .val (.int .i64 ((n : Nat) : Int))), (1, .val (.int .i64 size)), (2, .val P), (7, .val (.slm (H.length + 0) (cI n m k).length 0 (cI n m k).length 1)), (8, .val (.int .i64 ((k * m : Nat) : Int)))], [], H ++ [il (cI n m k)]⟩) (by first | exact (by exact rfl) | (simp only [Nat.zero_mul]; exact rfl)) ?_ ?_ <;> (first | intro k hk K hK | intro K) <;> (try dsimp only at *)) | (refine zbc [0, 7, 38, 39, 40] more.length (fun k => ⟨[(0, .val (.int .i64 ((n : Nat) : Int))), (7, .val (.slm (H.length + 0) (cM n m ((n + m - 1) / m) more k).length 0 (cM n m ((n + m - 1) / m) more k).length 1)), (38, .val P), (39, .val (.int .i64 ((more.length : Nat) : Int))), (40, .val (.int .i64 ((k : Nat) : Int)))], [], H ++ [il (cM n m ((n + m - 1) / m) more k)]⟩) (by simp only [← hc0]; exact rfl) ?_ ?_ <;> (first | intro k hk K hK | intro K) <;> (try dsimp only at *)) | (refine zbc [7, 11, 61, 62, 63] ((dL n m more).length - 1) (fun k => ⟨[(7, .val (.slm (H.length + 0) (cM n m ((n + m - 1) / m) more more.length).length 0 (dL n m more).length 1)), (11, .val (gV2 H.length 1 k)), (61, .val (.slm (H.length + 0) (cM n m ((n + m - 1) / m) more more.length).length 1 ((dL n m more).length - 1) 1)), (62, .val (.int .i64 (((dL n m more).length - 1 : Nat) : Int))), (63, .val (.int .i64 ((k : Nat) : Int)))], [], H ++ ([(il ((dL n m more) ++ List.replicate ((srt (cM n m ((n + m - 1) / m) more more.length)).length - (dL n m more).length) 0))] ++ gN (pl2 ((zka (dL n m more)).take k)))⟩) (by exact rfl) ?_ ?_ <;> (first | intro k hk K hK | intro K) <;> (try dsimp only at *)) | fail))
 |refine m21 ?_
 |refine zbb ?_
 |(refine zbd ?_; (first | refine cA (sort_c (H' := H ++ [il (srt (cM n m ((n + m - 1) / m) more more.length))]) (id := H.length + 0) (zs := (cM n m ((n + m - 1) / m) more more.length)) (zbg (by exact rfl) rfl) (by exact rfl) (by omega) (zea (N' := [il (srt (cM n m ((n + m - 1) / m) more more.length))]) (by exact rfl) rfl)) ?_ | refine cA (compact_c (H' := H ++ [(il ((dL n m more) ++ List.replicate ((srt (cM n m ((n + m - 1) / m) more more.length)).length - (dL n m more).length) 0))]) (id := H.length + 0) (zs := srt (cM n m ((n + m - 1) / m) more more.length)) (zbg (by exact rfl) rfl) hsz (by omega) (zea (N' := [(il ((dL n m more) ++ List.replicate ((srt (cM n m ((n + m - 1) / m) more more.length)).length - (dL n m more).length) 0))]) (by exact rfl) rfl)) ?_ | fail))
 |refine m58 ?_
 |refine zdu ?_
 |refine m44 ?_
 |refine m40 ?_
 |(refine zdq (by (conv => {lhs; simp only [List.nil_append, List.cons_append]}); done) ?_; first | refine ⟨by exact rfl, ?_⟩ | skip)
 |refine zd9 ?_
 |(intro N' hN'; simp only [List.nil_append, List.cons_append] at hN'; subst hN')
 |refine zbz ?_ | refine zb0 ?_ | refine zby ?_ | refine m57 ?_
 |refine zfn ?_ | refine zfo ?_ | refine zfm ?_
 |(refine zfp (by exact rfl) ?_; first | exact hK | (rw [hno k (by omega) (by omega)] at hK; exact hK) | (exfalso; first | omega | (simp_all; done) | (simp_all; omega)))
 |refine m05 ?_
 |refine m04 ?_ | refine m02 ?_ | refine m03 ?_ | refine zar ?_
 |(refine ⟨by simp [zt1], fun N' hN' => ?_⟩; simp only [List.nil_append, List.cons_append] at hN'; subst hN')
 |intro _))
  all_goals first
    | (exfalso; omega)
    | (refine zmi (A := H) (N := []) rfl ?_; exact Fr.nil)
    | (simp only [hT9]; refine zmi rfl ?_; exact zz0 (N₀ := [_]) (i := 1) rfl rfl (by simp [zf1]))
theorem z2u : type_of% @zjh.1 := @zjh.1
theorem z2t : type_of% @zjh.2 := @zjh.2
end
end Go.Sx
set_option linter.unusedVariables false
set_option linter.unusedSimpArgs false
set_option maxRecDepth 20000
namespace Go.Sx
open Go.Proofs
attribute [local irreducible] Ex zau exD opX opE zdh zfd zfl Spec zaa Fr zdg zbf zbe ckK zcq zda zbo faK zcz ze4 gK fK rK zgd lpX prK
theorem zhy {m : Nat} {o i : Int} {n : Nat} (h : zal m o n i) (hn : ¬ (n : Int) = 0) : 0 < m := by
  have h1 := zbv h (i := 0) (by omega) (by omega)
  omega
theorem zyk (H : List (List AV)) (n : Nat) (Da : AV) (ma : Nat) (hDa : slen Da = some ma) (hma : mx Da ≤ H.length) (oa ia : Int) (hIa : VI ma oa n ia) (hRa : zal ma oa n ia) (Db : AV) (mb : Nat) (hDb : slen Db = some mb) (hmb : mx Db ≤ H.length) (ob ib : Int) (hIb : VI mb ob n ib) (hRb : zal mb ob n ib) (hpe : 0 < ma → 0 < mb → ptrEq H Da 0 Db 0 = some false) :
    zaa Try.prog 99 [vt Da oa (n : Int) ia, vt Db ob (n : Int) ib] H (.bool false) H := by
  obtain ⟨an, ao1, ao2, an1, an2, ai1, ai2⟩ := id hIa
  obtain ⟨bn, bo1, bo2, bn1, bn2, bi1, bi2⟩ := id hIb
  refine .go Try.call99 Try.func99 false [] dOk ?_
  simp only [zbp, Nat.reduceAdd]
  repeat' (first
 |(refine za4 ?_; (first | refine zcm ?_ | refine zay ?_ | refine m13 ?_ | refine m12 ?_ | refine m11 ?_ | (refine m10 ?_; (first | refine zci ?_ | refine zcd ?_ | refine zch ?_ | refine zce ?_ | refine zcg ?_ ?_ | refine zcf ?_ ?_ | refine zcc ?_ ?_ | refine zcb ?_ ?_ | fail)) | (refine m09 ?_; (first | refine zci ?_ | refine zcd ?_ | refine zch ?_ | refine zce ?_ | refine zcg ?_ ?_ | refine zcf ?_ ?_ | refine zcc ?_ ?_ | refine zcb ?_ ?_ | fail)) | refine m38 ?_ | fail))
 |(refine za5 ?_; (first | refine m41 ?_ | refine zbj ?_ | refine m14 ?_ | (refine m17 ?_; first | refine m19 ?_ | refine m18 ?_) | (refine m07 ?_; (first | refine m15 ?_ | refine m16 ?_ | fail)) | refine zy8 (by (conv => {lhs; whnf}); done) (by assumption) (zhy (by assumption) (by assumption)) ?_ | refine zzd (by (conv => {lhs; whnf}); done) (by (conv => {lhs; whnf}); done) (by rw [List.append_nil]; exact hpe (zhy hRa (by assumption)) (zhy hRb (by assumption))) ?_ | (refine m45 ?_; (first | refine zeg (by exact rfl) ?_ | refine v_k ?_ | fail)) | (refine m00 ?_; (first | refine m52 ?_ | refine m53 ?_ | refine zgv ?_ | refine m54 ?_ | refine m55 ?_ | refine zck ?_ | refine m47 ?_ | refine m48 ?_ | refine m49 ?_ | refine m50 ?_ | refine zsb (by omega) (by omega) ?_ | refine zyi (by omega) (by omega) ?_ | refine v_k ?_ | refine m51 ?_ | fail)) | (refine m22 ?_; (first | refine m26 ?_ | refine m27 ?_ | fail)) | refine m42 ?_ | refine zad ?_ | refine zae ?_ | refine m08 ?_ | refine m01 ?_ | fail))
 |(refine zcv ?_; (first | refine m36 ?_ | refine zct ?_ | refine m32 ?_ | refine m31 ?_ | refine m30 ?_ | (refine m28 ?_; (first | refine zca ?_ | refine zb5 ?_ | refine zb9 ?_ | refine zb6 ?_ | refine zb8 ?_ ?_ | refine zb7 ?_ ?_ | refine zb4 ?_ ?_ | refine zb3 ?_ ?_ | fail)) | (refine m29 ?_; (first | refine zca ?_ | refine zb5 ?_ | refine zb9 ?_ | refine zb6 ?_ | refine zb8 ?_ ?_ | refine zb7 ?_ ?_ | refine zb4 ?_ ?_ | refine zb3 ?_ ?_ | fail)) | refine m37 ?_ | fail))
 |(refine zcu ?_; (first | refine zfe ?_ | refine zh6 ?_ | refine zh7 (by (conv => {lhs; whnf}); done) ?_ | refine zh8 ?_ | refine zh5 (by exact rfl) (by exact rfl) ?_ | refine m34 ?_ | refine m35 ?_ | refine m33 ?_ | refine zff ?_ | refine m56 ?_ | refine zcw ?_ | refine zdr (by exact rfl) ?_ | fail))
 |refine za2 ?_ | refine za3 ?_ | refine za1 ?_
 |(refine za6 ?_; (first | refine za0 ?_ | refine zab ?_ | (refine m06 ?_; (first | refine c_T ?_ | refine c_F ?_ | refine c_P ?_ ?_ | refine c_B ?_ ?_ | fail)) | refine zaz ?_ | refine zaq ?_ | refine zai ?_ | refine b_exit ?_ | refine zax (id := 1) [] [] [(0, .lt), (1, .ld true), (2, .ld true), (3, .lt), (4, .lt), (5, .ld true), (6, .ld true), (7, .lt), (8, .lt), (9, .lt), (10, .ld true), (11, .lt), (12, .lt), (13, .ld true), (14, .lt), (15, .ld true), (16, .lt)] (by kernel_rfl) ?_ | refine zax (id := 7) [] [] [(0, .lt), (1, .lt), (2, .lt), (3, .lt), (4, .lt), (5, .ld true), (6, .lt), (7, .ld true), (8, .lt), (9, .lt), (10, .lt), (11, .lt), (12, .ld true), (13, .lt), (14, .lt), (15, .ld true), (16, .lt), (17, .lt)] (by kernel_rfl) ?_ | fail))
 |refine zbz ?_ | refine zb0 ?_ | refine zby ?_ | refine m57 ?_
 |refine zfn ?_ | refine zfo ?_ | refine zfm ?_
 |(refine zfp (by exact rfl) ?_; first | exact hK | (exfalso; first | omega | (simp_all; done) | (simp_all; omega)))
 |refine m05 ?_
 |refine m04 ?_ | refine m02 ?_ | refine m03 ?_ | refine zar ?_
 |intro _)
  all_goals first | refine zan rfl (by simp [mx, mxL, aOf, zb1, zaf]) ?_ | (trace_state; fail)
  all_goals first
    | exact rfl
    | (exfalso; contradiction)
    | (exfalso; omega)
theorem pair_c (H : List (List AV)) (b : Nat) (l : List Nat) (hbl : b < H.length) (yo yi : Int) (n : Nat) (hyI : VI l.length yo n yi) (hyR : zal l.length yo n yi) (X : AV) (hX : mx X ≤ H.length) (xl : Nat) (xo xi : Int) (hxI : VI xl xo n xi) (hxR : zal xl xo n xi) (xv : Nat → Nat) (hrx : ∀ f, ∃ l', FL (H.set b (fl (zaw l yo yi n f))) X l' ∧ l'.length = xl ∧ ∀ j, j < n → vf l' xo xi j = xv j) (hpe : ∀ f N, 0 < l.length → 0 < xl → ptrEq (H.set b (fl (zaw l yo yi n f)) ++ N) (.slm b l.length 0 l.length 1) 0 X 0 = some false) (f : Nat → Nat) :
    zaa Try.prog 80 [vt (.slm b l.length 0 l.length 1) yo (n : Int) yi, vt X xo (n : Int) xi] (H.set b (fl (zaw l yo yi n f))) (.int .i64 0) (H.set b (fl (zaw l yo yi n f))) := by
  obtain ⟨vn, vo1, vo2, vn1, vn2, vi1, vi2⟩ := id hyI
  obtain ⟨wn, wo1, wo2, wn1, wn2, wi1, wi2⟩ := id hxI
  have hXl : slen X = some xl := (by obtain ⟨l', h1, h2, _⟩ := hrx f; rw [← h2]; exact h1.len)
  refine .go Try.call80 Try.func80 false [] dOk ?_
  simp only [zbp, Nat.reduceAdd]
  repeat' (first
 |(refine za4 ?_; (first | refine zcm ?_ | refine zay ?_ | refine m13 ?_ | refine m12 ?_ | refine m11 ?_ | (refine m10 ?_; (first | refine zci ?_ | refine zcd ?_ | refine zch ?_ | refine zce ?_ | refine zcg ?_ ?_ | refine zcf ?_ ?_ | refine zcc ?_ ?_ | refine zcb ?_ ?_ | fail)) | (refine m09 ?_; (first | refine zci ?_ | refine zcd ?_ | refine zch ?_ | refine zce ?_ | refine zcg ?_ ?_ | refine zcf ?_ ?_ | refine zcc ?_ ?_ | refine zcb ?_ ?_ | fail)) | refine m38 ?_ | fail))
 |(refine za5 ?_; (first | refine m14 ?_ | (refine m17 ?_; first | refine m19 ?_ | refine m18 ?_) | (refine m07 ?_; (first | refine m15 ?_ | refine m16 ?_ | fail)) | (refine m00 ?_; (first | refine m54 ?_ | refine m55 ?_ | refine zck ?_ | refine m49 ?_ | refine m50 ?_ | refine zdk ?_ | refine zdi ?_ | refine zdj ?_ | refine v_k ?_ | refine m51 ?_ | fail)) | (refine m22 ?_; (first | refine m26 ?_ | refine m27 ?_ | fail)) | refine m42 ?_ | refine zad ?_ | refine zae ?_ | refine m08 ?_ | (refine m20 ?_; (first | refine m54 ?_ | refine m55 ?_ | refine zck ?_ | refine m49 ?_ | refine m50 ?_ | refine zdk ?_ | refine zdi ?_ | refine zdj ?_ | refine v_k ?_ | refine m51 ?_ | fail)) | refine zao ?_ | refine m01 ?_ | fail))
 |refine za2 ?_ | refine za3 ?_ | refine za1 ?_
 |(refine za6 ?_; (first | refine za0 ?_ | refine zab ?_ | (refine m06 ?_; (first | refine c_T ?_ | refine c_F ?_ | refine c_P ?_ ?_ | refine c_B ?_ ?_ | fail)) | refine zaz ?_ | refine zaq ?_ | refine zai ?_ | refine b_exit ?_ | fail))
 |refine m21 ?_
 |refine zbb ?_
 |(refine zbd ?_; (first | refine cA (zj1 _ _ (.slm b l.length 0 l.length 1) l.length yo _ yi hyI hyR (z3a H b l hbl yo yi n hyI hyR _)) ?_ | refine cA (zj1 _ _ X xl xo _ xi hxI hxR ((hrx _).imp fun l' h => ⟨h.1, h.2.1⟩)) ?_ | refine cA (zyk _ n (.slm b l.length 0 l.length 1) l.length (by exact rfl) (by simp [mx]; omega) yo yi hyI hyR X xl hXl (by simp; omega) xo xi hxI hxR (hpe _ _)) ?_ | fail))
 |refine zbz ?_ | refine zb0 ?_ | refine zby ?_ | refine m57 ?_
 |refine m05 ?_
 |refine m04 ?_ | refine m02 ?_ | refine m03 ?_ | refine zar ?_
 |intro _)
  all_goals first
    | (exfalso; contradiction)
    | (exfalso; omega)
    | (refine zan (by simp) (by simp [mx, mxL, zaf, aOf, zb1]) ?_; exact rfl)
def cpP (xv f : Nat → Nat) (t : Nat) : Nat → Nat := fun i => if i < t then xv i else f i
theorem zs5 {xv f : Nat → Nat} {t : Nat} (i : Nat) : zow (cpP xv f t) t (xv t) i = cpP xv f (t + 1) i := by
  unfold zow cpP
  by_cases h : i = t
  · subst h; rw [if_pos rfl, if_pos (by omega)]
  · rw [if_neg h]
    by_cases h2 : i < t
    · rw [if_pos h2, if_pos (by omega)]
    · rw [if_neg h2, if_neg (by omega)]
theorem z0t (H : List (List AV)) (b : Nat) (l : List Nat) (hbl : b < H.length) (yo yi : Int) (n : Nat) (hyI : VI l.length yo n yi) (hyR : zal l.length yo n yi) (X : AV) (hX : mx X ≤ H.length) (xl : Nat) (xo xi : Int) (hxI : VI xl xo n xi) (hxR : zal xl xo n xi) (xv : Nat → Nat) (hrx : ∀ f, ∃ l', FL (H.set b (fl (zaw l yo yi n f))) X l' ∧ l'.length = xl ∧ ∀ j, j < n → vf l' xo xi j = xv j) (hpe : ∀ f N, 0 < l.length → 0 < xl → ptrEq (H.set b (fl (zaw l yo yi n f)) ++ N) (.slm b l.length 0 l.length 1) 0 X 0 = some false) (f : Nat → Nat) (N : List (List AV)) : zaa Try.prog 80 [vt (.slm b l.length 0 l.length 1) yo (n : Int) yi, vt X xo (n : Int) xi] (H.set b (fl (zaw l yo yi n f)) ++ N) (.int .i64 0) (H.set b (fl (zaw l yo yi n f)) ++ N) := by
  have hs : ∀ Z, (H ++ N).set b Z = H.set b Z ++ N := fun Z => za9 hbl
  have h := pair_c (H ++ N) b l (by simp; omega) yo yi n hyI hyR X (by simp; omega) xl xo xi hxI hxR xv (fun f => by obtain ⟨l', h1, h2⟩ := hrx f; rw [hs]; exact ⟨l', h1.app N, h2⟩) (fun f N' => by rw [hs, List.append_assoc]; exact hpe f (N ++ N')) f
  rwa [hs] at h
theorem zyj (H : List (List AV)) (b : Nat) (l : List Nat) (hbl : b < H.length) (yo yi : Int) (n : Nat) (hyI : VI l.length yo n yi) (hyR : zal l.length yo n yi) (X : AV) (hX : mx X ≤ H.length) (xl : Nat) (xo xi : Int) (hxI : VI xl xo n xi) (hxR : zal xl xo n xi) (xv : Nat → Nat) (hrx : ∀ f, ∃ l', FL (H.set b (fl (zaw l yo yi n f))) X l' ∧ l'.length = xl ∧ ∀ j, j < n → vf l' xo xi j = xv j) (hpe : ∀ f N, 0 < l.length → 0 < xl → ptrEq (H.set b (fl (zaw l yo yi n f)) ++ N) (.slm b l.length 0 l.length 1) 0 X 0 = some false) (f : Nat → Nat) :
    zaa Try.prog 61 [vt (.slm b l.length 0 l.length 1) yo (n : Int) yi, vt X xo (n : Int) xi] (H.set b (fl (zaw l yo yi n f))) (.int .i64 0) (H.set b (fl (zaw l yo yi n xv))) := by
  obtain ⟨vn, vo1, vo2, vn1, vn2, vi1, vi2⟩ := id hyI
  obtain ⟨wn, wo1, wo2, wn1, wn2, wi1, wi2⟩ := id hxI
  have hXl : slen X = some xl := (by obtain ⟨l', h1, h2, _⟩ := hrx f; rw [← h2]; exact h1.len)
  have hA : (zaw l yo yi n (cpP xv f 0)) = (zaw l yo yi n f) := zbh hyR.2.2.1 hyR.2.1 fun i hi => if_neg (by omega)
  have hZ : (zaw l yo yi n (cpP xv f n)) = (zaw l yo yi n xv) := zbh hyR.2.2.1 hyR.2.1 fun i hi => if_pos hi
  have hs : ∀ k, k < n → (zaw l yo yi n (cpP xv f k)).set (0 + pos yo yi 0 k) (xv k) = (zaw l yo yi n (cpP xv f (k + 1))) := fun k hk => (by rw [Nat.zero_add, zg8 hyR hk]; exact zbh hyR.2.2.1 hyR.2.1 fun i hi => zs5 i)
  rw [← hA, ← hZ]
  refine .go Try.call61 Try.func61 false [] dOk ?_
  simp only [zbp, Nat.reduceAdd]
  repeat' (first
 |(refine za4 ?_; (first | refine zcm ?_ | refine zay ?_ | fail))
 |(refine za5 ?_; (first | refine m41 ?_ | refine zbj ?_ | refine m14 ?_ | (refine m17 ?_; first | refine m19 ?_ | refine m18 ?_) | (refine m07 ?_; (first | refine m15 ?_ | refine m16 ?_ | refine z0j (hrx _) hxR (show k < n by omega) (by exact rfl) ?_ | fail)) | refine zi7 (m := pos yo yi 0 k) (by (conv => {lhs; whnf}); done) (by (conv => {lhs; whnf}); done) (by exact rfl) (by first | exact (by exact rfl) | exact zc7 hyR (by omega)) (by exact zei hyR (by omega)) ?_ | refine zi7 (m := pos xo xi 0 k) (by (conv => {lhs; whnf}); done) (by (conv => {lhs; whnf}); done) (by exact hXl) (by first | exact (by exact rfl) | exact zc7 hxR (by omega)) (by exact zei hxR (by omega)) ?_ | refine zkh (X' := (zaw l yo yi n (cpP xv f (k + 1)))) (by (conv => {lhs; whnf}); done) (by (conv => {lhs; whnf}); done) hbl (by simp) (by simp; exact zeh hyR (by omega)) (by exact hs k (by omega)) ?_ | (refine m45 ?_; (first | refine zbk ((k + 1 : Nat) : Int) (by omega) (by omega) ?_ | refine zbk ((pos yo yi 0 k : Nat) : Int) (by have h1 := zc7 hyR (show k < n by omega); have h2 := zei hyR (show k < n by omega); omega) (by have h1 := zc7 hyR (show k < n by omega); omega) ?_ | refine zbk ((pos xo xi 0 k : Nat) : Int) (by have h1 := zc7 hxR (show k < n by omega); have h2 := zei hxR (show k < n by omega); omega) (by have h1 := zc7 hxR (show k < n by omega); omega) ?_ | refine v_w (by first | omega | (have h1 := zbv hyR (i := (k : Int)) (by omega) (by omega); omega) | (have h1 := zbv hxR (i := (k : Int)) (by omega) (by omega); omega) | fail) ?_ | refine zeg (by exact rfl) ?_ | refine v_k ?_ | fail)) | (refine m00 ?_; (first | refine zbk ((k + 1 : Nat) : Int) (by omega) (by omega) ?_ | refine zbk ((pos yo yi 0 k : Nat) : Int) (by have h1 := zc7 hyR (show k < n by omega); have h2 := zei hyR (show k < n by omega); omega) (by have h1 := zc7 hyR (show k < n by omega); omega) ?_ | refine zbk ((pos xo xi 0 k : Nat) : Int) (by have h1 := zc7 hxR (show k < n by omega); have h2 := zei hxR (show k < n by omega); omega) (by have h1 := zc7 hxR (show k < n by omega); omega) ?_ | refine v_w (by first | omega | (have h1 := zbv hyR (i := (k : Int)) (by omega) (by omega); omega) | (have h1 := zbv hxR (i := (k : Int)) (by omega) (by omega); omega) | fail) ?_ | refine m52 ?_ | refine m53 ?_ | refine zgv ?_ | refine m47 ?_ | refine m48 ?_ | refine m49 ?_ | refine m50 ?_ | refine v_k ?_ | refine m51 ?_ | fail)) | refine m42 ?_ | refine zad ?_ | refine zae ?_ | refine m08 ?_ | refine zao ?_ | refine m25 ?_ | refine m01 ?_ | fail))
 |(refine zcv ?_; (first | refine m36 ?_ | refine zct ?_ | fail))
 |(refine zcu ?_; (first | refine zfe ?_ | refine zh6 ?_ | refine zh7 (by (conv => {lhs; whnf}); done) ?_ | refine zh8 ?_ | refine zh5 (by exact rfl) (by exact rfl) ?_ | refine m34 ?_ | refine m35 ?_ | refine m33 ?_ | refine zff ?_ | refine m56 ?_ | refine zcw ?_ | refine zdr (by exact rfl) ?_ | fail))
 |refine za2 ?_ | refine za3 ?_ | refine za1 ?_
 |(refine za6 ?_; (first | refine za0 ?_ | refine zab ?_ | (refine m06 ?_; (first | refine c_T ?_ | refine c_F ?_ | refine c_P ?_ ?_ | refine c_B ?_ ?_ | fail)) | refine zaz ?_ | refine zaq ?_ | refine zai ?_ | refine b_exit ?_ | refine zax (id := 6) [] [21] [(0, .lt), (1, .ld true), (2, .lt), (3, .ld true), (4, .lt), (5, .lt), (6, .ld true), (7, .lt), (8, .lt), (9, .lt), (10, .ld true), (11, .lt), (12, .ld true), (13, .lt), (14, .lt), (15, .ld true), (16, .lt), (17, .lt), (18, .lt), (19, .ld true), (20, .lt), (21, .mn false)] (by kernel_rfl) ?_ | (refine zbc [2, 3, 5, 13, 14] n (fun k => ⟨[(2, .loc 2 0), (3, .loc 3 0), (5, .val (.int .i64 0)), (13, .val (.int .i64 ((n : Nat) : Int))), (14, .val (.int .i64 ((k : Nat) : Int)))], [(2, [(.slm b l.length 0 l.length 1), .int .i64 yo, .int .i64 (n : Int), .int .i64 yi]), (3, [X, .int .i64 xo, .int .i64 (n : Int), .int .i64 xi])], H.set b (fl (zaw l yo yi n (cpP xv f k))) ++ []⟩) (by exact rfl) ?_ ?_ <;> (first | intro k hk K hK | intro K) <;> (try dsimp only at *)) | fail))
 |refine m21 ?_
 |refine zbb ?_
 |(refine zbd ?_; (first | refine cA (z0t H b l hbl yo yi n hyI hyR X hX xl xo xi hxI hxR xv hrx hpe _ _) ?_ | fail))
 |refine zbz ?_ | refine zb0 ?_ | refine zby ?_ | refine m57 ?_
 |refine zfn ?_ | refine zfo ?_ | refine zfm ?_
 |(refine zfp (by exact rfl) ?_; first | exact hK | fail | (exfalso; first | omega | (simp_all; done) | (simp_all; omega)))
 |refine m05 ?_
 |refine m04 ?_ | refine m02 ?_ | refine m03 ?_ | refine zar ?_
 |intro _)
  all_goals first
    | (exfalso; contradiction)
    | (exfalso; omega)
    | (refine zan (by simp) (by simp [mx, mxL, zaf, aOf, zb1]) ?_; exact rfl)
theorem zwm (H : List (List AV)) (b : Nat) (l : List Nat) (hbl : b < H.length) (zo zl : Int) (r c : Nat) (hzI : MI l.length zo r c zl) (hzG : zac l.length zo r c zl) (X : AV) (hX : mx X ≤ H.length) (xm : Nat) (xo xl : Int) (hxI : MI xm xo r c xl) (hxG : zac xm xo r c xl) (xa : Nat → Nat → Nat) (hrx : ∀ g, ∃ l', FL (H.set b (fl (zah l zo zl r c g))) X l' ∧ l'.length = xm ∧ ∀ i j, i < r → j < c → mel l' xo xl i j = xa i j) (hpx : ∀ g N, 0 < l.length → 0 < xm → ptrEq (H.set b (fl (zah l zo zl r c g)) ++ N) (.slm b l.length 0 l.length 1) 0 X 0 = some false) (g : Nat → Nat → Nat) (N : List (List AV)) (j : Nat) (hj : j < c) (hr0 : 0 < r) :
    zaa Try.prog 61 [vt (.slm b l.length 0 l.length 1) (zcj zo (r : Int) zl (j : Int)) (r : Int) 1, vt X (zcj xo (r : Int) xl (j : Int)) (r : Int) 1] (H.set b (fl (zah l zo zl r c g)) ++ N) (.int .i64 0) (H.set b (fl (zah l zo zl r c (zed g 0 r j (fun i => xa i j)))) ++ N) := by
  have hst : ∀ f, (H ++ N).set b (fl (zaw (zah l zo zl r c g) (zcj zo (r : Int) zl (j : Int)) 1 r f)) = H.set b (fl (zah l zo zl r c (zed g 0 r j f))) ++ N := fun f => by rw [za9 hbl, zlg hzG hj hr0]
  have hlen : (zah l zo zl r c g).length = l.length := by simp
  have hI1 : VI l.length (zcj zo (r : Int) zl (j : Int)) (r : Int) 1 := zkl hzI hzG hj
  have hR1 : zal l.length (zcj zo (r : Int) zl (j : Int)) (r : Int) 1 := zc4 hzG (by omega) (by omega)
  have hI2 : VI xm (zcj xo (r : Int) xl (j : Int)) (r : Int) 1 := zkl hxI hxG hj
  have hR2 : zal xm (zcj xo (r : Int) xl (j : Int)) (r : Int) 1 := zc4 hxG (by omega) (by omega)
  have h := zyj (H ++ N) b (zah l zo zl r c g) (by simp; omega) (zcj zo (r : Int) zl (j : Int)) 1 r (by rw [hlen]; exact hI1) (by rw [hlen]; exact hR1) X (by simp; omega) xm (zcj xo (r : Int) xl (j : Int)) 1 hI2 hR2 (fun i => xa i j)
    (fun f => by
      rw [hst]; obtain ⟨l', h1, h2, h3⟩ := hrx (zed g 0 r j f)
      refine ⟨l', h1.app N, h2, fun k hk => ?_⟩
      unfold vf; rw [znc hk]; exact h3 k j hk hj)
    (fun f N' => by rw [hst, hlen, List.append_assoc]; exact hpx _ _) (fun i => g i j)
  rw [hst, hst, hlen, zam (g := zed g 0 r j (fun i => g i j)) (g' := g) hzG.2.2.2.1 hzG.2.2.1 (fun i k hi _ => zkk i k hi)] at h
  exact h
theorem z0c (H : List (List AV)) (b : Nat) (l : List Nat) (hbl : b < H.length) (zo zl : Int) (r c : Nat) (hzI : MI l.length zo r c zl) (hzG : zac l.length zo r c zl) (X : AV) (hX : mx X ≤ H.length) (xm : Nat) (xo xl : Int) (hxI : MI xm xo r c xl) (hxG : zac xm xo r c xl) (xa : Nat → Nat → Nat) (hrx : ∀ g, ∃ l', FL (H.set b (fl (zah l zo zl r c g))) X l' ∧ l'.length = xm ∧ ∀ i j, i < r → j < c → mel l' xo xl i j = xa i j) (hpx : ∀ g N, 0 < l.length → 0 < xm → ptrEq (H.set b (fl (zah l zo zl r c g)) ++ N) (.slm b l.length 0 l.length 1) 0 X 0 = some false) (g : Nat → Nat → Nat) :
    zaa Try.prog 35 [mt (.slm b l.length 0 l.length 1) zo (r : Int) (c : Int) zl, mt X xo (r : Int) (c : Int) xl] (H.set b (fl (zah l zo zl r c g))) (.int .i64 0) (H.set b (fl (zah l zo zl r c xa))) := by
  obtain ⟨hm, ho1, ho2, hr1, hr2, hc1, hc2, hl1, hl2⟩ := id hzI
  obtain ⟨xm1, xo1, xo2, xr1, xr2, xc1, xc2, xl1, xl2⟩ := id hxI
  have hXl : slen X = some xm := (by obtain ⟨l', h1, h2, _⟩ := hrx g; rw [← h2]; exact h1.len)
  have hsm : ∀ g1 g2 : Nat → Nat → Nat, (∀ i j, i < r → j < c → g1 i j = g2 i j) → (zah l zo zl r c g1) = (zah l zo zl r c g2) := fun g1 g2 h => zam hzG.2.2.2.1 hzG.2.2.1 h
  have hE : r = 0 → (zah l zo zl r c xa) = (zah l zo zl r c g) := fun h => hsm _ _ (by omega)
  have hA : (zah l zo zl r c (wrC g xa 0)) = (zah l zo zl r c g) := hsm _ _ fun i j _ _ => zhc i j
  have hZ : (zah l zo zl r c (wrC g xa c)) = (zah l zo zl r c xa) := hsm _ _ fun i j _ hj => zj6 hj
  have hst : ∀ j, j < c → (zah l zo zl r c (zed (wrC g xa j) 0 r j (fun i => xa i j))) = (zah l zo zl r c (wrC g xa (j + 1))) := fun j hj => hsm _ _ fun i j' hi _ => zj7 (n := r) (fun i hi => by rw [if_pos ⟨by omega, by omega⟩]; rfl) i j' hi
  refine .go Try.call35 Try.func35 false [] dOk ?_
  simp only [zbp, Nat.reduceAdd]
  repeat' (first
 |(refine za4 ?_; (first | refine zcm ?_ | refine zay ?_ | refine m13 ?_ | refine m12 ?_ | refine m11 ?_ | (refine m10 ?_; (first | refine zci ?_ | refine zcd ?_ | refine zch ?_ | refine zce ?_ | refine zcg ?_ ?_ | refine zcf ?_ ?_ | refine zcc ?_ ?_ | refine zcb ?_ ?_ | fail)) | (refine m09 ?_; (first | refine zci ?_ | refine zcd ?_ | refine zch ?_ | refine zce ?_ | refine zcg ?_ ?_ | refine zcf ?_ ?_ | refine zcc ?_ ?_ | refine zcb ?_ ?_ | fail)) | refine m38 ?_ | fail))
 |(refine za5 ?_; (first | refine m41 ?_ | refine zbj ?_ | refine m14 ?_ | (refine m17 ?_; first | refine m19 ?_ | refine m18 ?_) | (refine m07 ?_; (first | refine m15 ?_ | refine m16 ?_ | fail)) | (refine m45 ?_; (first | refine zbk ((k + 1 : Nat) : Int) (by omega) (by omega) ?_ | refine zeg (by exact rfl) ?_ | refine v_k ?_ | fail)) | (refine m00 ?_; (first | refine zbk ((k + 1 : Nat) : Int) (by omega) (by omega) ?_ | refine m52 ?_ | refine m53 ?_ | refine zgv ?_ | refine m54 ?_ | refine m55 ?_ | refine zck ?_ | refine m47 ?_ | refine m48 ?_ | refine m49 ?_ | refine m50 ?_ | refine zdk ?_ | refine zdi ?_ | refine zdj ?_ | refine v_k ?_ | refine m51 ?_ | fail)) | (refine m22 ?_; (first | refine m26 ?_ | refine m27 ?_ | fail)) | refine m42 ?_ | refine zad ?_ | refine zae ?_ | refine m08 ?_ | (refine m20 ?_; (first | refine zbk ((k + 1 : Nat) : Int) (by omega) (by omega) ?_ | refine m52 ?_ | refine m53 ?_ | refine zgv ?_ | refine m54 ?_ | refine m55 ?_ | refine zck ?_ | refine m47 ?_ | refine m48 ?_ | refine m49 ?_ | refine m50 ?_ | refine zdk ?_ | refine zdi ?_ | refine zdj ?_ | refine v_k ?_ | refine m51 ?_ | fail)) | refine zao ?_ | refine m01 ?_ | fail))
 |(refine zcv ?_; (first | refine m36 ?_ | refine zct ?_ | refine m32 ?_ | refine m31 ?_ | refine m30 ?_ | (refine m28 ?_; (first | refine zca ?_ | refine zb5 ?_ | refine zb9 ?_ | refine zb6 ?_ | refine zb8 ?_ ?_ | refine zb7 ?_ ?_ | refine zb4 ?_ ?_ | refine zb3 ?_ ?_ | fail)) | (refine m29 ?_; (first | refine zca ?_ | refine zb5 ?_ | refine zb9 ?_ | refine zb6 ?_ | refine zb8 ?_ ?_ | refine zb7 ?_ ?_ | refine zb4 ?_ ?_ | refine zb3 ?_ ?_ | fail)) | refine m37 ?_ | fail))
 |(refine zcu ?_; (first | refine zfe ?_ | refine zh6 ?_ | refine zh7 (by (conv => {lhs; whnf}); done) ?_ | refine zh8 ?_ | refine zh5 (by exact rfl) (by exact rfl) ?_ | refine m34 ?_ | refine m35 ?_ | refine m33 ?_ | refine zff ?_ | refine m56 ?_ | refine zcw ?_ | refine zdr (by exact rfl) ?_ | fail))
 |refine za2 ?_ | refine za3 ?_ | refine za1 ?_
 |(refine za6 ?_; (first | refine za0 ?_ | refine zab ?_ | (refine m06 ?_; (first | refine c_T ?_ | refine c_F ?_ | refine c_P ?_ ?_ | refine c_B ?_ ?_ | fail)) | refine zaz ?_ | refine zaq ?_ | refine zai ?_ | refine b_exit ?_ | refine zax (id := 12) [] [6] [(0, .ld true), (1, .lt), (3, .ld true), (4, .lt), (2, .mn true), (5, .mn true), (6, .mn false)] (by kernel_rfl) ?_ | (refine zbc [2, 3, 37, 38] c (fun k => ⟨[(2, .loc 2 0), (3, .loc 3 0), (37, .val (.int .i64 ((c : Nat) : Int))), (38, .val (.int .i64 ((k : Nat) : Int)))], [(2, [(.slm b l.length 0 l.length 1), .int .i64 zo, .int .i64 (r : Int), .int .i64 (c : Int), .int .i64 zl]), (3, [X, .int .i64 xo, .int .i64 (r : Int), .int .i64 (c : Int), .int .i64 xl])], H.set b (fl (zah l zo zl r c (wrC g xa k))) ++ []⟩) (by simp only [hA]; exact rfl) ?_ ?_ <;> (first | intro k hk K hK | intro K) <;> (try dsimp only at *)) | fail))
 |refine m21 ?_
 |refine zbb ?_
 |(refine zbd ?_; (first | refine cA (zgl _ _ X xm xo _ _ xl hxI hxG ((hrx _).imp fun l' h => ⟨h.1, h.2.1⟩)) ?_ | refine cA (zgl _ _ (.slm b l.length 0 l.length 1) l.length zo _ _ zl hzI hzG (zyq H b l hbl zo zl r c _)) ?_ | refine cA (zkx _ (.slm b l.length 0 l.length 1) l.length zo r c zl (by exact rfl) hzI X xm xo r c xl hXl hxI (hpx _ _)) ?_ | refine cA (zgk _ _ X xm xo xl r c hxI hxG ((hrx _).imp fun l' h => ⟨h.1, h.2.1⟩) k (by omega)) ?_ | refine cA (zgk _ _ (.slm b l.length 0 l.length 1) l.length zo zl r c hzI hzG (zyq H b l hbl zo zl r c _) k (by omega)) ?_ | refine c_call (zwm H b l hbl zo zl r c hzI hzG X hX xm xo xl hxI hxG xa hrx hpx _ [] k (by omega) (by omega)) (za7.set2 hbl (by simp) (by rw [zbs]; omega)) ?_ | fail))
 |refine zbz ?_ | refine zb0 ?_ | refine zby ?_ | refine m57 ?_
 |refine zfn ?_ | refine zfo ?_ | refine zfm ?_
 |(refine zfp (by exact rfl) ?_; first | exact hK | (rw [hst k (by omega)]; exact hK) | (exfalso; first | omega | (simp_all; done) | (simp_all; omega)))
 |refine m05 ?_
 |refine m04 ?_ | refine m02 ?_ | refine m03 ?_ | refine zar ?_
 |intro _)
  all_goals first
    | (exfalso; contradiction)
    | (exfalso; omega)
    | (refine zan (by simp) (by simp [mx, mxL, zaf, aOf, zb1]) ?_; exact rfl)
    | (rw [hE (by omega)]; refine zan (by simp) (by simp [mx, mxL, zaf, aOf, zb1]) ?_; exact rfl)
    | (rw [← hZ]; refine zan (by simp) (by simp [mx, mxL, zaf, aOf, zb1]) ?_; exact rfl)
theorem zn4 (n : Nat) (hn : n ≤ 4096) (size : Int) (hs : 1 ≤ size) (hs2 : size ≤ 9223372036854775807) : ∃ T Q, Cuts n T Q ∧ ∀ H, zaa Try.prog 53 [.int .i64 (n : Int), .int .i64 size, .slnil] H (cuV T Q) H := by
  by_cases h : 1 ≤ n
  · obtain ⟨m, hm⟩ : ∃ m : Nat, min size (n : Int) = (m : Int) := ⟨(min size (n : Int)).toNat, by omega⟩
    obtain ⟨h1, h2⟩ := zwo (n := n) (m := m) (by omega) (by omega)
    refine ⟨_, _, h1, fun H => ?_⟩
    have h3 := z2t H .slnil [] (IL.nil H) (by simp) n m size h hn hs hs2 hm
    rw [h2] at h3
    exact h3
  · have : n = 0 := by omega
    subst this
    exact ⟨0, _, zs7, fun H => z2u H .slnil [] (IL.nil H) (by simp) 0 size (by omega) (by omega) (by omega)⟩
end Go.Sx
set_option linter.unusedVariables false
set_option linter.unusedSimpArgs false
set_option maxRecDepth 20000
namespace Go.Sx
open Go.Proofs
theorem zk6 (H N : List (List AV)) (D : AV) (m : Nat) (off ld : Int) (r c : Nat) (hI : MI m off r c ld) (hG : zac m off r c ld) (h : ∃ l', FL H D l' ∧ l'.length = m) (i j r' c' : Nat) (hi : i + r' ≤ r) (hj : j + c' ≤ c) (o : Int) (ho : o = zcy off ld (i : Int) (j : Int) (r' : Int) (c' : Int)) :
    zaa Try.prog 33 [mt D off (r : Int) (c : Int) ld, .int .i64 (i : Int), .int .i64 (j : Int), .int .i64 (r' : Int), .int .i64 (c' : Int)] (H ++ N) (mt D o (r' : Int) (c' : Int) ld) (H ++ N) := by
  obtain ⟨l', h1, h2⟩ := h
  subst h2 ho
  exact zk5 _ D l' (h1.app N) off r c ld hI hG i j r' c' (by omega) (by omega) (by omega) (by omega) (by omega) (by omega)
theorem zee {off ld : Int} {i j r' c' : Nat} (hr : 0 < r') (hc : 0 < c') : off + ((i : Int) + (j : Int) * ld) = zcy off ld (i : Int) (j : Int) (r' : Int) (c' : Int) := by
  unfold zcy; rw [if_pos ⟨by omega, by omega⟩]
theorem ztt (H : List (List AV)) (b : Nat) (l : List Nat) (hbl : b < H.length) (zo zl : Int) (r c : Nat) (hzI : MI l.length zo r c zl) (hzG : zac l.length zo r c zl) (lo hi : Int) (hin : InS zo r c zl lo hi) (w : Nat) (X : AV) (hX : mx X ≤ H.length) (xm : Nat) (xo xl : Int) (hxI : MI xm xo r w xl) (hxG : zac xm xo r w xl) (xa : Nat → Nat → Nat) (hrx : ∀ g, ∃ l', FL (H.set b (fl (zah l zo zl r c g))) X l' ∧ l'.length = xm ∧ ∀ i j, i < r → j < w → mel l' xo xl i j = xa i j) (px : Bool) (hpx : ∀ g N, 0 < l.length → 0 < xm → ptrEq (H.set b (fl (zah l zo zl r c g)) ++ N) (.slm b l.length 0 l.length 1) 0 X 0 = some px) (lox hix : Int) (hinx : InS xo r w xl lox hix) (hfx : zfk px lo hi lox hix) (Y : AV) (hY : mx Y ≤ H.length) (ym : Nat) (yo yl : Int) (hyI : MI ym yo w c yl) (hyG : zac ym yo w c yl) (ya : Nat → Nat → Nat) (hry : ∀ g, ∃ l', FL (H.set b (fl (zah l zo zl r c g))) Y l' ∧ l'.length = ym ∧ ∀ i j, i < w → j < c → mel l' yo yl i j = ya i j) (py : Bool) (hpy : ∀ g N, 0 < l.length → 0 < ym → ptrEq (H.set b (fl (zah l zo zl r c g)) ++ N) (.slm b l.length 0 l.length 1) 0 Y 0 = some py) (loy hiy : Int) (hiny : InS yo w c yl loy hiy) (hfy : zfk py lo hi loy hiy) (A : Nat) (g : Nat → Nat → Nat) (N : List (List AV)) (i0 mi j0 mj k0 mk : Nat) (hi0 : i0 + mi ≤ r) (hj0 : j0 + mj ≤ c) (hk0 : k0 + mk ≤ w) (hmi : 0 < mi) (hmj : 0 < mj) (hmk : 0 < mk) :
    zaa Try.prog 31 [.flt A, mt X (xo + ((i0 : Int) + (k0 : Int) * xl)) (mi : Int) (mk : Int) xl, mt Y (yo + ((k0 : Int) + (j0 : Int) * yl)) (mk : Int) (mj : Int) yl, .flt 4607182418800017408, mt (.slm b l.length 0 l.length 1) (zo + ((i0 : Int) + (j0 : Int) * zl)) (mi : Int) (mj : Int) zl] (H.set b (fl (zah l zo zl r c g)) ++ N) (.int .i64 0) (H.set b (fl (zah l zo zl r c (zbw g (gmR A 4607182418800017408 (fun i k => xa (i0 + i) (k0 + k)) (fun k j => ya (k0 + k) (j0 + j)) mk (fun i j => g (i0 + i) (j0 + j))) i0 j0 mi mj))) ++ N) := by
  have hst : ∀ f, (H ++ N).set b (fl (zah (zah l zo zl r c g) (zo + ((i0 : Int) + (j0 : Int) * zl)) zl mi mj f)) = H.set b (fl (zah l zo zl r c (zbw g f i0 j0 mi mj))) ++ N := fun f => by rw [za9 hbl, zor hzG hi0 hj0 hmi hmj]
  have hlen : (zah l zo zl r c g).length = l.length := by simp
  have h := z0b (H ++ N) b (zah l zo zl r c g) (by simp; omega) (zo + ((i0 : Int) + (j0 : Int) * zl)) zl mi mj (by rw [hlen]; exact zev hzI hzG hi0 hj0 hmi hmj) (by rw [hlen]; exact zdx hzG hi0 hj0 hmi hmj) lo hi (hin.part hzG.2.2.2.1 hi0 hj0 (by rw [if_pos ⟨by omega, by omega⟩])) mk
    X (by simp; omega) xm (xo + ((i0 : Int) + (k0 : Int) * xl)) xl (zev hxI hxG hi0 hk0 hmi hmk) (zdx hxG hi0 hk0 hmi hmk) (fun i k => xa (i0 + i) (k0 + k))
    (fun f => by
      rw [hst]; obtain ⟨l', h1, h2, h3⟩ := hrx (zbw g f i0 j0 mi mj)
      exact ⟨l', h1.app N, h2, fun i k hi hk => by rw [zfz]; exact h3 _ _ (by omega) (by omega)⟩) px
    (fun f N' => by rw [hst, hlen, List.append_assoc]; exact hpx _ _) lox hix (hinx.part hxG.2.2.2.1 hi0 hk0 (by rw [if_pos ⟨by omega, by omega⟩])) hfx
    Y (by simp; omega) ym (yo + ((k0 : Int) + (j0 : Int) * yl)) yl (zev hyI hyG hk0 hj0 hmk hmj) (zdx hyG hk0 hj0 hmk hmj) (fun k j => ya (k0 + k) (j0 + j))
    (fun f => by
      rw [hst]; obtain ⟨l', h1, h2, h3⟩ := hry (zbw g f i0 j0 mi mj)
      exact ⟨l', h1.app N, h2, fun k j hk hj => by rw [zfz]; exact h3 _ _ (by omega) (by omega)⟩) py
    (fun f N' => by rw [hst, hlen, List.append_assoc]; exact hpy _ _) loy hiy (hiny.part hyG.2.2.2.1 hk0 hj0 (by rw [if_pos ⟨by omega, by omega⟩])) hfy A 4607182418800017408 (fun i j => g (i0 + i) (j0 + j))
  rw [hst, hst, hlen, zam (g := zbw g (fun i j => g (i0 + i) (j0 + j)) i0 j0 mi mj) (g' := g) hzG.2.2.2.1 hzG.2.2.1 (fun i j _ _ => ziv i j)] at h
  exact h
attribute [local irreducible] Ex zau exD opX opE zdh zfd zfl Spec zaa Fr zdg zbf zbe ckK zcq zda zbo faK zcz ze4 gK fK rK zgd lpX prK
theorem z1k (H : List (List AV)) (b : Nat) (l : List Nat) (hbl : b < H.length) (zo zl : Int) (r c : Nat) (hzI : MI l.length zo r c zl) (hzG : zac l.length zo r c zl) (lo hi : Int) (hin : InS zo r c zl lo hi) (w : Nat) (X : AV) (hX : mx X ≤ H.length) (xm : Nat) (xo xl : Int) (hxI : MI xm xo r w xl) (hxG : zac xm xo r w xl) (xa : Nat → Nat → Nat) (hrx : ∀ g, ∃ l', FL (H.set b (fl (zah l zo zl r c g))) X l' ∧ l'.length = xm ∧ ∀ i j, i < r → j < w → mel l' xo xl i j = xa i j) (px : Bool) (hpx : ∀ g N, 0 < l.length → 0 < xm → ptrEq (H.set b (fl (zah l zo zl r c g)) ++ N) (.slm b l.length 0 l.length 1) 0 X 0 = some px) (lox hix : Int) (hinx : InS xo r w xl lox hix) (hfx : zfk px lo hi lox hix) (Y : AV) (hY : mx Y ≤ H.length) (ym : Nat) (yo yl : Int) (hyI : MI ym yo w c yl) (hyG : zac ym yo w c yl) (ya : Nat → Nat → Nat) (hry : ∀ g, ∃ l', FL (H.set b (fl (zah l zo zl r c g))) Y l' ∧ l'.length = ym ∧ ∀ i j, i < w → j < c → mel l' yo yl i j = ya i j) (py : Bool) (hpy : ∀ g N, 0 < l.length → 0 < ym → ptrEq (H.set b (fl (zah l zo zl r c g)) ++ N) (.slm b l.length 0 l.length 1) 0 Y 0 = some py) (loy hiy : Int) (hiny : InS yo w c yl loy hiy) (hfy : zfk py lo hi loy hiy) (A : Nat) (g : Nat → Nat → Nat) (s1 s2 s3 : Int) (i0 mi j0 mj k0 mk : Nat) (hi0 : i0 + mi ≤ r) (hj0 : j0 + mj ≤ c) (hk0 : k0 + mk ≤ w) (hmi : 0 < mi) (hmj : 0 < mj) (hmk : 0 < mk) :
    zaa Try.prog 62 [.agg [.int .i64 s1, .int .i64 s2, .int .i64 s3, .flt A, X, .int .i64 xo, .int .i64 (r : Int), .int .i64 (w : Int), .int .i64 xl, Y, .int .i64 yo, .int .i64 (w : Int), .int .i64 (c : Int), .int .i64 yl, (.slm b l.length 0 l.length 1), .int .i64 zo, .int .i64 (r : Int), .int .i64 (c : Int), .int .i64 zl], .agg [.int .i64 ((i0 : Nat) : Int), .int .i64 ((mi : Nat) : Int)], .agg [.int .i64 ((j0 : Nat) : Int), .int .i64 ((mj : Nat) : Int)], .agg [.int .i64 ((k0 : Nat) : Int), .int .i64 ((mk : Nat) : Int)]] (H.set b (fl (zah l zo zl r c g))) (.tup []) (H.set b (fl (zah l zo zl r c (zbw g (gmR A 4607182418800017408 (fun i k => xa (i0 + i) (k0 + k)) (fun k j => ya (k0 + k) (j0 + j)) mk (fun i j => g (i0 + i) (j0 + j))) i0 j0 mi mj)))) := by
  obtain ⟨hm, ho1, ho2, hr1, hr2, hc1, hc2, hl1, hl2⟩ := id hzI
  obtain ⟨xm1, xo1, xo2, xr1, xr2, xc1, xc2, xl1, xl2⟩ := id hxI
  obtain ⟨ym1, yo1, yo2, yr1, yr2, yc1, yc2, yl1, yl2⟩ := id hyI
  have hXl : slen X = some xm := by (obtain ⟨l', h1, h2, _⟩ := hrx g; rw [← h2]; exact h1.len)
  have hYl : slen Y = some ym := by (obtain ⟨l', h1, h2, _⟩ := hry g; rw [← h2]; exact h1.len)
  refine .go Try.call62 Try.func62 false [] dOk ?_
  simp only [zbp, Nat.reduceAdd]
  repeat' (first
 |(refine za4 ?_; (first | refine zcm ?_ | refine zay ?_ | fail))
 |(refine za5 ?_; (first | (refine m17 ?_; first | refine m19 ?_ | refine m18 ?_) | (refine m07 ?_; (first | refine m15 ?_ | refine m16 ?_ | fail)) | refine znz (n := 0) (by (conv => {lhs; whnf}); done) (by omega) ?_ | refine znz (n := 1) (by (conv => {lhs; whnf}); done) (by omega) ?_ | refine zao ?_ | refine m25 ?_ | refine m01 ?_ | refine m24 ?_ | fail))
 |refine za2 ?_ | refine za3 ?_ | refine za1 ?_
 |(refine za6 ?_; (first | refine za0 ?_ | refine zab ?_ | (refine m06 ?_; (first | refine c_T ?_ | refine c_F ?_ | refine c_P ?_ ?_ | refine c_B ?_ ?_ | fail)) | refine zaz ?_ | refine zaq ?_ | refine zai ?_ | refine b_exit ?_ | fail))
 |refine m43 ?_
 |refine zcs ?_
 |refine m21 ?_
 |refine zbb ?_
 |(refine zbd ?_; (first | refine cA (zk6 _ _ X xm xo xl r w hxI hxG ((hrx _).imp fun l' h => ⟨h.1, h.2.1⟩) i0 k0 mi mk hi0 hk0 _ (zee hmi hmk)) ?_ | refine cA (zk6 _ _ Y ym yo yl w c hyI hyG ((hry _).imp fun l' h => ⟨h.1, h.2.1⟩) k0 j0 mk mj hk0 hj0 _ (zee hmk hmj)) ?_ | refine cA (zk6 _ _ (.slm b l.length 0 l.length 1) l.length zo zl r c hzI hzG (zyq H b l hbl zo zl r c _) i0 j0 mi mj hi0 hj0 _ (zee hmi hmj)) ?_ | refine c_call (ztt H b l hbl zo zl r c hzI hzG lo hi hin w X hX xm xo xl hxI hxG xa hrx px hpx lox hix hinx hfx Y hY ym yo yl hyI hyG ya hry py hpy loy hiy hiny hfy A g [] i0 mi j0 mj k0 mk hi0 hj0 hk0 hmi hmj hmk) (za7.set2 hbl (by simp) (by rw [zbs]; omega)) ?_ | fail))
 |refine m05 ?_
 |refine m04 ?_ | refine m02 ?_ | refine m03 ?_ | refine zar ?_
 |intro _)
  all_goals first
    | (exfalso; contradiction)
    | (exfalso; omega)
    | (refine zan (by simp) (by simp [mx, mxL, zaf, aOf, zb1]) ?_; exact rfl)
theorem z1l (H : List (List AV)) (b : Nat) (l : List Nat) (hbl : b < H.length) (zo zl : Int) (r c : Nat) (hzI : MI l.length zo r c zl) (hzG : zac l.length zo r c zl) (lo hi : Int) (hin : InS zo r c zl lo hi) (w : Nat) (X : AV) (hX : mx X ≤ H.length) (xm : Nat) (xo xl : Int) (hxI : MI xm xo r w xl) (hxG : zac xm xo r w xl) (xa : Nat → Nat → Nat) (hrx : ∀ g, ∃ l', FL (H.set b (fl (zah l zo zl r c g))) X l' ∧ l'.length = xm ∧ ∀ i j, i < r → j < w → mel l' xo xl i j = xa i j) (px : Bool) (hpx : ∀ g N, 0 < l.length → 0 < xm → ptrEq (H.set b (fl (zah l zo zl r c g)) ++ N) (.slm b l.length 0 l.length 1) 0 X 0 = some px) (lox hix : Int) (hinx : InS xo r w xl lox hix) (hfx : zfk px lo hi lox hix) (Y : AV) (hY : mx Y ≤ H.length) (ym : Nat) (yo yl : Int) (hyI : MI ym yo w c yl) (hyG : zac ym yo w c yl) (ya : Nat → Nat → Nat) (hry : ∀ g, ∃ l', FL (H.set b (fl (zah l zo zl r c g))) Y l' ∧ l'.length = ym ∧ ∀ i j, i < w → j < c → mel l' yo yl i j = ya i j) (py : Bool) (hpy : ∀ g N, 0 < l.length → 0 < ym → ptrEq (H.set b (fl (zah l zo zl r c g)) ++ N) (.slm b l.length 0 l.length 1) 0 Y 0 = some py) (loy hiy : Int) (hiny : InS yo w c yl loy hiy) (hfy : zfk py lo hi loy hiy) (A : Nat) (s1 s2 s3 : Int) (g g' : Nat → Nat → Nat) (N : List (List AV)) (i0 mi j0 mj k0 mk : Nat) (hi0 : i0 + mi ≤ r) (hj0 : j0 + mj ≤ c) (hk0 : k0 + mk ≤ w) (hmi : 0 < mi) (hmj : 0 < mj) (hmk : 0 < mk) (hg : ∀ i j, i < r → j < c → (zbw g (gmR A 4607182418800017408 (fun i k => xa (i0 + i) (k0 + k)) (fun k j => ya (k0 + k) (j0 + j)) mk (fun i j => g (i0 + i) (j0 + j))) i0 j0 mi mj) i j = g' i j) : zaa Try.prog 62 [.agg [.int .i64 s1, .int .i64 s2, .int .i64 s3, .flt A, X, .int .i64 xo, .int .i64 (r : Int), .int .i64 (w : Int), .int .i64 xl, Y, .int .i64 yo, .int .i64 (w : Int), .int .i64 (c : Int), .int .i64 yl, (.slm b l.length 0 l.length 1), .int .i64 zo, .int .i64 (r : Int), .int .i64 (c : Int), .int .i64 zl], .agg [.int .i64 ((i0 : Nat) : Int), .int .i64 ((mi : Nat) : Int)], .agg [.int .i64 ((j0 : Nat) : Int), .int .i64 ((mj : Nat) : Int)], .agg [.int .i64 ((k0 : Nat) : Int), .int .i64 ((mk : Nat) : Int)]] (H.set b (fl (zah l zo zl r c g)) ++ N) (.tup []) (H.set b (fl (zah l zo zl r c g')) ++ N) := by
  have hs : ∀ Z, (H ++ N).set b Z = H.set b Z ++ N := fun Z => za9 hbl
  have h := z1k (H ++ N) b l (by simp; omega) zo zl r c hzI hzG lo hi hin w X (by simp; omega) xm xo xl hxI hxG xa (fun g => by obtain ⟨l', h1, h2⟩ := hrx g; rw [hs]; exact ⟨l', h1.app N, h2⟩) px (fun g N' => by rw [hs, List.append_assoc]; exact hpx g (N ++ N')) lox hix hinx hfx Y (by simp; omega) ym yo yl hyI hyG ya (fun g => by obtain ⟨l', h1, h2⟩ := hry g; rw [hs]; exact ⟨l', h1.app N, h2⟩) py (fun g N' => by rw [hs, List.append_assoc]; exact hpy g (N ++ N')) loy hiy hiny hfy A g s1 s2 s3 i0 mi j0 mj k0 mk hi0 hj0 hk0 hmi hmj hmk
  rw [hs, hs, zam (g := (zbw g (gmR A 4607182418800017408 (fun i k => xa (i0 + i) (k0 + k)) (fun k j => ya (k0 + k) (j0 + j)) mk (fun i j => g (i0 + i) (j0 + j))) i0 j0 mi mj)) (g' := g') hzG.2.2.2.1 hzG.2.2.1 hg] at h
  exact h
theorem zsn {A : Nat} {xa ya z : Nat → Nat → Nat} (hz : ∀ i j, Can (z i j)) {r c w : Nat} {T1 T2 T3 : Nat} {Q1 Q2 Q3 : Nat → Nat} (h1 : Cuts r T1 Q1) (h2 : Cuts c T2 Q2) (h3 : Cuts w T3 Q3) {t u v : Nat} (ht : t < T3) (hu : u < T2) (hv : v < T1) (i j : Nat) :
    zbw (gmT (gmM A xa ya z (Q3 t)) (gmM A xa ya z (Q3 (t + 1))) (Q2 u) (Q2 (u + 1)) (Q1 v)) (gmR A 4607182418800017408 (fun i k => xa (Q1 v + i) (Q3 t + k)) (fun k j => ya (Q3 t + k) (Q2 u + j)) (Q3 (t + 1) - Q3 t) (fun i j => (gmT (gmM A xa ya z (Q3 t)) (gmM A xa ya z (Q3 (t + 1))) (Q2 u) (Q2 (u + 1)) (Q1 v)) (Q1 v + i) (Q2 u + j))) (Q1 v) (Q2 u) (Q1 (v + 1) - Q1 v) (Q2 (u + 1) - Q2 u) i j = (gmT (gmM A xa ya z (Q3 t)) (gmM A xa ya z (Q3 (t + 1))) (Q2 u) (Q2 (u + 1)) (Q1 (v + 1))) i j := by
  have k1 := h1.ltn hv
  have k2 := h2.ltn hu
  have k3 := h3.ltn ht
  refine zts (by omega) (by omega) (fun i j hi1 hi2 hj1 hj2 => ?_) i j
  unfold gmR
  dsimp only
  rw [z0a (by omega) (by omega), show Q1 v + (i - Q1 v) = i by omega, show Q2 u + (j - Q2 u) = j by omega]
  have h := zw7 A xa ya z hz (Q3 t) (Q3 (t + 1)) (by omega) (Q1 v) (Q2 u) i j hi1 hj1
  rw [show Q1 v + (i - Q1 v) = i by omega, show Q2 u + (j - Q2 u) = j by omega] at h
  exact h
theorem zzh (H : List (List AV)) (b : Nat) (l : List Nat) (hbl : b < H.length) (zo zl : Int) (r c : Nat) (hzI : MI l.length zo r c zl) (hzG : zac l.length zo r c zl) (lo hi : Int) (hin : InS zo r c zl lo hi) (w : Nat) (X : AV) (hX : mx X ≤ H.length) (xm : Nat) (xo xl : Int) (hxI : MI xm xo r w xl) (hxG : zac xm xo r w xl) (xa : Nat → Nat → Nat) (hrx : ∀ g, ∃ l', FL (H.set b (fl (zah l zo zl r c g))) X l' ∧ l'.length = xm ∧ ∀ i j, i < r → j < w → mel l' xo xl i j = xa i j) (px : Bool) (hpx : ∀ g N, 0 < l.length → 0 < xm → ptrEq (H.set b (fl (zah l zo zl r c g)) ++ N) (.slm b l.length 0 l.length 1) 0 X 0 = some px) (lox hix : Int) (hinx : InS xo r w xl lox hix) (hfx : zfk px lo hi lox hix) (Y : AV) (hY : mx Y ≤ H.length) (ym : Nat) (yo yl : Int) (hyI : MI ym yo w c yl) (hyG : zac ym yo w c yl) (ya : Nat → Nat → Nat) (hry : ∀ g, ∃ l', FL (H.set b (fl (zah l zo zl r c g))) Y l' ∧ l'.length = ym ∧ ∀ i j, i < w → j < c → mel l' yo yl i j = ya i j) (py : Bool) (hpy : ∀ g N, 0 < l.length → 0 < ym → ptrEq (H.set b (fl (zah l zo zl r c g)) ++ N) (.slm b l.length 0 l.length 1) 0 Y 0 = some py) (loy hiy : Int) (hiny : InS yo w c yl loy hiy) (hfy : zfk py lo hi loy hiy) (A : Nat) (s1 s2 s3 : Int) (T1 : Nat) (Q1 : Nat → Nat) (hC1 : Cuts r T1 Q1) (hB1 : ∀ H, zaa Try.prog 53 [.int .i64 (r : Int), .int .i64 s1, .slnil] H (cuV T1 Q1) H) (T2 : Nat) (Q2 : Nat → Nat) (hC2 : Cuts c T2 Q2) (hB2 : ∀ H, zaa Try.prog 53 [.int .i64 (c : Int), .int .i64 s2, .slnil] H (cuV T2 Q2) H) (T3 : Nat) (Q3 : Nat → Nat) (hC3 : Cuts w T3 Q3) (hB3 : ∀ H, zaa Try.prog 53 [.int .i64 (w : Int), .int .i64 s3, .slnil] H (cuV T3 Q3) H) (z : Nat → Nat → Nat) (hz : ∀ i j, Can (z i j)) :
    zaa Try.prog 36 [.agg [.int .i64 s1, .int .i64 s2, .int .i64 s3, .flt A, X, .int .i64 xo, .int .i64 (r : Int), .int .i64 (w : Int), .int .i64 xl, Y, .int .i64 yo, .int .i64 (w : Int), .int .i64 (c : Int), .int .i64 yl, (.slm b l.length 0 l.length 1), .int .i64 zo, .int .i64 (r : Int), .int .i64 (c : Int), .int .i64 zl]] (H.set b (fl (zah l zo zl r c z))) (.tup []) (H.set b (fl (zah l zo zl r c (gmM A xa ya z w)))) := by
  obtain ⟨hm, ho1, ho2, hr1, hr2, hc1, hc2, hl1, hl2⟩ := id hzI
  obtain ⟨xm1, xo1, xo2, xr1, xr2, xc1, xc2, xl1, xl2⟩ := id hxI
  obtain ⟨ym1, yo1, yo2, yr1, yr2, yc1, yc2, yl1, yl2⟩ := id hyI
  have hXl : slen X = some xm := by (obtain ⟨l', h1, h2, _⟩ := hrx z; rw [← h2]; exact h1.len)
  have hYl : slen Y = some ym := by (obtain ⟨l', h1, h2, _⟩ := hry z; rw [← h2]; exact h1.len)
  have hsm : ∀ g1 g2 : Nat → Nat → Nat, (∀ i j, i < r → j < c → g1 i j = g2 i j) → (zah l zo zl r c g1) = (zah l zo zl r c g2) := fun g1 g2 h => zam hzG.2.2.2.1 hzG.2.2.1 h
  have hA : (zah l zo zl r c (gmM A xa ya z (Q3 0))) = (zah l zo zl r c z) := (by rw [hC3.zero]; rfl)
  have hZ : (zah l zo zl r c (gmM A xa ya z (Q3 T3))) = (zah l zo zl r c (gmM A xa ya z w)) := (by rw [hC3.last])
  have hj0 : ∀ t, (zah l zo zl r c (gmT (gmM A xa ya z (Q3 t)) (gmM A xa ya z (Q3 (t + 1))) (Q2 0) 0 0)) = (zah l zo zl r c (gmM A xa ya z (Q3 t))) := fun t => hsm _ _ fun i j _ _ => (by rw [hC2.zero]; exact zqc i j)
  have hj9 : ∀ t, (zah l zo zl r c (gmT (gmM A xa ya z (Q3 t)) (gmM A xa ya z (Q3 (t + 1))) (Q2 T2) 0 0)) = (zah l zo zl r c (gmM A xa ya z (Q3 (t + 1)))) := fun t => hsm _ _ fun i j _ hj => (by rw [hC2.last]; exact ztq i j hj)
  have hi0 : ∀ t u, (zah l zo zl r c (gmT (gmM A xa ya z (Q3 t)) (gmM A xa ya z (Q3 (t + 1))) (Q2 u) (Q2 (u + 1)) (Q1 0))) = (zah l zo zl r c (gmT (gmM A xa ya z (Q3 t)) (gmM A xa ya z (Q3 (t + 1))) (Q2 u) 0 0)) := fun t u => hsm _ _ fun i j _ _ => (by rw [hC1.zero]; exact zqd i j)
  have hi9 : ∀ t u, u < T2 → (zah l zo zl r c (gmT (gmM A xa ya z (Q3 t)) (gmM A xa ya z (Q3 (t + 1))) (Q2 u) (Q2 (u + 1)) (Q1 T1))) = (zah l zo zl r c (gmT (gmM A xa ya z (Q3 t)) (gmM A xa ya z (Q3 (t + 1))) (Q2 (u + 1)) 0 0)) := fun t u hu => hsm _ _ fun i j hi _ => (by rw [hC1.last]; exact ztr (Nat.le_of_lt (hC2.inc u hu)) i j hi)
  have hn1 := hC1.t_le
  have hn2 := hC2.t_le
  have hn3 := hC3.t_le
  have hT1 := fun v => hC1.ltn (t := v)
  have hT2 := fun v => hC2.ltn (t := v)
  have hT3 := fun v => hC3.ltn (t := v)
  refine .go Try.call36 Try.func36 false [] dOk ?_
  simp only [zbp, Nat.reduceAdd]
  repeat' (first
 |(refine za4 ?_; (first | refine zcm ?_ | refine zay ?_ | fail))
 |(refine za5 ?_; (first | refine m41 ?_ | refine zbj ?_ | refine m14 ?_ | (refine m17 ?_; first | refine m19 ?_ | refine m18 ?_) | (refine m07 ?_; (first | refine m15 ?_ | refine m16 ?_ | refine zxa (show t < T3 by omega) ?_ | refine zxa (show u < T2 by omega) ?_ | refine zxa (show v < T1 by omega) ?_ | fail)) | refine znz (n := 0) (by (conv => {lhs; whnf}); done) (by omega) ?_ | refine znz (n := 1) (by (conv => {lhs; whnf}); done) (by omega) ?_ | refine zpc (i := t) (by (conv => {lhs; whnf}); done) (by (conv => {lhs; whnf}); done) (by exact rfl) (by exact rfl) (by omega) ?_ | refine zpc (i := u) (by (conv => {lhs; whnf}); done) (by (conv => {lhs; whnf}); done) (by exact rfl) (by exact rfl) (by omega) ?_ | refine zpc (i := v) (by (conv => {lhs; whnf}); done) (by (conv => {lhs; whnf}); done) (by exact rfl) (by exact rfl) (by omega) ?_ | refine zbm (by (conv => {lhs; whnf}); done) (by exact rfl) ?_ | (refine m00 ?_; (first | refine zbk ((t + 1 : Nat) : Int) (by omega) (by omega) ?_ | refine zbk ((u + 1 : Nat) : Int) (by omega) (by omega) ?_ | refine zbk ((v + 1 : Nat) : Int) (by omega) (by omega) ?_ | refine m47 ?_ | refine m48 ?_ | refine m49 ?_ | refine m50 ?_ | refine v_k ?_ | refine m51 ?_ | fail)) | refine zao ?_ | refine zbm (by (conv => {lhs; whnf}); done) (by first | rfl | assumption) ?_ | refine m25 ?_ | refine m01 ?_ | refine m24 ?_ | fail))
 |refine za2 ?_ | refine za3 ?_ | refine za1 ?_
 |(refine za6 ?_; (first | refine za0 ?_ | refine zab ?_ | (refine m06 ?_; (first | refine c_T ?_ | refine c_F ?_ | refine c_P ?_ ?_ | refine c_B ?_ ?_ | fail)) | refine zaz ?_ | refine zaq ?_ | refine zai ?_ | refine b_exit ?_ | (refine zbc [1, 3, 5, 14, 15, 16, 26, 27, 28, 38, 39, 40] T1 (fun v => ⟨[(1, .loc 1 0), (3, .loc 3 0), (5, .loc 5 0), (14, .val (cuV T3 Q3)), (15, .val (.int .i64 ((T3 : Nat) : Int))), (16, .val (.int .i64 ((t : Nat) : Int))), (26, .val (cuV T2 Q2)), (27, .val (.int .i64 ((T2 : Nat) : Int))), (28, .val (.int .i64 ((u : Nat) : Int))), (38, .val (cuV T1 Q1)), (39, .val (.int .i64 ((T1 : Nat) : Int))), (40, .val (.int .i64 ((v : Nat) : Int)))], [(1, [.int .i64 s1, .int .i64 s2, .int .i64 s3, .flt A, X, .int .i64 xo, .int .i64 (r : Int), .int .i64 (w : Int), .int .i64 xl, Y, .int .i64 yo, .int .i64 (w : Int), .int .i64 (c : Int), .int .i64 yl, (.slm b l.length 0 l.length 1), .int .i64 zo, .int .i64 (r : Int), .int .i64 (c : Int), .int .i64 zl]), (3, [.int .i64 (Q3 t : Int), .int .i64 ((Q3 (t + 1) - Q3 t : Nat) : Int)]), (5, [.int .i64 (Q2 u : Int), .int .i64 ((Q2 (u + 1) - Q2 u : Nat) : Int)])], H.set b (fl (zah l zo zl r c (gmT (gmM A xa ya z (Q3 t)) (gmM A xa ya z (Q3 (t + 1))) (Q2 u) (Q2 (u + 1)) (Q1 v)))) ++ []⟩) (by simp only [hi0]; exact rfl) ?_ ?_ <;> (first | intro v hv K hK | intro K) <;> (try dsimp only at *)) | (refine zbc [1, 3, 14, 15, 16, 26, 27, 28] T2 (fun u => ⟨[(1, .loc 1 0), (3, .loc 3 0), (14, .val (cuV T3 Q3)), (15, .val (.int .i64 ((T3 : Nat) : Int))), (16, .val (.int .i64 ((t : Nat) : Int))), (26, .val (cuV T2 Q2)), (27, .val (.int .i64 ((T2 : Nat) : Int))), (28, .val (.int .i64 ((u : Nat) : Int)))], [(1, [.int .i64 s1, .int .i64 s2, .int .i64 s3, .flt A, X, .int .i64 xo, .int .i64 (r : Int), .int .i64 (w : Int), .int .i64 xl, Y, .int .i64 yo, .int .i64 (w : Int), .int .i64 (c : Int), .int .i64 yl, (.slm b l.length 0 l.length 1), .int .i64 zo, .int .i64 (r : Int), .int .i64 (c : Int), .int .i64 zl]), (3, [.int .i64 (Q3 t : Int), .int .i64 ((Q3 (t + 1) - Q3 t : Nat) : Int)])], H.set b (fl (zah l zo zl r c (gmT (gmM A xa ya z (Q3 t)) (gmM A xa ya z (Q3 (t + 1))) (Q2 u) 0 0))) ++ []⟩) (by simp only [hj0]; exact rfl) ?_ ?_ <;> (first | intro u hu K hK | intro K) <;> (try dsimp only at *)) | (refine zbc [1, 14, 15, 16] T3 (fun t => ⟨[(1, .loc 1 0), (14, .val (cuV T3 Q3)), (15, .val (.int .i64 ((T3 : Nat) : Int))), (16, .val (.int .i64 ((t : Nat) : Int)))], [(1, [.int .i64 s1, .int .i64 s2, .int .i64 s3, .flt A, X, .int .i64 xo, .int .i64 (r : Int), .int .i64 (w : Int), .int .i64 xl, Y, .int .i64 yo, .int .i64 (w : Int), .int .i64 (c : Int), .int .i64 yl, (.slm b l.length 0 l.length 1), .int .i64 zo, .int .i64 (r : Int), .int .i64 (c : Int), .int .i64 zl])], H.set b (fl (zah l zo zl r c (gmM A xa ya z (Q3 t)))) ++ []⟩) (by simp only [hA]; exact rfl) ?_ ?_ <;> (first | intro t ht K hK | intro K) <;> (try dsimp only at *)) | fail))
 |refine m43 ?_
 |refine zcs ?_
 |refine m21 ?_
 |refine zbb ?_
 |(refine zbd ?_; (first | refine cA (hB1 _) ?_ | refine cA (hB2 _) ?_ | refine cA (hB3 _) ?_ | refine c_call (z1l H b l hbl zo zl r c hzI hzG lo hi hin w X hX xm xo xl hxI hxG xa hrx px hpx lox hix hinx hfx Y hY ym yo yl hyI hyG ya hry py hpy loy hiy hiny hfy A s1 s2 s3 _ (gmT (gmM A xa ya z (Q3 t)) (gmM A xa ya z (Q3 (t + 1))) (Q2 u) (Q2 (u + 1)) (Q1 (v + 1))) [] (Q1 v) (Q1 (v + 1) - Q1 v) (Q2 u) (Q2 (u + 1) - Q2 u) (Q3 t) (Q3 (t + 1) - Q3 t) (by have := hT1 v (by omega); omega) (by have := hT2 u (by omega); omega) (by have := hT3 t (by omega); omega) (by have := hT1 v (by omega); omega) (by have := hT2 u (by omega); omega) (by have := hT3 t (by omega); omega) (fun i j _ _ => zsn hz hC1 hC2 hC3 (by omega) (by omega) (by omega) i j)) (za7.set2 hbl (by simp) (by rw [zbs]; omega)) ?_ | fail))
 |refine zbz ?_ | refine zb0 ?_ | refine zby ?_ | refine m57 ?_
 |refine zfn ?_ | refine zfo ?_ | refine zfm ?_
 |(refine zfp (by exact rfl) ?_; first | exact hK | (rw [hj9]; exact hK) | (rw [hi9 _ _ (by omega)]; exact hK) | (exfalso; first | omega | (simp_all; done) | (simp_all; omega)))
 |refine m05 ?_
 |refine m04 ?_ | refine m02 ?_ | refine m03 ?_ | refine zar ?_
 |intro _)
  all_goals first
    | (exfalso; contradiction)
    | (exfalso; omega)
    | (refine zan (by simp) (by simp [mx, mxL, zaf, aOf, zb1]) ?_; exact rfl)
    | (rw [← hZ]; refine zan (by simp) (by simp [mx, mxL, zaf, aOf, zb1]) ?_; exact rfl)
end Go.Sx
set_option linter.unusedVariables false
set_option linter.unusedSimpArgs false
namespace Go.Sx
section
variable {P : Program} {cfg : Cfg} {e : List (Nat × EV)} {L : List (Nat × List AV)} {H : List (List AV)} {K : St → Prop} {dd : Nat} {ty : TypeId} {pos : String} {aft : Array Edge} {gd : Option (Nat × Bool)}
theorem zza {x y z : Operand} {ts : Array TypeId} {k : IntKind} {a c d m : Int} (hx : St.ev ⟨e, L, H⟩ x = .val (.int k a)) (hy : St.ev ⟨e, L, H⟩ y = .val (.int k c)) (hz : St.ev ⟨e, L, H⟩ z = .val (.int k d)) (hm : max (max a c) d = m) (h : K ⟨(dd, .val (.int k m)) :: e, L, H⟩) :
    opX P cfg ⟨some dd, .call { callee := .builtin .max, args := #[x, y, z], argTypes := ts }, ty, pos, aft, gd⟩ K ⟨e, L, H⟩ := by
  subst hm
  rw [zbu P cfg e L H K _ _ _ _ _ _ rfl]
  simp only [zas, List.map_cons, List.map_nil, hx, hy, hz, EV.asI, and_self, if_true, zdb]
  exact ⟨trivial, h⟩
end
theorem zvg {l l' : List Nat} (h : fl l = fl l') : l = l' := by
  unfold fl at h
  induction l generalizing l' with
  | nil => cases l' with
    | nil => rfl
    | cons a t => simp at h
  | cons a t ih => cases l' with
    | nil => simp at h
    | cons a' t' =>
      simp only [List.map_cons, List.cons.injEq, AV.flt.injEq] at h
      rw [h.1, ih h.2]
theorem zqw {L : List Nat} {zo zl xo xl : Int} {r c r' c' : Nat} {g : Nat → Nat → Nat} {lo hi lo1 hi1 : Int} (hG : zac L.length zo r c zl) (hX : zac L.length xo r' c' xl) (h1 : InS zo r c zl lo hi) (h2 : InS xo r' c' xl lo1 hi1) (hf : hi < lo1 ∨ hi1 < lo) {i k : Nat} (hi' : i < r') (hk : k < c') :
    mel (zah L zo zl r c g) xo xl i k = mel L xo xl i k := by
  rw [zbr, zbr]
  refine zoq hG.2.2.1 hG.2.2.2.1 fun i2 j2 hi2 hj2 e => ?_
  have a1 := zak hG (i := (i2 : Int)) (j := (j2 : Int)) (by omega) (by omega) (by omega) (by omega)
  have a2 := zak hX (i := (i : Int)) (j := (k : Int)) (by omega) (by omega) (by omega) (by omega)
  rcases h1 with h1 | h1 | h1
  · omega
  · omega
  · rcases h2 with h2 | h2 | h2
    · omega
    · omega
    · unfold Sx.pos at e
      omega
theorem zvd {H : List (List AV)} {b bx : Nat} {l lx : List Nat} (hb : H[b]? = some (fl l)) (hbx : H[bx]? = some (fl lx)) {zo zl xo xl : Int} {r c r' c' : Nat} (hG : zac l.length zo r c zl) (hX : zac lx.length xo r' c' xl) {lo hi lo1 hi1 : Int} (h1 : InS zo r c zl lo hi) (h2 : InS xo r' c' xl lo1 hi1) (hf : zfk (decide (bx = b)) lo hi lo1 hi1) (g : Nat → Nat → Nat) :
    ∃ l', FL (H.set b (fl (zah l zo zl r c g))) (.slm bx lx.length 0 lx.length 1) l' ∧ l'.length = lx.length ∧ ∀ i k, i < r' → k < c' → mel l' xo xl i k = mel lx xo xl i k := by
  have hbl := (List.getElem?_eq_some_iff.1 hb).1
  by_cases h : bx = b
  · subst h
    rw [hb] at hbx
    have : l = lx := zvg (by simpa using hbx)
    subst this
    refine ⟨zah l zo zl r c g, FL.old (by simp [hbl]) (by simp) (by simp), by simp, fun i k hi' hk => zqw hG hX h1 h2 (hf (by simp)) hi' hk⟩
  · exact ⟨lx, FL.old (by rw [List.getElem?_set_ne (Ne.symm h)]; exact hbx) rfl rfl, rfl, fun _ _ _ _ => rfl⟩
theorem zvc {H : List (List AV)} {b bx : Nat} {l lx : List Nat} (hb : H[b]? = some (fl l)) (hbx : H[bx]? = some (fl lx)) {zo zl : Int} {r c : Nat} (g : Nat → Nat → Nat) (N : List (List AV)) (h1 : 0 < l.length) (h2 : 0 < lx.length) :
    ptrEq (H.set b (fl (zah l zo zl r c g)) ++ N) (.slm b l.length 0 l.length 1) 0 (.slm bx lx.length 0 lx.length 1) 0 = some (decide (bx = b)) := by
  have hbl := (List.getElem?_eq_some_iff.1 hb).1
  have e1 : (H.set b (fl (zah l zo zl r c g)) ++ N)[b]? = some (fl (zah l zo zl r c g)) := by
    rw [List.getElem?_append_left (by simpa using hbl)]; simp [hbl]
  by_cases h : bx = b
  · subst h
    rw [hb] at hbx
    have : l = lx := zvg (by simpa using hbx)
    subst this
    rw [zj0 e1 (by simp)]; simp
  · have e2 : (H.set b (fl (zah l zo zl r c g)) ++ N)[bx]? = some (fl lx) := by
      rw [List.getElem?_append_left (by have := (List.getElem?_eq_some_iff.1 hbx).1; simpa using this), List.getElem?_set_ne (Ne.symm h)]; exact hbx
    rw [znk e1 (by simp) e2 rfl (Ne.symm h)]; simp [h]
end Go.Sx
set_option linter.unusedVariables false
set_option linter.unusedSimpArgs false
set_option maxRecDepth 20000
namespace Go.Sx
open Go.Proofs
attribute [local irreducible] Ex zau exD opX opE zdh zfd zfl Spec zaa Fr zdg zbf zbe ckK zcq zda zbo faK zcz ze4 gK fK rK zgd lpX prK
theorem zsy (H : List (List AV)) (s1 s2 s3 : Int) (h1 : 1 ≤ s1) (h2 : 1 ≤ s2) (h3 : 1 ≤ s3) :
    zaa Try.prog 13 [.agg [.int .i64 s1, .int .i64 s2, .int .i64 s3]] H (.bool true) H := by
  refine .go Try.call13 Try.func13 false [] dOk ?_
  simp only [zbp, Nat.reduceAdd]
  repeat' (first
 |(refine za4 ?_; (first | refine zcm ?_ | refine zay ?_ | refine m13 ?_ | refine m12 ?_ | refine m11 ?_ | (refine m10 ?_; (first | refine zci ?_ | refine zcd ?_ | refine zch ?_ | refine zce ?_ | refine zcg ?_ ?_ | refine zcf ?_ ?_ | refine zcc ?_ ?_ | refine zcb ?_ ?_ | fail)) | (refine m09 ?_; (first | refine zci ?_ | refine zcd ?_ | refine zch ?_ | refine zce ?_ | refine zcg ?_ ?_ | refine zcf ?_ ?_ | refine zcc ?_ ?_ | refine zcb ?_ ?_ | fail)) | refine m38 ?_ | fail))
 |(refine za5 ?_; (first | refine m14 ?_ | (refine m17 ?_; first | refine m19 ?_ | refine m18 ?_) | (refine m07 ?_; (first | refine m15 ?_ | refine m16 ?_ | fail)) | (refine m00 ?_; (first | refine m47 ?_ | refine m48 ?_ | refine m49 ?_ | refine m50 ?_ | refine v_k ?_ | refine m51 ?_ | fail)) | (refine m22 ?_; (first | refine m26 ?_ | refine m27 ?_ | fail)) | refine m42 ?_ | refine zad ?_ | refine zae ?_ | refine m08 ?_ | refine m01 ?_ | fail))
 |refine za2 ?_ | refine za3 ?_ | refine za1 ?_
 |(refine za6 ?_; (first | refine za0 ?_ | refine zab ?_ | (refine m06 ?_; (first | refine c_T ?_ | refine c_F ?_ | refine c_P ?_ ?_ | refine c_B ?_ ?_ | fail)) | refine zaz ?_ | refine zaq ?_ | refine zai ?_ | refine b_exit ?_ | fail))
 |refine m05 ?_
 |refine m04 ?_ | refine m02 ?_ | refine m03 ?_ | refine zar ?_
 |intro _)
  all_goals first | refine zan rfl (by simp [mx, mxL, aOf, zb1, zaf]) ?_ | (trace_state; fail)
  all_goals first
    | exact rfl
    | (exfalso; omega)
    | (refine congrArg AV.bool ?_; exact decide_eq_true (by omega))
theorem zqf (H : List (List AV)) (D : AV) (l : List Nat) (hF : FL H D l) (off rows cols ld : Int) (hI : MI l.length off rows cols ld) (hG : zac l.length off rows cols ld) : zaa Try.prog 30 [mt D off rows cols ld] H (.bool true) H := by
  have h := zd1 H D l.length off rows cols ld hF.len hI
  rwa [decide_eq_true hG] at h
theorem ziu {m : Nat} {off ld : Int} {r c r' c' : Nat} (hG : zac m off r c ld) (hr : r' ≤ r) (hc : c' ≤ c) (h0 : r' = 0 ∨ c' = 0) : zac m (zcy off ld 0 0 (r' : Int) (c' : Int)) r' c' ld := by
  obtain ⟨g1, g2, g3, g4, g5, g6⟩ := hG
  unfold zcy; rw [if_neg (by omega)]
  exact ⟨by omega, by omega, g3, g4, by omega, by omega⟩
theorem zni {m : Nat} {off ld : Int} {r c r' c' : Nat} (hI : MI m off r c ld) (hr : r' ≤ r) (hc : c' ≤ c) (h0 : r' = 0 ∨ c' = 0) : MI m (zcy off ld 0 0 (r' : Int) (c' : Int)) r' c' ld := by
  obtain ⟨hm, ho1, ho2, hr1, hr2, hc1, hc2, hl1, hl2⟩ := id hI
  unfold zcy; rw [if_neg (by omega)]
  exact ⟨hm, ho1, ho2, by omega, by omega, by omega, by omega, hl1, hl2⟩
theorem zwc (H : List (List AV)) (bx : Nat) (lx : List Nat) (hbx : H[bx]? = some (fl lx)) (xo xl : Int) (xr xc : Nat) (hxI : MI lx.length xo xr xc xl) (hxG : zac lx.length xo xr xc xl) (by_ : Nat) (ly : List Nat) (hby : H[by_]? = some (fl ly)) (yo yl : Int) (yr yc : Nat) (hyI : MI ly.length yo yr yc yl) (hyG : zac ly.length yo yr yc yl) (zg : Nat → Nat → Nat) (zr zc : Nat) (hzr : zr ≤ 64) (hzc : zc ≤ 64) (hne1 : zr = xr) (hne2 : zc = yc) (A B : Nat) (N : List (List AV)) :
    zaa Try.prog 31 [.flt A, mt (.slm bx lx.length 0 lx.length 1) (zcy xo xl 0 0 (xr : Int) 0) (xr : Int) 0 xl, mt (.slm by_ ly.length 0 ly.length 1) (zcy yo yl 0 0 0 (yc : Int)) 0 (yc : Int) yl, .flt B, mt (.slm (H.length + 0) (zr * zc) 0 (zr * zc) 1) 0 (zr : Int) (zc : Int) ((max zr 1 : Nat) : Int)] (H ++ [fl (cmA zg zr zc)] ++ N) (.int .i64 0) (H ++ [fl (cmA (fun i j => gmB B (zg i j)) zr zc)] ++ N) := by
  subst hne1 hne2
  have hx1 := (List.getElem?_eq_some_iff.1 hbx).1
  have hy1 := (List.getElem?_eq_some_iff.1 hby).1
  have e : (cmA zg zr zc).length = zr * zc := by simp [cmA]
  have hst : ∀ g, (H ++ [fl (cmA zg zr zc)] ++ N).set (H.length + 0) (fl (zah (cmA zg zr zc) 0 ((max zr 1 : Nat) : Int) zr zc g)) = H ++ [fl (cmA g zr zc)] ++ N := fun g => by
    rw [zuk, za9 (by simp), zea (N' := [fl (cmA g zr zc)]) rfl rfl]
  have hb1 : ∀ g N', (H ++ [fl (cmA g zr zc)] ++ N ++ N')[H.length + 0]? = some (fl (cmA g zr zc)) := fun g N' => by
    rw [List.append_assoc]; exact zav (zbg rfl rfl)
  have hxo : ∀ g N', (H ++ [fl (cmA g zr zc)] ++ N ++ N')[bx]? = some (fl lx) := fun g N' => by
    rw [List.append_assoc, List.append_assoc]; exact zav hbx
  have hyo : ∀ g N', (H ++ [fl (cmA g zr zc)] ++ N ++ N')[by_]? = some (fl ly) := fun g N' => by
    rw [List.append_assoc, List.append_assoc]; exact zav hby
  have h := z0b (H ++ [fl (cmA zg zr zc)] ++ N) (H.length + 0) (cmA zg zr zc) (by simp) 0 ((max zr 1 : Nat) : Int) zr zc (zkj hzr hzc) (ze1 zg zr zc) _ _ (.inr (.inr ⟨Int.le_refl _, Int.le_refl _⟩)) 0
    (.slm bx lx.length 0 lx.length 1) (by simp [mx]; omega) lx.length (zcy xo xl 0 0 (zr : Int) 0) xl (zni (r' := zr) (c' := 0) hxI (by omega) (by omega) (.inr rfl)) (ziu (r' := zr) (c' := 0) hxG (by omega) (by omega) (.inr rfl)) (fun _ _ => 0)
    (fun g => ⟨lx, by rw [hst]; have h9 := hxo g []; rw [List.append_nil] at h9; exact FL.old h9 rfl rfl, rfl, fun _ k _ hk => absurd hk (Nat.not_lt_zero k)⟩) false
    (fun g N' h1 h2 => by rw [hst]; exact znk (hb1 g N') (by simp [cmA]) (hxo g N') rfl (by omega)) 0 0 (.inr (.inl rfl)) (fun h => by cases h)
    (.slm by_ ly.length 0 ly.length 1) (by simp [mx]; omega) ly.length (zcy yo yl 0 0 0 (zc : Int)) yl (zni (r' := 0) (c' := zc) hyI (by omega) (by omega) (.inl rfl)) (ziu (r' := 0) (c' := zc) hyG (by omega) (by omega) (.inl rfl)) (fun _ _ => 0)
    (fun g => ⟨ly, by rw [hst]; have h9 := hyo g []; rw [List.append_nil] at h9; exact FL.old h9 rfl rfl, rfl, fun k _ hk _ => absurd hk (Nat.not_lt_zero k)⟩) false
    (fun g N' h1 h2 => by rw [hst]; exact znk (hb1 g N') (by simp [cmA]) (hyo g N') rfl (by omega)) 0 0 (.inl rfl) (fun h => by cases h) A B zg
  rw [hst, hst, e] at h
  exact h
theorem zst (H : List (List AV)) (bx : Nat) (lx : List Nat) (hbx : H[bx]? = some (fl lx)) (xo xl : Int) (xr xc : Nat) (hxI : MI lx.length xo xr xc xl) (hxG : zac lx.length xo xr xc xl) (by_ : Nat) (ly : List Nat) (hby : H[by_]? = some (fl ly)) (yo yl : Int) (yr yc : Nat) (hyI : MI ly.length yo yr yc yl) (hyG : zac ly.length yo yr yc yl) (zg : Nat → Nat → Nat) (zr zc : Nat) (hzr : zr ≤ 64) (hzc : zc ≤ 64) (hne1 : zr = xr) (hne2 : zc = yc) (A B : Nat) :
    zaa Try.prog 31 [.flt A, mt (.slm bx lx.length 0 lx.length 1) (zcy xo xl 0 0 (xr : Int) 0) (xr : Int) 0 xl, mt (.slm by_ ly.length 0 ly.length 1) (zcy yo yl 0 0 0 (yc : Int)) 0 (yc : Int) yl, .flt B, mt (.slm (H.length + 0) (zr * zc) 0 (zr * zc) 1) 0 (zr : Int) (zc : Int) ((max zr 1 : Nat) : Int)] (H ++ [fl (cmA zg zr zc)]) (.int .i64 0) (H ++ [fl (cmA (fun i j => gmB B (zg i j)) zr zc)]) := by
  have h := zwc H bx lx hbx xo xl xr xc hxI hxG by_ ly hby yo yl yr yc hyI hyG zg zr zc hzr hzc hne1 hne2 A B []
  rwa [List.append_nil, List.append_nil] at h
theorem z0d (H : List (List AV)) (b : Nat) (l : List Nat) (hb : H[b]? = some (fl l)) (zo zl : Int) (zr zc : Nat) (hzI : MI l.length zo zr zc zl) (hzG : zac l.length zo zr zc zl) (hzr : zr ≤ 64) (hzc : zc ≤ 64) (g : Nat → Nat → Nat) :
    zaa Try.prog 35 [mt (.slm b l.length 0 l.length 1) zo (zr : Int) (zc : Int) zl, mt (.slm (H.length + 0) (zr * zc) 0 (zr * zc) 1) 0 (zr : Int) (zc : Int) ((max zr 1 : Nat) : Int)] (H ++ [fl (cmA g zr zc)]) (.int .i64 0) (H.set b (fl (zah l zo zl zr zc g)) ++ [fl (cmA g zr zc)]) := by
  have hbl := (List.getElem?_eq_some_iff.1 hb).1
  have e : (cmA g zr zc).length = zr * zc := by simp [cmA]
  have hs : ∀ Z, (H ++ [fl (cmA g zr zc)]).set b Z = H.set b Z ++ [fl (cmA g zr zc)] := fun Z => za9 hbl
  have hx : ∀ Z N, (H.set b Z ++ [fl (cmA g zr zc)] ++ N)[H.length + 0]? = some (fl (cmA g zr zc)) := fun Z N => by
    rw [List.append_assoc, List.getElem?_append_right (by simp)]; simp
  have h := z0c (H ++ [fl (cmA g zr zc)]) b l (by simp; omega) zo zl zr zc hzI hzG (.slm (H.length + 0) (zr * zc) 0 (zr * zc) 1) (by simp [mx]) (zr * zc) 0 ((max zr 1 : Nat) : Int) (e ▸ zkj hzr hzc) (e ▸ ze1 g zr zc) g
    (fun g' => ⟨cmA g zr zc, by rw [hs]; have h9 := hx (fl (zah l zo zl zr zc g')) []; rw [List.append_nil] at h9; exact FL.old h9 e.symm e.symm, e, fun i j hi hj => zhs hi hj⟩)
    (fun g' N h1 h2 => by
      rw [hs]
      exact znk (l := zah l zo zl zr zc g') (by rw [List.append_assoc]; exact ze8 hbl) (by simp) (hx _ N) e (by omega)) (mel l zo zl)
  rw [hs, hs, zd3 hzG.2.2.2.1 hzG.2.2.1, set_self hb] at h
  exact h
theorem zzi (H : List (List AV)) (bx : Nat) (lx : List Nat) (hbx : H[bx]? = some (fl lx)) (xo xl : Int) (xr xc : Nat) (hxI : MI lx.length xo xr xc xl) (hxG : zac lx.length xo xr xc xl) (by_ : Nat) (ly : List Nat) (hby : H[by_]? = some (fl ly)) (yo yl : Int) (yr yc : Nat) (hyI : MI ly.length yo yr yc yl) (hyG : zac ly.length yo yr yc yl) (b : Nat) (l : List Nat) (hb : H[b]? = some (fl l)) (zo zl : Int) (zr zc : Nat) (hzI : MI l.length zo zr zc zl) (hzG : zac l.length zo zr zc zl) (he1 : zr = xr) (he2 : zc = yc) (he3 : xc = yr) (lo hi lox hix loy hiy : Int) (hin : InS zo zr zc zl lo hi) (hinx : InS xo xr xc xl lox hix) (hiny : InS yo yr yc yl loy hiy) (hfx : zfk (decide (bx = b)) lo hi lox hix) (hfy : zfk (decide (by_ = b)) lo hi loy hiy) (A : Nat) (s1 s2 s3 : Int) (T1 : Nat) (Q1 : Nat → Nat) (hC1 : Cuts zr T1 Q1) (hB1 : ∀ H, zaa Try.prog 53 [.int .i64 (zr : Int), .int .i64 s1, .slnil] H (cuV T1 Q1) H) (T2 : Nat) (Q2 : Nat → Nat) (hC2 : Cuts zc T2 Q2) (hB2 : ∀ H, zaa Try.prog 53 [.int .i64 (zc : Int), .int .i64 s2, .slnil] H (cuV T2 Q2) H) (T3 : Nat) (Q3 : Nat → Nat) (hC3 : Cuts xc T3 Q3) (hB3 : ∀ H, zaa Try.prog 53 [.int .i64 (xc : Int), .int .i64 s3, .slnil] H (cuV T3 Q3) H) (z : Nat → Nat → Nat) (hz : ∀ i j, Can (z i j)) (N : List (List AV)) :
    zaa Try.prog 36 [.agg [.int .i64 s1, .int .i64 s2, .int .i64 s3, .flt A, (.slm bx lx.length 0 lx.length 1), .int .i64 xo, .int .i64 (xr : Int), .int .i64 (xc : Int), .int .i64 xl, (.slm by_ ly.length 0 ly.length 1), .int .i64 yo, .int .i64 (yr : Int), .int .i64 (yc : Int), .int .i64 yl, (.slm b l.length 0 l.length 1), .int .i64 zo, .int .i64 (zr : Int), .int .i64 (zc : Int), .int .i64 zl]] (H.set b (fl (zah l zo zl zr zc z)) ++ N) (.tup []) (H.set b (fl (zah l zo zl zr zc (gmM A (mel lx xo xl) (mel ly yo yl) z xc))) ++ N) := by
  subst he1 he2 he3
  have hbl := (List.getElem?_eq_some_iff.1 hb).1
  have hx1 := (List.getElem?_eq_some_iff.1 hbx).1
  have hy1 := (List.getElem?_eq_some_iff.1 hby).1
  have hs : ∀ Z, (H ++ N).set b Z = H.set b Z ++ N := fun Z => za9 hbl
  have hb' : (H ++ N)[b]? = some (fl l) := zav hb
  have hbx' : (H ++ N)[bx]? = some (fl lx) := zav hbx
  have hby' : (H ++ N)[by_]? = some (fl ly) := zav hby
  have h := zzh (H ++ N) b l (by simp; omega) zo zl zr zc hzI hzG lo hi hin xc (.slm bx lx.length 0 lx.length 1) (by simp [mx]; omega) lx.length xo xl hxI hxG (mel lx xo xl) (zvd hb' hbx' hzG hxG hin hinx hfx) _ (fun g N' h1 h2 => zvc hb' hbx' g N' h1 h2) lox hix hinx hfx
    (.slm by_ ly.length 0 ly.length 1) (by simp [mx]; omega) ly.length yo yl hyI hyG (mel ly yo yl) (zvd hb' hby' hzG hyG hin hiny hfy) _ (fun g N' h1 h2 => zvc hb' hby' g N' h1 h2) loy hiy hiny hfy A s1 s2 s3 T1 Q1 hC1 hB1 T2 Q2 hC2 hB2 T3 Q3 hC3 hB3 z hz
  rw [hs, hs] at h
  exact h
theorem zzn (H : List (List AV)) (s1 s2 s3 : Int) (h1 : 1 ≤ s1) (h2 : 1 ≤ s2) (h3 : 1 ≤ s3) (hw1 : -9223372036854775808 ≤ s1 ∧ s1 ≤ 9223372036854775807) (hw2 : -9223372036854775808 ≤ s2 ∧ s2 ≤ 9223372036854775807) (hw3 : -9223372036854775808 ≤ s3 ∧ s3 ≤ 9223372036854775807) (bx : Nat) (lx : List Nat) (hbx : H[bx]? = some (fl lx)) (xo xl : Int) (xr xc : Nat) (hxI : MI lx.length xo xr xc xl) (hxG : zac lx.length xo xr xc xl) (by_ : Nat) (ly : List Nat) (hby : H[by_]? = some (fl ly)) (yo yl : Int) (yr yc : Nat) (hyI : MI ly.length yo yr yc yl) (hyG : zac ly.length yo yr yc yl) (b : Nat) (l : List Nat) (hb : H[b]? = some (fl l)) (zo zl : Int) (zr zc : Nat) (hzI : MI l.length zo zr zc zl) (hzG : zac l.length zo zr zc zl) (hzr : zr ≤ 64) (hzc : zc ≤ 64) (hxc : xc ≤ 64) (he1 : zr = xr) (he2 : zc = yc) (he3 : xc = yr) (lo hi lox hix loy hiy : Int) (hin : InS zo zr zc zl lo hi) (hinx : InS xo xr xc xl lox hix) (hiny : InS yo yr yc yl loy hiy) (hfx : zfk (decide (bx = b)) lo hi lox hix) (hfy : zfk (decide (by_ = b)) lo hi loy hiy) (hmb : ∀ N, zaa Try.prog 34 [mt (.slm b l.length 0 l.length 1) zo (zr : Int) (zc : Int) zl, mt (.slm bx lx.length 0 lx.length 1) xo (xr : Int) (xc : Int) xl] (H ++ N) (.bool false) (H ++ N)) (hmc : ∀ N, zaa Try.prog 34 [mt (.slm b l.length 0 l.length 1) zo (zr : Int) (zc : Int) zl, mt (.slm by_ ly.length 0 ly.length 1) yo (yr : Int) (yc : Int) yl] (H ++ N) (.bool false) (H ++ N)) (A B : Nat) :
    zaa Try.prog 11 [.agg [.int .i64 s1, .int .i64 s2, .int .i64 s3], .flt A, mt (.slm bx lx.length 0 lx.length 1) xo (xr : Int) (xc : Int) xl, mt (.slm by_ ly.length 0 ly.length 1) yo (yr : Int) (yc : Int) yl, .flt B, mt (.slm b l.length 0 l.length 1) zo (zr : Int) (zc : Int) zl] H (.int .i64 0) (H.set b (fl (zah l zo zl zr zc (gmM A (mel lx xo xl) (mel ly yo yl) (fun i j => gmB B (mel l zo zl i j)) xc)))) := by
  obtain ⟨xm1, xo1, xo2, xr1, xr2, xc1, xc2, xl1, xl2⟩ := id hxI
  obtain ⟨ym1, yo1, yo2, yr1, yr2, yc1, yc2, yl1, yl2⟩ := id hyI
  obtain ⟨zm1, zo1, zo2, zr1, zr2, zc1, zc2, zl1, zl2⟩ := id hzI
  obtain ⟨T1, Q1, hC1, hB1⟩ := zn4 zr (by omega) s1 h1 (by omega)
  obtain ⟨T2, Q2, hC2, hB2⟩ := zn4 zc (by omega) s2 h2 (by omega)
  obtain ⟨T3, Q3, hC3, hB3⟩ := zn4 xc (by omega) s3 h3 (by omega)
  have hbl := (List.getElem?_eq_some_iff.1 hb).1
  refine .go Try.call11 Try.func11 false [] dOk ?_
  simp only [zbp, Nat.reduceAdd]
  repeat' (first
 |(refine za4 ?_; (first | refine zcm ?_ | refine zay ?_ | refine m13 ?_ | refine m12 ?_ | refine m11 ?_ | (refine m10 ?_; (first | refine zci ?_ | refine zcd ?_ | refine zch ?_ | refine zce ?_ | refine zcg ?_ ?_ | refine zcf ?_ ?_ | refine zcc ?_ ?_ | refine zcb ?_ ?_ | fail)) | (refine m09 ?_; (first | refine zci ?_ | refine zcd ?_ | refine zch ?_ | refine zce ?_ | refine zcg ?_ ?_ | refine zcf ?_ ?_ | refine zcc ?_ ?_ | refine zcb ?_ ?_ | fail)) | refine m38 ?_ | fail))
 |(refine za5 ?_; (first | refine m14 ?_ | (refine m17 ?_; first | refine m19 ?_ | refine m18 ?_) | (refine m07 ?_; (first | refine m15 ?_ | refine m16 ?_ | fail)) | refine zza (by first | (conv => {lhs; whnf}; done) | exact (by exact rfl) | fail) (by first | (conv => {lhs; whnf}; done) | exact (by exact rfl) | fail) (by first | (conv => {lhs; whnf}; done) | exact (by exact rfl) | fail) (by exact rfl) ?_ | (refine m00 ?_; (first | refine m54 ?_ | refine m55 ?_ | refine zck ?_ | refine m47 ?_ | refine m48 ?_ | refine m49 ?_ | refine m50 ?_ | refine zdk ?_ | refine zdi ?_ | refine zdj ?_ | refine v_k ?_ | refine m51 ?_ | fail)) | (refine m22 ?_; (first | refine m26 ?_ | refine m27 ?_ | fail)) | refine m42 ?_ | refine zad ?_ | refine zae ?_ | refine m08 ?_ | (refine m20 ?_; (first | refine m54 ?_ | refine m55 ?_ | refine zck ?_ | refine m47 ?_ | refine m48 ?_ | refine m49 ?_ | refine m50 ?_ | refine zdk ?_ | refine zdi ?_ | refine zdj ?_ | refine v_k ?_ | refine m51 ?_ | fail)) | refine zao ?_ | refine m23 ?_ | refine m25 ?_ | refine m01 ?_ | refine m24 ?_ | refine zco ?_ | refine zu6 (by first | (conv => {lhs; whnf}; done) | exact (by exact rfl) | fail) (by first | (conv => {lhs; whnf}; done) | exact (by exact rfl) | fail) (by first | assumption | exact rfl) ?_ | fail))
 |(refine zcv ?_; (first | refine m36 ?_ | refine zct ?_ | refine m32 ?_ | refine m31 ?_ | refine m30 ?_ | (refine m28 ?_; (first | refine zca ?_ | refine zb5 ?_ | refine zb9 ?_ | refine zb6 ?_ | refine zb8 ?_ ?_ | refine zb7 ?_ ?_ | refine zb4 ?_ ?_ | refine zb3 ?_ ?_ | fail)) | (refine m29 ?_; (first | refine zca ?_ | refine zb5 ?_ | refine zb9 ?_ | refine zb6 ?_ | refine zb8 ?_ ?_ | refine zb7 ?_ ?_ | refine zb4 ?_ ?_ | refine zb3 ?_ ?_ | fail)) | refine m37 ?_ | fail))
 |(refine zcu ?_; (first | refine zfe ?_ | refine zh6 ?_ | refine zh7 (by (conv => {lhs; whnf}); done) ?_ | refine zh8 ?_ | refine zh5 (by exact rfl) (by exact rfl) ?_ | refine m34 ?_ | refine m35 ?_ | refine m33 ?_ | refine zff ?_ | refine m56 ?_ | refine zcw ?_ | refine zdr (by exact rfl) ?_ | fail))
 |refine za2 ?_ | refine za3 ?_ | refine za1 ?_
 |(refine za6 ?_; (first | refine za0 ?_ | refine zab ?_ | (refine m06 ?_; (first | refine c_T ?_ | refine c_F ?_ | refine c_P ?_ ?_ | refine c_B ?_ ?_ | fail)) | refine zaz ?_ | refine zaq ?_ | refine zai ?_ | refine b_exit ?_ | refine zax (id := 6) [] [11] [(0, .lt), (1, .ld true), (2, .lt), (3, .ld true), (5, .ld true), (6, .lt), (7, .ld true), (9, .lt), (10, .ld true), (4, .mn true), (8, .mn true), (11, .mn false), (12, .lt)] (by kernel_rfl) ?_ | fail))
 |refine m43 ?_
 |refine zcs ?_
 |refine m21 ?_
 |refine zbb ?_
 |(refine zbd ?_; (first | refine cA (zsy _ s1 s2 s3 h1 h2 h3) ?_ | refine cA (zqf _ (.slm bx lx.length 0 lx.length 1) lx (FL.app (FL.old hbx (by exact rfl) rfl) _) xo _ _ xl hxI hxG) ?_ | refine cA (zqf _ (.slm by_ ly.length 0 ly.length 1) ly (FL.app (FL.old hby (by exact rfl) rfl) _) yo _ _ yl hyI hyG) ?_ | refine cA (zqf _ (.slm b l.length 0 l.length 1) l (FL.app (FL.old hb (by exact rfl) rfl) _) zo _ _ zl hzI hzG) ?_ | refine cA (zi8 _ _ (.slm b l.length 0 l.length 1) l (FL.app (FL.old hb (by exact rfl) rfl) _) zo zl zr zc hzI hzG (by omega) (by omega) _ (by (conv => {lhs; simp only [List.length_append, List.length_cons, List.length_nil, List.length_set, Nat.reduceAdd, Nat.zero_add]}); done) (by (conv => {lhs; simp only [List.append_assoc, List.cons_append, List.nil_append]}); done)) ?_ | refine cA (zst H bx lx hbx xo xl xr xc hxI hxG by_ ly hby yo yl yr yc hyI hyG (mel l zo zl) zr zc hzr hzc (by omega) (by omega) A B) ?_ | refine cA (zk5 _ (.slm bx lx.length 0 lx.length 1) _ (FL.app (FL.old hbx (by exact rfl) rfl) _) xo xr xc xl hxI hxG 0 0 (xr : Int) 0 (by omega) (by omega) (by omega) (by omega) (by omega) (by omega)) ?_ | refine cA (zk5 _ (.slm by_ ly.length 0 ly.length 1) _ (FL.app (FL.old hby (by exact rfl) rfl) _) yo yr yc yl hyI hyG 0 0 0 (yc : Int) (by omega) (by omega) (by omega) (by omega) (by omega) (by omega)) ?_ | refine cA (hmb _) ?_ | refine cA (hmc _) ?_ | refine c_call (z0d H b l hb zo zl zr zc hzI hzG hzr hzc _) (za7.set (by simp) (by rw [zbs]; omega)) ?_ | refine c_call (zzi H bx lx hbx xo xl xr xc hxI hxG by_ ly hby yo yl yr yc hyI hyG b l hb zo zl zr zc hzI hzG he1 he2 he3 lo hi lox hix loy hiy hin hinx hiny hfx hfy A s1 s2 s3 T1 Q1 hC1 hB1 T2 Q2 hC2 hB2 T3 Q3 hC3 hB3 (fun i j => gmB B (mel l zo zl i j)) (fun i j => zw3 _ _) _) (za7.set2 hbl (by simp) (by rw [zbs]; omega)) ?_ | fail))
 |refine m58 ?_
 |refine zdu ?_
 |refine zbz ?_ | refine zb0 ?_ | refine zby ?_ | refine m57 ?_
 |refine m05 ?_
 |refine m04 ?_ | refine m02 ?_ | refine m03 ?_ | refine zar ?_
 |intro _)
  all_goals first
    | (exfalso; contradiction)
    | (exfalso; omega)
    | (exfalso; simp_all; done)
    | (exfalso; simp_all; omega)
    | (refine zan (by simp) (by simp [mx, mxL, zaf, aOf, zb1]) ?_; exact rfl)
end Go.Sx
