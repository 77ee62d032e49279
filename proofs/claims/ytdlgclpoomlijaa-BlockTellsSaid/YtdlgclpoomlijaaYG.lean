/- A part of the proofs of this seat: YG. No condition is set. -/
import Derived.Ground.Names2Prog
import Derived.Shelf.Slices.CompactI
import Derived.Shelf.Sort.Plain
import Derived.Sort.Grow
import Derived.Sort.Row
import Derived.Test.YtdlgclpoomlijaaProg
import Derived.Test.YtdlgclpoomlijaaYE
import Derived.Test.YtdlgclpoomlijaaYF
set_option maxHeartbeats 8000000
set_option linter.unusedVariables false
set_option linter.unusedSimpArgs false
set_option maxRecDepth 20000
namespace Go.Sx
open Go.Proofs
attribute [local irreducible] Ex zas exD opX opE zdd zfl zfs Spec zab Fr zda zbc zbb ckK zcd zc0 zbt faK zcs ze5 gK fK rK zg7 lpX prK
theorem zwz (H : List (List AV)) (D : AV) (l : List Nat) (hF : FL H D l) (off n inc : Int) (hI : VI l.length off n inc) :
    zab Try.prog 97 [vt D off n inc] H (mt D off 1 n inc) H := by
  refine .go Try.call97 Try.func97 false [] dOk ?_
  simp only [zbf, Nat.reduceAdd]
  repeat' (first
 |(refine za1 ?_; (first | refine zce ?_ | refine zav ?_ | fail))
 |(refine za2 ?_; (first | (refine m17 ?_; first | refine m19 ?_ | refine m18 ?_) | (refine m07 ?_; (first | refine m15 ?_ | refine m16 ?_ | fail)) | refine m25 ?_ | refine m01 ?_ | refine m24 ?_ | refine zca ?_ | fail))
 |refine zaz ?_ | refine za0 ?_ | refine zay ?_
 |(refine za3 ?_; (first | refine zax ?_ | refine zac ?_ | (refine m06 ?_; (first | refine c_T ?_ | refine c_F ?_ | refine c_P ?_ ?_ | refine c_B ?_ ?_ | fail)) | refine zaw ?_ | refine zam ?_ | refine zaf ?_ | refine b_exit ?_ | fail))
 |refine m58 ?_
 |refine zdb ?_
 |refine m05 ?_
 |refine m04 ?_ | refine m02 ?_ | refine m03 ?_ | refine zan ?_
 |intro _)
  all_goals first
    | (refine zao rfl (by have := hF.mx; simp [mx, mxL, zai, aOf, zb5]; omega) ?_; exact rfl)
theorem zr6 (H N : List (List AV)) (D : AV) (m : Nat) (off n inc : Int) (hI : VI m off n inc) (h : ∃ l', FL H D l' ∧ l'.length = m) : zab Try.prog 97 [vt D off n inc] (H ++ N) (mt D off 1 n inc) (H ++ N) := by
  obtain ⟨l', h1, h2⟩ := h
  subst h2; exact zwz _ D l' (h1.app N) off n inc hI
theorem zci {m : Nat} {off inc : Int} {n k : Nat} (hR : zaq m off n inc) (hk : k < n) : off + (k : Int) * inc = ((pos off inc 0 k : Nat) : Int) := by
  have h1 := zc3 hR (i := (k : Int)) (by omega) (by omega)
  unfold pos; omega
theorem zdw {m : Nat} {off inc : Int} {n k : Nat} (hR : zaq m off n inc) (hk : k < n) : pos off inc 0 k < m := by
  have h1 := zc3 hR (i := (k : Int)) (by omega) (by omega)
  unfold pos; omega
theorem zs5 (H : List (List AV)) (D : AV) (m : Nat) (hD : slen D = some m) (hm : mx D ≤ H.length) (xo xi : Int) (n : Nat) (hxI : VI m xo n xi) (hxR : zaq m xo n xi) (i : Nat) (hi : i < n) :
    zab Try.prog 98 [vt D xo (n : Int) xi, .int .i64 (i : Int)] H (.eptr D (pos xo xi 0 i)) H := by
  obtain ⟨vn, vo1, vo2, vn1, vn2, vi1, vi2⟩ := id hxI
  refine .go Try.call98 Try.func98 false [] dOk ?_
  simp only [zbf, Nat.reduceAdd]
  repeat' (first
 |(refine za1 ?_; (first | refine zce ?_ | refine zav ?_ | fail))
 |(refine za2 ?_; (first | refine m14 ?_ | (refine m17 ?_; first | refine m19 ?_ | refine m18 ?_) | (refine m07 ?_; (first | refine m15 ?_ | refine m16 ?_ | fail)) | refine zpi (m := pos xo xi 0 i) (by (conv => {lhs; whnf}); done) (by (conv => {lhs; whnf}); done) (by exact hD) (by exact zci hxR hi) (by exact zdw hxR hi) ?_ | (refine m00 ?_; (first | refine v_w (by first | omega | (have h1 := zc3 hxR (i := (i : Int)) (by omega) (by omega); omega) | fail) ?_ | refine m49 ?_ | refine m50 ?_ | refine v_k ?_ | refine m51 ?_ | fail)) | refine m42 ?_ | refine zad ?_ | refine zae ?_ | refine m08 ?_ | refine m01 ?_ | fail))
 |refine zaz ?_ | refine za0 ?_ | refine zay ?_
 |(refine za3 ?_; (first | refine zax ?_ | refine zac ?_ | (refine m06 ?_; (first | refine c_T ?_ | refine c_F ?_ | refine c_P ?_ ?_ | refine c_B ?_ ?_ | fail)) | refine zaw ?_ | refine zam ?_ | refine zaf ?_ | refine b_exit ?_ | fail))
 |refine m05 ?_
 |refine m04 ?_ | refine m02 ?_ | refine m03 ?_ | refine zan ?_
 |intro _)
  all_goals first
    | (refine zao rfl (by simp [mx, mxL, zai, aOf, zb5]; omega) ?_; exact rfl)
theorem zvi (H : List (List AV)) (b : Nat) (l : List Nat) (hbl : b < H.length) (yo yi : Int) (n : Nat) (hyI : VI l.length yo n yi) (hyR : zaq l.length yo n yi) (f : Nat → Nat) (N : List (List AV)) (i : Nat) (hi : i < n) : zab Try.prog 98 [vt (.slm b l.length 0 l.length 1) yo (n : Int) yi, .int .i64 (i : Int)] (H.set b (fl (za6 l yo yi n f)) ++ N) (.eptr (.slm b l.length 0 l.length 1) (pos yo yi 0 i)) (H.set b (fl (za6 l yo yi n f)) ++ N) :=
  zs5 _ _ _ rfl (by simp [mx]; omega) yo yi n hyI hyR i hi
theorem zv6 {P : Program} {e : List (Nat × EV)} {L : List (Nat × List AV)} {H N : List (List AV)} {K : St → Prop} {dd : Nat} {t : TypeId} {b : Nat} {l : List Nat} {yo yi : Int} {n : Nat} {f : Nat → Nat} {i : Nat} [ti : TyI P t 1 false] (hb : b < H.length) (hyR : zaq l.length yo n yi) (hi : i < n) (h : K ⟨(dd, .val (.flt (f i))) :: e, L, H.set b (fl (za6 l yo yi n f)) ++ N⟩) :
    zbt P t dd K ⟨e, L, H.set b (fl (za6 l yo yi n f)) ++ N⟩ (.val (.eptr (.slm b l.length 0 l.length 1) (pos yo yi 0 i))) :=
  zzc hb (by simp) (by rw [Nat.zero_add]; simp; exact zfr hyR hi) (by rw [Nat.zero_add, zqu hyR hi]; exact h)
theorem zvk (H : List (List AV)) (b : Nat) (l : List Nat) (hbl : b < H.length) (yo yi : Int) (n : Nat) (hyI : VI l.length yo n yi) (hyR : zaq l.length yo n yi) (B : Nat) (f : Nat → Nat) :
    zab Try.prog 77 [.flt B, vt (.slm b l.length 0 l.length 1) yo (n : Int) yi] (H.set b (fl (za6 l yo yi n f))) (.tup []) (H.set b (fl (za6 l yo yi n (fun i => gmB B (f i))))) := by
  obtain ⟨vn, vo1, vo2, vn1, vn2, vi1, vi2⟩ := id hyI
  have hA : (za6 l yo yi n (gbP B f 0)) = (za6 l yo yi n f) := zbh hyR.2.2.1 hyR.2.1 fun i hi => znk i
  have hZ : (za6 l yo yi n (gbP B f n)) = (za6 l yo yi n (fun i => gmB B (f i))) := zbh hyR.2.2.1 hyR.2.1 fun i hi => zpu i hi
  have hs : ∀ k, k < n → (za6 l yo yi n (gbP B f k)).set (0 + pos yo yi 0 k) (gmB B (f k)) = (za6 l yo yi n (gbP B f (k + 1))) := fun k hk => (by rw [Nat.zero_add, zir hyR hk]; exact zbh hyR.2.2.1 hyR.2.1 fun i hi => zpv i)
  have hc0 : cn 0 = 0 := by decide
  rw [← hA, ← hZ]
  refine .go Try.call77 Try.func77 false [] dOk ?_
  simp only [zbf, Nat.reduceAdd]
  repeat' (first
 |(refine za1 ?_; (first | refine zce ?_ | refine zav ?_ | fail))
 |(refine za2 ?_; (first | refine m41 ?_ | refine zc9 ?_ | refine m14 ?_ | (refine m17 ?_; first | refine m19 ?_ | refine m18 ?_) | (refine m07 ?_; (first | refine m15 ?_ | refine m16 ?_ | refine zv6 hbl hyR (show k < n by omega) ?_ | fail)) | refine zrd (by (conv => {lhs; whnf}); done) ?_ | refine zpj (X' := (za6 l yo yi n (gbP B f (k + 1)))) (f := cn 0) (by (conv => {lhs; whnf}); done) (by exact rfl) hbl (by simp) (by simp; exact zfr hyR (by omega)) (by rw [← hs k (by omega), zvp (by simp_all), hc0]) ?_ | refine zpj (X' := (za6 l yo yi n (gbP B f (k + 1)))) (by (conv => {lhs; whnf}); done) (by (conv => {lhs; whnf}); done) hbl (by simp) (by simp; exact zfr hyR (by omega)) (by rw [← hs k (by omega), zvo (by simp_all), zvj]) ?_ | (refine m45 ?_; (first | refine zf4 ((k + 1 : Nat) : Int) (by omega) (by omega) ?_ | refine zde (by exact rfl) ?_ | refine v_k ?_ | fail)) | (refine m00 ?_; (first | refine zf4 ((k + 1 : Nat) : Int) (by omega) (by omega) ?_ | refine m52 ?_ | refine m53 ?_ | refine ze3 ?_ | refine m47 ?_ | refine m48 ?_ | refine m49 ?_ | refine m50 ?_ | refine v_k ?_ | refine m51 ?_ | fail)) | refine m08 ?_ | refine zar ?_ | refine m25 ?_ | refine m01 ?_ | fail))
 |refine zaz ?_ | refine za0 ?_ | refine zay ?_
 |(refine za3 ?_; (first | refine zax ?_ | refine zac ?_ | (refine m06 ?_; (first | refine c_T ?_ | refine c_F ?_ | refine c_P ?_ ?_ | refine c_B ?_ ?_ | fail)) | refine zaw ?_ | refine zam ?_ | refine zaf ?_ | refine b_exit ?_ | (refine zb3 [0, 3, 7, 8] n (fun k => ⟨[(0, .val (.flt B)), (3, .loc 3 0), (7, .val (.int .i64 ((n : Nat) : Int))), (8, .val (.int .i64 ((k : Nat) : Int)))], [(3, [(.slm b l.length 0 l.length 1), .int .i64 yo, .int .i64 (n : Int), .int .i64 yi])], H.set b (fl (za6 l yo yi n (gbP B f k))) ++ []⟩) (by exact rfl) ?_ ?_ <;> (first | intro k hk K hK | intro K) <;> (try dsimp only at *)) | fail))
 |refine m21 ?_
 |refine zbi ?_
 |(refine zbj ?_; (first | refine cA (zvi H b l hbl yo yi n hyI hyR _ [] k (by omega)) ?_ | fail))
 |refine zc7 ?_ | refine zc8 ?_ | refine zc6 ?_ | refine m57 ?_
 |refine zkg ?_ | refine zkh ?_ | refine zkf ?_
 |(refine zkk (by exact rfl) ?_; first | exact hK | fail | (exfalso; first | omega | (simp_all; done) | (simp_all; omega)))
 |refine m05 ?_
 |refine m04 ?_ | refine m02 ?_ | refine m03 ?_ | refine zan ?_
 |intro _)
  all_goals first
    | (exfalso; contradiction)
    | (exfalso; omega)
    | (refine zao (by simp) (by simp [mx, mxL, zai, aOf, zb5]) ?_; exact rfl)
theorem zxv (H : List (List AV)) (ba A : Nat) (hba : H[ba]? = some [.flt A]) (v x : Nat) :
    zab Try.prog 79 [.flt v, .flt x, .eptr (.slm ba 1 0 1 1) 0] H (.flt (zjc (zjc A x) v)) H := by
  refine .go Try.call79 Try.func79 false [] dOk ?_
  simp only [zbf, Nat.reduceAdd]
  repeat' (first
 |(refine za1 ?_; (first | refine zce ?_ | refine zav ?_ | fail))
 |(refine za2 ?_; (first | refine m14 ?_ | (refine m07 ?_; (first | refine m15 ?_ | refine m16 ?_ | refine zzd hba (by exact rfl) (by exact rfl) ?_ | fail)) | (refine m00 ?_; (first | refine m49 ?_ | refine m50 ?_ | refine v_k ?_ | refine m51 ?_ | fail)) | refine m42 ?_ | refine zad ?_ | refine zae ?_ | refine m08 ?_ | fail))
 |refine zaz ?_ | refine za0 ?_ | refine zay ?_
 |(refine za3 ?_; (first | refine zax ?_ | refine zac ?_ | (refine m06 ?_; (first | refine c_T ?_ | refine c_F ?_ | refine c_P ?_ ?_ | refine c_B ?_ ?_ | fail)) | refine zaw ?_ | refine zam ?_ | refine zaf ?_ | refine b_exit ?_ | fail))
 |refine m05 ?_
 |refine m04 ?_ | refine m02 ?_ | refine m03 ?_ | refine zan ?_
 |intro _)
  all_goals first | refine zao rfl (by simp [mx, mxL, aOf, zb5, zai]) ?_ | (trace_state; fail)
  all_goals exact rfl
theorem zje (H N : List (List AV)) (D : AV) (m : Nat) (off ld : Int) (r c : Nat) (hI : MI m off r c ld) (hG : zaa m off r c ld) (h : ∃ l', FL H D l' ∧ l'.length = m) (j : Nat) (hj : j < c) :
    zab Try.prog 57 [mt D off (r : Int) (c : Int) ld, .int .i64 (j : Int)] (H ++ N) (vt D (zdg off (r : Int) ld (j : Int)) (r : Int) 1) (H ++ N) := by
  obtain ⟨l', h1, h2⟩ := h
  subst h2; exact zvb _ D l' (h1.app N) off r c ld hI hG j (by omega) (by omega)
theorem zi7 {m : Nat} {off ld : Int} {r c j : Nat} (hI : MI m off r c ld) (hG : zaa m off r c ld) (hj : j < c) : VI m (zdg off (r : Int) ld (j : Int)) r 1 := by
  obtain ⟨hm, ho1, ho2, hr1, hr2, hc1, hc2, hl1, hl2⟩ := id hI
  have h := zdq hG (j := (j : Int)) (by omega) (by omega)
  unfold zdg at h ⊢
  by_cases hr : 0 < r
  · rw [if_pos (by omega)] at h ⊢
    have h1 := zc3 h (i := 0) (by omega) (by omega)
    exact ⟨hm, by omega, by omega, by omega, by omega, by omega, by omega⟩
  · rw [if_neg (by omega)] at h ⊢
    exact ⟨hm, by omega, by omega, by omega, by omega, by omega, by omega⟩
theorem zs6 (H : List (List AV)) (b : Nat) (l : List Nat) (hbl : b < H.length) (yo yi : Int) (n : Nat) (hyI : VI l.length yo n yi) (hyR : zaq l.length yo n yi) (D : AV) (hD : mx D ≤ H.length) (ml : Nat) (mo ld : Int) (w : Nat) (hI : MI ml mo n w ld) (hG : zaa ml mo n w ld) (a : Nat → Nat → Nat) (hrd : ∀ f, ∃ l', FL (H.set b (fl (za6 l yo yi n f))) D l' ∧ l'.length = ml ∧ ∀ i j, i < n → j < w → mel l' mo ld i j = a i j) (X : AV) (hX : mx X ≤ H.length) (xl : Nat) (xo xi : Int) (hxI : VI xl xo w xi) (hxR : zaq xl xo w xi) (xv : Nat → Nat) (hrx : ∀ f, ∃ l', FL (H.set b (fl (za6 l yo yi n f))) X l' ∧ l'.length = xl ∧ ∀ j, j < w → vf l' xo xi j = xv j) (hn0 : 0 < n) (A fid : Nat) (caps : List AV) (hcl : ∀ v x f N, zab Try.prog fid ([.flt v, .flt x] ++ caps) (H.set b (fl (za6 l yo yi n f)) ++ N) (.flt (zjc (zjc A x) v)) (H.set b (fl (za6 l yo yi n f)) ++ N)) (f : Nat → Nat) :
    zab Try.prog 78 [mt D mo (n : Int) (w : Int) ld, vt X xo (w : Int) xi, vt (.slm b l.length 0 l.length 1) yo (n : Int) yi, .func fid [] caps] (H.set b (fl (za6 l yo yi n f))) (.tup []) (H.set b (fl (za6 l yo yi n (gmC A a xv f w)))) := by
  obtain ⟨vn, vo1, vo2, vn1, vn2, vi1, vi2⟩ := id hyI
  obtain ⟨hm, ho1, ho2, hr1, hr2, hc1, hc2, hl1, hl2⟩ := id hI
  obtain ⟨wn, wo1, wo2, wn1, wn2, wi1, wi2⟩ := id hxI
  have hA : (za6 l yo yi n (gmC A a xv f 0)) = (za6 l yo yi n f) := zbh hyR.2.2.1 hyR.2.1 fun i hi => rfl
  have hB : ∀ k, (za6 l yo yi n (gmP A a xv f k 0)) = (za6 l yo yi n (gmC A a xv f k)) := fun k => zbh hyR.2.2.1 hyR.2.1 fun i hi => znm i
  have hZ : ∀ k, (za6 l yo yi n (gmP A a xv f k n)) = (za6 l yo yi n (gmC A a xv f (k + 1))) := fun k => zbh hyR.2.2.1 hyR.2.1 fun i hi => zpy i hi
  have hs : ∀ k t, t < n → (za6 l yo yi n (gmP A a xv f k t)).set (0 + pos yo yi 0 t) (zpb ((gmP A a xv f k t) t) (zjc (zjc A (xv k)) (a t k))) = (za6 l yo yi n (gmP A a xv f k (t + 1))) := fun k t ht => (by rw [Nat.zero_add, zir hyR ht]; exact zbh hyR.2.2.1 hyR.2.1 fun i hi => zpz i)
  have hDl : slen D = some ml := (by obtain ⟨l', h1, h2, _⟩ := hrd f; rw [← h2]; exact h1.len)
  have hXl : slen X = some xl := (by obtain ⟨l', h1, h2, _⟩ := hrx f; rw [← h2]; exact h1.len)
  have hcp : ∀ k t, k < w → t < n → pos (zdg mo (n : Int) ld (k : Int)) 1 0 t = pos mo ld t k := fun k t hk ht => (by unfold zdg; rw [if_pos (by omega)]; exact zlk)
  rw [← hA]
  refine .go Try.call78 Try.func78 false [] dOk ?_
  simp only [zbf, Nat.reduceAdd]
  repeat' (first
 |(refine za1 ?_; (first | refine zce ?_ | refine zav ?_ | fail))
 |(refine za2 ?_; (first | refine m41 ?_ | refine zc9 ?_ | refine m14 ?_ | (refine m17 ?_; first | refine m19 ?_ | refine m18 ?_) | (refine m07 ?_; (first | refine m15 ?_ | refine m16 ?_ | refine zv6 hbl hyR (show t < n by omega) ?_ | refine zx3 (hrd _) hG (show t < n by omega) (show k < w by omega) (by exact hcp k t (by omega) (by omega)) ?_ | refine zv5 (hrx _) hxR (show k < w by omega) (by exact rfl) ?_ | fail)) | refine zrd (by (conv => {lhs; whnf}); done) ?_ | refine zpj (X' := (za6 l yo yi n (gmP A a xv f k (t + 1)))) (by (conv => {lhs; whnf}); done) (by (conv => {lhs; whnf}); done) hbl (by simp) (by simp; exact zfr hyR (by omega)) (by exact hs k t (by omega)) ?_ | (refine m00 ?_; (first | refine zf4 ((k + 1 : Nat) : Int) (by omega) (by omega) ?_ | refine zf4 ((t + 1 : Nat) : Int) (by omega) (by omega) ?_ | refine m47 ?_ | refine m48 ?_ | refine m49 ?_ | refine m50 ?_ | refine v_k ?_ | refine m51 ?_ | fail)) | refine m08 ?_ | refine zar ?_ | refine m39 ?_ | refine m25 ?_ | refine m01 ?_ | refine m24 ?_ | fail))
 |(refine zcy ?_; (first | refine m36 ?_ | refine zcw ?_ | fail))
 |(refine zcx ?_; (first | refine zgb ?_ | refine zh9 ?_ | refine zia (by (conv => {lhs; whnf}); done) ?_ | refine zib ?_ | refine zh8 (by exact rfl) (by exact rfl) ?_ | refine m34 ?_ | refine m35 ?_ | refine m33 ?_ | refine zgc ?_ | refine m56 ?_ | refine zcz ?_ | refine zdr (by exact rfl) ?_ | fail))
 |refine zaz ?_ | refine za0 ?_ | refine zay ?_
 |(refine za3 ?_; (first | refine zax ?_ | refine zac ?_ | (refine m06 ?_; (first | refine c_T ?_ | refine c_F ?_ | refine c_P ?_ ?_ | refine c_B ?_ ?_ | fail)) | refine zaw ?_ | refine zam ?_ | refine zaf ?_ | refine b_exit ?_ | refine zba (id := 8) [] [19] [(0, .ld true), (1, .lt), (5, .lt), (6, .ld true), (7, .lt), (11, .ld true), (12, .lt), (2, .mn true), (3, .lt), (4, .ld true), (8, .mn true), (9, .lt), (10, .ld true), (13, .mn true), (14, .lt), (15, .ld true), (16, .mn true), (17, .lt), (18, .lt), (19, .mn false)] (by kernel_rfl) ?_ | (refine zb3 [3, 4, 5, 6, 8, 9, 12, 13, 20, 21] n (fun t => ⟨[(3, .val (.func fid [] caps)), (4, .loc 4 0), (5, .loc 5 0), (6, .loc 6 0), (8, .val (.int .i64 ((k : Nat) : Int))), (9, .loc 9 0), (12, .val (.int .i64 ((w : Nat) : Int))), (13, .val (.int .i64 ((k : Nat) : Int))), (20, .val (.int .i64 ((n : Nat) : Int))), (21, .val (.int .i64 ((t : Nat) : Int)))], [(4, [D, .int .i64 mo, .int .i64 (n : Int), .int .i64 (w : Int), .int .i64 ld]), (5, [X, .int .i64 xo, .int .i64 (w : Int), .int .i64 xi]), (6, [(.slm b l.length 0 l.length 1), .int .i64 yo, .int .i64 (n : Int), .int .i64 yi]), (9, [D, .int .i64 (zdg mo (n : Int) ld (k : Int)), .int .i64 (n : Int), .int .i64 1])], H.set b (fl (za6 l yo yi n (gmP A a xv f k t))) ++ []⟩) (by simp only [hB]; exact rfl) ?_ ?_ <;> (first | intro t ht K hK | intro K) <;> (try dsimp only at *)) | (refine zb3 [3, 4, 5, 6, 12, 13] w (fun k => ⟨[(3, .val (.func fid [] caps)), (4, .loc 4 0), (5, .loc 5 0), (6, .loc 6 0), (12, .val (.int .i64 ((w : Nat) : Int))), (13, .val (.int .i64 ((k : Nat) : Int)))], [(4, [D, .int .i64 mo, .int .i64 (n : Int), .int .i64 (w : Int), .int .i64 ld]), (5, [X, .int .i64 xo, .int .i64 (w : Int), .int .i64 xi]), (6, [(.slm b l.length 0 l.length 1), .int .i64 yo, .int .i64 (n : Int), .int .i64 yi])], H.set b (fl (za6 l yo yi n (gmC A a xv f k))) ++ []⟩) (by exact rfl) ?_ ?_ <;> (first | intro k hk K hK | intro K) <;> (try dsimp only at *)) | fail))
 |refine m21 ?_
 |refine zbi ?_
 |(refine zbj ?_; (first | refine cA (zje _ _ D ml mo ld n w hI hG ((hrd _).imp fun l' h => ⟨h.1, h.2.1⟩) k (by omega)) ?_ | refine cA (zvi H b l hbl yo yi n hyI hyR _ [] t (by omega)) ?_ | refine cA (zs5 _ D ml hDl (by simpa using hD) (zdg mo (n : Int) ld (k : Int)) 1 n (zi7 hI hG (by omega)) (zdq hG (by omega) (by omega)) t (by omega)) ?_ | refine cA (zs5 _ X xl hXl (by simpa using hX) xo xi w hxI hxR k (by omega)) ?_ | refine cA (hcl _ _ _ _) ?_ | fail))
 |refine m44 ?_
 |refine m40 ?_
 |(refine ze0 (by (conv => {lhs; simp only [List.nil_append, List.cons_append]}); done) ?_; first | refine ⟨by exact rfl, ?_⟩ | skip)
 |refine zfx ?_
 |(intro N' hN'; simp only [List.nil_append, List.cons_append] at hN'; subst hN')
 |refine zc7 ?_ | refine zc8 ?_ | refine zc6 ?_ | refine m57 ?_
 |refine zkg ?_ | refine zkh ?_ | refine zkf ?_
 |(refine zkk (by exact rfl) ?_; first | exact hK | (rw [hZ]; exact hK) | (exfalso; first | omega | (simp_all; done) | (simp_all; omega)))
 |refine m05 ?_
 |refine m04 ?_ | refine m02 ?_ | refine m03 ?_ | refine zan ?_
 |intro _)
  all_goals first
    | (exfalso; contradiction)
    | (exfalso; omega)
    | (refine zao (by simp) (by simp [mx, mxL, zai, aOf, zb5]) ?_; exact rfl)
theorem zio (H N : List (List AV)) (D : AV) (m : Nat) (off n inc : Int) (hI : VI m off n inc) (hR : zaq m off n inc) (h : ∃ l', FL H D l' ∧ l'.length = m) : zab Try.prog 82 [vt D off n inc] (H ++ N) (.bool true) (H ++ N) := by
  obtain ⟨l', h1, h2⟩ := h
  subst h2; exact zty _ D l' (h1.app N) off n inc hI true (decide_eq_true hR)
theorem zhk (H N : List (List AV)) (D : AV) (m : Nat) (off rows cols ld : Int) (hI : MI m off rows cols ld) (hG : zaa m off rows cols ld) (h : ∃ l', FL H D l' ∧ l'.length = m) : zab Try.prog 30 [mt D off rows cols ld] (H ++ N) (.bool true) (H ++ N) := by
  obtain ⟨l', h1, h2⟩ := h
  subst h2
  have h := zd0 (H ++ N) D l'.length off rows cols ld (h1.app N).len hI
  rwa [decide_eq_true hG] at h
theorem zxq (H : List (List AV)) (b : Nat) (l : List Nat) (hbl : b < H.length) (yo yi : Int) (n : Nat) (hyI : VI l.length yo n yi) (hyR : zaq l.length yo n yi) (f : Nat → Nat) : ∃ l', FL (H.set b (fl (za6 l yo yi n f))) (.slm b l.length 0 l.length 1) l' ∧ l'.length = l.length := ⟨za6 l yo yi n f, by have h := FL.set (N := []) (g := l.length) (q := l.length) (X := za6 l yo yi n f) hbl (by simp) (by simp); rw [List.append_nil] at h; exact h, by simp⟩
theorem zvm (H : List (List AV)) (b : Nat) (l : List Nat) (hbl : b < H.length) (yo yi : Int) (n : Nat) (hyI : VI l.length yo n yi) (hyR : zaq l.length yo n yi) (D : AV) (hD : mx D ≤ H.length) (ml : Nat) (mo ld : Int) (w : Nat) (hI : MI ml mo n w ld) (hG : zaa ml mo n w ld) (a : Nat → Nat → Nat) (hrd : ∀ f, ∃ l', FL (H.set b (fl (za6 l yo yi n f))) D l' ∧ l'.length = ml ∧ ∀ i j, i < n → j < w → mel l' mo ld i j = a i j) (X : AV) (hX : mx X ≤ H.length) (xl : Nat) (xo xi : Int) (hxI : VI xl xo w xi) (hxR : zaq xl xo w xi) (xv : Nat → Nat) (hrx : ∀ f, ∃ l', FL (H.set b (fl (za6 l yo yi n f))) X l' ∧ l'.length = xl ∧ ∀ j, j < w → vf l' xo xi j = xv j) (hm1 : ∀ f N, zab Try.prog 34 [mt (.slm b l.length 0 l.length 1) yo 1 (n : Int) yi, mt D mo (n : Int) (w : Int) ld] (H.set b (fl (za6 l yo yi n f)) ++ N) (.bool false) (H.set b (fl (za6 l yo yi n f)) ++ N)) (hm2 : ∀ f N, zab Try.prog 34 [mt (.slm b l.length 0 l.length 1) yo 1 (n : Int) yi, mt X xo 1 (w : Int) xi] (H.set b (fl (za6 l yo yi n f)) ++ N) (.bool false) (H.set b (fl (za6 l yo yi n f)) ++ N)) (f : Nat → Nat) :
    zab Try.prog 76 [mt D mo (n : Int) (w : Int) ld, .int .i64 (n : Int), .int .i64 (w : Int), vt X xo (w : Int) xi, vt (.slm b l.length 0 l.length 1) yo (n : Int) yi] (H.set b (fl (za6 l yo yi n f))) (.int .i64 0) (H.set b (fl (za6 l yo yi n f))) := by
  obtain ⟨vn, vo1, vo2, vn1, vn2, vi1, vi2⟩ := id hyI
  obtain ⟨hm, ho1, ho2, hr1, hr2, hc1, hc2, hl1, hl2⟩ := id hI
  obtain ⟨wn, wo1, wo2, wn1, wn2, wi1, wi2⟩ := id hxI
  refine .go Try.call76 Try.func76 false [] dOk ?_
  simp only [zbf, Nat.reduceAdd]
  repeat' (first
 |(refine za1 ?_; (first | refine zce ?_ | refine zav ?_ | refine m13 ?_ | refine m12 ?_ | refine m11 ?_ | (refine m10 ?_; (first | refine zbr ?_ | refine zbm ?_ | refine zbq ?_ | refine zbn ?_ | refine zbp ?_ ?_ | refine zbo ?_ ?_ | refine zbl ?_ ?_ | refine zbk ?_ ?_ | fail)) | (refine m09 ?_; (first | refine zbr ?_ | refine zbm ?_ | refine zbq ?_ | refine zbn ?_ | refine zbp ?_ ?_ | refine zbo ?_ ?_ | refine zbl ?_ ?_ | refine zbk ?_ ?_ | fail)) | refine m38 ?_ | fail))
 |(refine za2 ?_; (first | refine m14 ?_ | (refine m17 ?_; first | refine m19 ?_ | refine m18 ?_) | (refine m07 ?_; (first | refine m15 ?_ | refine m16 ?_ | fail)) | (refine m00 ?_; (first | refine m54 ?_ | refine m55 ?_ | refine zcb ?_ | refine m49 ?_ | refine m50 ?_ | refine zd3 ?_ | refine zd1 ?_ | refine zd2 ?_ | refine v_k ?_ | refine m51 ?_ | fail)) | (refine m22 ?_; (first | refine m26 ?_ | refine m27 ?_ | fail)) | refine m42 ?_ | refine zad ?_ | refine zae ?_ | refine m08 ?_ | (refine m20 ?_; (first | refine m54 ?_ | refine m55 ?_ | refine zcb ?_ | refine m49 ?_ | refine m50 ?_ | refine zd3 ?_ | refine zd1 ?_ | refine zd2 ?_ | refine v_k ?_ | refine m51 ?_ | fail)) | refine zar ?_ | refine m01 ?_ | fail))
 |(refine zcy ?_; (first | refine m36 ?_ | refine zcw ?_ | refine m32 ?_ | refine m31 ?_ | refine m30 ?_ | (refine m28 ?_; (first | refine zb2 ?_ | refine zbx ?_ | refine zb1 ?_ | refine zby ?_ | refine zb0 ?_ ?_ | refine zbz ?_ ?_ | refine zbw ?_ ?_ | refine zbv ?_ ?_ | fail)) | (refine m29 ?_; (first | refine zb2 ?_ | refine zbx ?_ | refine zb1 ?_ | refine zby ?_ | refine zb0 ?_ ?_ | refine zbz ?_ ?_ | refine zbw ?_ ?_ | refine zbv ?_ ?_ | fail)) | refine m37 ?_ | fail))
 |(refine zcx ?_; (first | refine zgb ?_ | refine zh9 ?_ | refine zia (by (conv => {lhs; whnf}); done) ?_ | refine zib ?_ | refine zh8 (by exact rfl) (by exact rfl) ?_ | refine m34 ?_ | refine m35 ?_ | refine m33 ?_ | refine zgc ?_ | refine m56 ?_ | refine zcz ?_ | refine zdr (by exact rfl) ?_ | fail))
 |refine zaz ?_ | refine za0 ?_ | refine zay ?_
 |(refine za3 ?_; (first | refine zax ?_ | refine zac ?_ | (refine m06 ?_; (first | refine c_T ?_ | refine c_F ?_ | refine c_P ?_ ?_ | refine c_B ?_ ?_ | fail)) | refine zaw ?_ | refine zam ?_ | refine zaf ?_ | refine b_exit ?_ | refine zba (id := 5) [] [] [(0, .ld true), (2, .ld true), (1, .mn true), (3, .mn true), (4, .lt), (5, .ld true), (7, .ld true), (6, .mn true), (8, .mn true), (9, .mn true), (10, .lt), (11, .lt)] (by kernel_rfl) ?_ | fail))
 |refine m21 ?_
 |refine zbi ?_
 |(refine zbj ?_; (first | refine cA (zhk _ _ D ml mo _ _ ld hI hG ((hrd _).imp fun l' h => ⟨h.1, h.2.1⟩)) ?_ | refine cA (zio _ _ X xl xo _ xi hxI hxR ((hrx _).imp fun l' h => ⟨h.1, h.2.1⟩)) ?_ | refine cA (zio _ _ (.slm b l.length 0 l.length 1) l.length yo _ yi hyI hyR (zxq H b l hbl yo yi n hyI hyR _)) ?_ | refine cA (zr6 _ _ (.slm b l.length 0 l.length 1) l.length yo _ yi hyI (zxq H b l hbl yo yi n hyI hyR _)) ?_ | refine cA (zr6 _ _ X xl xo _ xi hxI ((hrx _).imp fun l' h => ⟨h.1, h.2.1⟩)) ?_ | refine cA (hm1 _ _) ?_ | refine cA (hm2 _ _) ?_ | fail))
 |refine zc7 ?_ | refine zc8 ?_ | refine zc6 ?_ | refine m57 ?_
 |refine m05 ?_
 |refine m04 ?_ | refine m02 ?_ | refine m03 ?_ | refine zan ?_
 |intro _)
  all_goals first
    | (exfalso; contradiction)
    | (exfalso; omega)
    | (refine zao (by simp) (by simp [mx, mxL, zai, aOf, zb5]) ?_; exact rfl)
theorem zvn (H : List (List AV)) (b : Nat) (l : List Nat) (hbl : b < H.length) (yo yi : Int) (n : Nat) (hyI : VI l.length yo n yi) (hyR : zaq l.length yo n yi) (D : AV) (hD : mx D ≤ H.length) (ml : Nat) (mo ld : Int) (w : Nat) (hI : MI ml mo n w ld) (hG : zaa ml mo n w ld) (a : Nat → Nat → Nat) (hrd : ∀ f, ∃ l', FL (H.set b (fl (za6 l yo yi n f))) D l' ∧ l'.length = ml ∧ ∀ i j, i < n → j < w → mel l' mo ld i j = a i j) (X : AV) (hX : mx X ≤ H.length) (xl : Nat) (xo xi : Int) (hxI : VI xl xo w xi) (hxR : zaq xl xo w xi) (xv : Nat → Nat) (hrx : ∀ f, ∃ l', FL (H.set b (fl (za6 l yo yi n f))) X l' ∧ l'.length = xl ∧ ∀ j, j < w → vf l' xo xi j = xv j) (hm1 : ∀ f N, zab Try.prog 34 [mt (.slm b l.length 0 l.length 1) yo 1 (n : Int) yi, mt D mo (n : Int) (w : Int) ld] (H.set b (fl (za6 l yo yi n f)) ++ N) (.bool false) (H.set b (fl (za6 l yo yi n f)) ++ N)) (hm2 : ∀ f N, zab Try.prog 34 [mt (.slm b l.length 0 l.length 1) yo 1 (n : Int) yi, mt X xo 1 (w : Int) xi] (H.set b (fl (za6 l yo yi n f)) ++ N) (.bool false) (H.set b (fl (za6 l yo yi n f)) ++ N)) (f : Nat → Nat) (N : List (List AV)) : zab Try.prog 76 [mt D mo (n : Int) (w : Int) ld, .int .i64 (n : Int), .int .i64 (w : Int), vt X xo (w : Int) xi, vt (.slm b l.length 0 l.length 1) yo (n : Int) yi] (H.set b (fl (za6 l yo yi n f)) ++ N) (.int .i64 0) (H.set b (fl (za6 l yo yi n f)) ++ N) := by
  have hs : ∀ Z, (H ++ N).set b Z = H.set b Z ++ N := fun Z => zdk hbl
  have h := zvm (H ++ N) b l (by simp; omega) yo yi n hyI hyR D (by simp; omega) ml mo ld w hI hG a (fun f => by obtain ⟨l', h1, h2⟩ := hrd f; rw [hs]; exact ⟨l', h1.app N, h2⟩) X (by simp; omega) xl xo xi hxI hxR xv (fun f => by obtain ⟨l', h1, h2⟩ := hrx f; rw [hs]; exact ⟨l', h1.app N, h2⟩) (fun f N' => by rw [hs, List.append_assoc]; exact hm1 f (N ++ N')) (fun f N' => by rw [hs, List.append_assoc]; exact hm2 f (N ++ N')) f
  rwa [hs] at h
theorem zvl (H : List (List AV)) (b : Nat) (l : List Nat) (hbl : b < H.length) (yo yi : Int) (n : Nat) (hyI : VI l.length yo n yi) (hyR : zaq l.length yo n yi) (B : Nat) (f : Nat → Nat) (N : List (List AV)) : zab Try.prog 77 [.flt B, vt (.slm b l.length 0 l.length 1) yo (n : Int) yi] (H.set b (fl (za6 l yo yi n f)) ++ N) (.tup []) (H.set b (fl (za6 l yo yi n (fun i => gmB B (f i)))) ++ N) := by
  have h := zvk (H ++ N) b l (by simp; omega) yo yi n hyI hyR B f
  rwa [zdk hbl, zdk hbl] at h
theorem zs7 (H : List (List AV)) (b : Nat) (l : List Nat) (hbl : b < H.length) (yo yi : Int) (n : Nat) (hyI : VI l.length yo n yi) (hyR : zaq l.length yo n yi) (D : AV) (hD : mx D ≤ H.length) (ml : Nat) (mo ld : Int) (w : Nat) (hI : MI ml mo n w ld) (hG : zaa ml mo n w ld) (a : Nat → Nat → Nat) (hrd : ∀ f, ∃ l', FL (H.set b (fl (za6 l yo yi n f))) D l' ∧ l'.length = ml ∧ ∀ i j, i < n → j < w → mel l' mo ld i j = a i j) (X : AV) (hX : mx X ≤ H.length) (xl : Nat) (xo xi : Int) (hxI : VI xl xo w xi) (hxR : zaq xl xo w xi) (xv : Nat → Nat) (hrx : ∀ f, ∃ l', FL (H.set b (fl (za6 l yo yi n f))) X l' ∧ l'.length = xl ∧ ∀ j, j < w → vf l' xo xi j = xv j) (hn0 : 0 < n) (A q : Nat) (hq : q = H.length) (N : List (List AV)) (hA : N[0]? = some [.flt A]) (f : Nat → Nat) : zab Try.prog 78 [mt D mo (n : Int) (w : Int) ld, vt X xo (w : Int) xi, vt (.slm b l.length 0 l.length 1) yo (n : Int) yi, .func 79 [] [.eptr (.slm (q + 0) 1 0 1 1) 0]] (H.set b (fl (za6 l yo yi n f)) ++ N) (.tup []) (H.set b (fl (za6 l yo yi n (gmC A a xv f w))) ++ N) := by
  subst hq
  have hs : ∀ Z, (H ++ N).set b Z = H.set b Z ++ N := fun Z => zdk hbl
  have h := zs6 (H ++ N) b l (by simp; omega) yo yi n hyI hyR D (by simp; omega) ml mo ld w hI hG a (fun f => by obtain ⟨l', h1, h2⟩ := hrd f; rw [hs]; exact ⟨l', h1.app N, h2⟩) X (by simp; omega) xl xo xi hxI hxR xv (fun f => by obtain ⟨l', h1, h2⟩ := hrx f; rw [hs]; exact ⟨l', h1.app N, h2⟩) hn0 A 79 [.eptr (.slm (H.length + 0) 1 0 1 1) 0] (fun v x f N' => by rw [hs, List.append_assoc]; exact zxv _ _ A (zau (by simp) (by rw [List.getElem?_append_left (List.getElem?_eq_some_iff.1 hA).1]; exact hA)) v x) f
  rwa [hs, hs] at h
theorem zvt (H : List (List AV)) (b : Nat) (l : List Nat) (hbl : b < H.length) (yo yi : Int) (n : Nat) (hyI : VI l.length yo n yi) (hyR : zaq l.length yo n yi) (D : AV) (hD : mx D ≤ H.length) (ml : Nat) (mo ld : Int) (w : Nat) (hI : MI ml mo n w ld) (hG : zaa ml mo n w ld) (a : Nat → Nat → Nat) (hrd : ∀ f, ∃ l', FL (H.set b (fl (za6 l yo yi n f))) D l' ∧ l'.length = ml ∧ ∀ i j, i < n → j < w → mel l' mo ld i j = a i j) (X : AV) (hX : mx X ≤ H.length) (xl : Nat) (xo xi : Int) (hxI : VI xl xo w xi) (hxR : zaq xl xo w xi) (xv : Nat → Nat) (hrx : ∀ f, ∃ l', FL (H.set b (fl (za6 l yo yi n f))) X l' ∧ l'.length = xl ∧ ∀ j, j < w → vf l' xo xi j = xv j) (hm1 : ∀ f N, zab Try.prog 34 [mt (.slm b l.length 0 l.length 1) yo 1 (n : Int) yi, mt D mo (n : Int) (w : Int) ld] (H.set b (fl (za6 l yo yi n f)) ++ N) (.bool false) (H.set b (fl (za6 l yo yi n f)) ++ N)) (hm2 : ∀ f N, zab Try.prog 34 [mt (.slm b l.length 0 l.length 1) yo 1 (n : Int) yi, mt X xo 1 (w : Int) xi] (H.set b (fl (za6 l yo yi n f)) ++ N) (.bool false) (H.set b (fl (za6 l yo yi n f)) ++ N)) (A B : Nat) (f : Nat → Nat) :
    zab Try.prog 60 [.flt A, mt D mo (n : Int) (w : Int) ld, vt X xo (w : Int) xi, .flt B, vt (.slm b l.length 0 l.length 1) yo (n : Int) yi] (H.set b (fl (za6 l yo yi n f))) (.int .i64 0) (H.set b (fl (za6 l yo yi n (fun i => gmS A (a i) xv (gmB B (f i)) w)))) := by
  obtain ⟨vn, vo1, vo2, vn1, vn2, vi1, vi2⟩ := id hyI
  obtain ⟨hm, ho1, ho2, hr1, hr2, hc1, hc2, hl1, hl2⟩ := id hI
  obtain ⟨wn, wo1, wo2, wn1, wn2, wi1, wi2⟩ := id hxI
  have hE : n = 0 → (za6 l yo yi n (fun i => gmS A (a i) xv (gmB B (f i)) w)) = (za6 l yo yi n f) := fun h => zbh hyR.2.2.1 hyR.2.1 fun i hi => by omega
  refine .go Try.call60 Try.func60 true [] dOk ?_
  simp only [zbf, Nat.reduceAdd]
  repeat' (first
 |(refine za1 ?_; (first | refine zce ?_ | refine zav ?_ | refine m13 ?_ | refine m12 ?_ | refine m11 ?_ | (refine m10 ?_; (first | refine zbr ?_ | refine zbm ?_ | refine zbq ?_ | refine zbn ?_ | refine zbp ?_ ?_ | refine zbo ?_ ?_ | refine zbl ?_ ?_ | refine zbk ?_ ?_ | fail)) | (refine m09 ?_; (first | refine zbr ?_ | refine zbm ?_ | refine zbq ?_ | refine zbn ?_ | refine zbp ?_ ?_ | refine zbo ?_ ?_ | refine zbl ?_ ?_ | refine zbk ?_ ?_ | fail)) | refine m38 ?_ | fail))
 |(refine za2 ?_; (first | refine m14 ?_ | (refine m17 ?_; first | refine m19 ?_ | refine m18 ?_) | (refine m07 ?_; (first | refine m15 ?_ | refine m16 ?_ | refine zyi (by exact rfl) (by exact rfl) (by exact rfl) (by exact rfl) ?_ | refine zw4 (by exact rfl) (by exact rfl) (by exact rfl) (by exact rfl) ?_ | refine zyi (by simp) (by exact rfl) (by exact rfl) (by exact rfl) ?_ | refine zw4 (by simp) (by exact rfl) (by exact rfl) (by exact rfl) ?_ | fail)) | refine zum (by (conv => {lhs; whnf}); done) (by exact rfl) (by exact rfl) (by exact rfl) (by (conv => {lhs; whnf}); done) (by (conv => {lhs; simp only [List.nil_append, List.cons_append]}); done) ?_ | refine zxd ?_ | (refine m45 ?_; (first | refine zde (by exact rfl) ?_ | refine v_k ?_ | fail)) | (refine m00 ?_; (first | refine m52 ?_ | refine m53 ?_ | refine ze3 ?_ | refine m47 ?_ | refine m48 ?_ | refine m49 ?_ | refine m50 ?_ | refine v_k ?_ | refine m51 ?_ | fail)) | (refine m22 ?_; (first | refine m26 ?_ | refine m27 ?_ | fail)) | refine m42 ?_ | refine zad ?_ | refine zae ?_ | refine m08 ?_ | refine zar ?_ | refine m01 ?_ | fail))
 |refine zaz ?_ | refine za0 ?_ | refine zay ?_
 |(refine za3 ?_; (first | refine zax ?_ | refine zac ?_ | (refine m06 ?_; (first | refine c_T ?_ | refine c_F ?_ | refine c_P ?_ ?_ | refine c_B ?_ ?_ | fail)) | refine zaw ?_ | refine zam ?_ | refine zaf ?_ | refine b_exit ?_ | fail))
 |refine m21 ?_
 |refine zbi ?_
 |(refine zbj ?_; (first | refine cA (zvn H b l hbl yo yi n hyI hyR D hD ml mo ld w hI hG a hrd X hX xl xo xi hxI hxR xv hrx hm1 hm2 f _) ?_ | refine c_call (zvl H b l hbl yo yi n hyI hyR B f _) (zb7.set2 hbl (by simp) (by rw [zcl]; omega)) ?_ | refine c_call (zs7 H b l hbl yo yi n hyI hyR D hD ml mo ld w hI hG a hrd X hX xl xo xi hxI hxR xv hrx (by omega) A _ (by simp) _ (by exact rfl) (fun i => gmB B (f i))) (zb7.set2 hbl (by simp) (by rw [zcl]; omega)) ?_ | fail))
 |refine m44 ?_
 |refine m40 ?_
 |(refine ze0 (by (conv => {lhs; simp only [List.nil_append, List.cons_append]}); done) ?_; first | refine ⟨by exact rfl, ?_⟩ | skip)
 |refine zfx ?_
 |(intro N' hN'; simp only [List.nil_append, List.cons_append] at hN'; subst hN')
 |refine m05 ?_
 |refine m04 ?_ | refine m02 ?_ | refine m03 ?_ | refine zan ?_
 |intro _)
  all_goals first
    | (exfalso; contradiction)
    | (exfalso; omega)
    | (refine zao (by simp) (by simp [mx, mxL, zai, aOf, zb5]) ?_; exact rfl)
    | (rw [hE (by omega)]; refine zao (by simp) (by simp [mx, mxL, zai, aOf, zb5]) ?_; exact rfl)
end Go.Sx
set_option linter.unusedVariables false
set_option linter.unusedSimpArgs false
set_option maxRecDepth 20000
namespace Go.Sx
open Go.Proofs
def gmR (A B : Nat) (x y : Nat → Nat → Nat) (w : Nat) (g : Nat → Nat → Nat) : Nat → Nat → Nat := fun i j => gmS A (x i) (fun k => y k j) (gmB B (g i j)) w
theorem zeo (H : List (List AV)) (Da : AV) (na : Nat) (oa : Int) (ra ca : Nat) (la : Int) (hDa : slen Da = some na) (hIa : MI na oa ra ca la) (Db : AV) (nb : Nat) (ob rb cb lb : Int) (hDb : slen Db = some nb) (hIb : MI nb ob rb cb lb) (pe : Bool) (hpe : 0 < na → 0 < nb → ptrEq H Da 0 Db 0 = some pe) {lo hi lo1 hi1 : Int} (h1 : InS oa ra ca la lo hi) (h2 : InS ob rb cb lb lo1 hi1) (hf : zfk pe lo hi lo1 hi1) (hl : 1 ≤ la) :
    zab Try.prog 34 [mt Da oa (ra : Int) (ca : Int) la, mt Db ob rb cb lb] H (.bool false) H := by
  have h := zn1 H Da na oa ra ca la hDa hIa Db nb ob rb cb lb hDb hIb pe hpe
  rwa [decide_eq_false (zpq h1 h2 hf (zkp hl))] at h
theorem ztd (H : List (List AV)) (b : Nat) (l : List Nat) (hbl : b < H.length) (zo zl : Int) (r c : Nat) (hzI : MI l.length zo r c zl) (hzG : zaa l.length zo r c zl) (lo hi : Int) (hin : InS zo r c zl lo hi) (w : Nat) (X : AV) (hX : mx X ≤ H.length) (xm : Nat) (xo xl : Int) (hxI : MI xm xo r w xl) (hxG : zaa xm xo r w xl) (xa : Nat → Nat → Nat) (hrx : ∀ g, ∃ l', FL (H.set b (fl (zal l zo zl r c g))) X l' ∧ l'.length = xm ∧ ∀ i j, i < r → j < w → mel l' xo xl i j = xa i j) (px : Bool) (hpx : ∀ g N, 0 < l.length → 0 < xm → ptrEq (H.set b (fl (zal l zo zl r c g)) ++ N) (.slm b l.length 0 l.length 1) 0 X 0 = some px) (lox hix : Int) (hinx : InS xo r w xl lox hix) (hfx : zfk px lo hi lox hix) (Y : AV) (hY : mx Y ≤ H.length) (ym : Nat) (yo yl : Int) (hyI : MI ym yo w c yl) (hyG : zaa ym yo w c yl) (ya : Nat → Nat → Nat) (hry : ∀ g, ∃ l', FL (H.set b (fl (zal l zo zl r c g))) Y l' ∧ l'.length = ym ∧ ∀ i j, i < w → j < c → mel l' yo yl i j = ya i j) (py : Bool) (hpy : ∀ g N, 0 < l.length → 0 < ym → ptrEq (H.set b (fl (zal l zo zl r c g)) ++ N) (.slm b l.length 0 l.length 1) 0 Y 0 = some py) (loy hiy : Int) (hiny : InS yo w c yl loy hiy) (hfy : zfk py lo hi loy hiy) (A B : Nat) (g : Nat → Nat → Nat) (N : List (List AV)) (j : Nat) (hj : j < c) (hr0 : 0 < r) :
    zab Try.prog 60 [.flt A, mt X xo (r : Int) (w : Int) xl, vt Y (zdg yo (w : Int) yl (j : Int)) (w : Int) 1, .flt B, vt (.slm b l.length 0 l.length 1) (zdg zo (r : Int) zl (j : Int)) (r : Int) 1] (H.set b (fl (zal l zo zl r c g)) ++ N) (.int .i64 0) (H.set b (fl (zal l zo zl r c (zha g 0 r j (fun i => gmS A (xa i) (fun k => ya k j) (gmB B (g i j)) w)))) ++ N) := by
  have hst : ∀ f, (H ++ N).set b (fl (za6 (zal l zo zl r c g) (zdg zo (r : Int) zl (j : Int)) 1 r f)) = H.set b (fl (zal l zo zl r c (zha g 0 r j f))) ++ N := fun f => by rw [zdk hbl, zjv hzG hj hr0]
  have hlen : (zal l zo zl r c g).length = l.length := by simp
  have hI1 : VI l.length (zdg zo (r : Int) zl (j : Int)) (r : Int) 1 := zi7 hzI hzG hj
  have hR1 : zaq l.length (zdg zo (r : Int) zl (j : Int)) (r : Int) 1 := zdq hzG (by omega) (by omega)
  have hI2 : VI ym (zdg yo (w : Int) yl (j : Int)) (w : Int) 1 := zi7 hyI hyG hj
  have hR2 : zaq ym (zdg yo (w : Int) yl (j : Int)) (w : Int) 1 := zdq hyG (by omega) (by omega)
  have hXl : slen X = some xm := by obtain ⟨l', h1, h2, _⟩ := hrx g; rw [← h2]; exact h1.len
  have hYl : slen Y = some ym := by obtain ⟨l', h1, h2, _⟩ := hry g; rw [← h2]; exact h1.len
  have h := zvt (H ++ N) b (zal l zo zl r c g) (by simp; omega) (zdg zo (r : Int) zl (j : Int)) 1 r (by rw [hlen]; exact hI1) (by rw [hlen]; exact hR1) X (by simp; omega) xm xo xl w hxI hxG xa
    (fun f => by rw [hst]; obtain ⟨l', h1, h2⟩ := hrx (zha g 0 r j f); exact ⟨l', h1.app N, h2⟩) Y (by simp; omega) ym (zdg yo (w : Int) yl (j : Int)) 1 hI2 hR2 (fun k => ya k j)
    (fun f => by
      rw [hst]; obtain ⟨l', h1, h2, h3⟩ := hry (zha g 0 r j f)
      refine ⟨l', h1.app N, h2, fun k hk => ?_⟩
      unfold vf; rw [zlc hk]; exact h3 k j hk hj)
    (fun f N' => by
      rw [hst, hlen, List.append_assoc]
      exact zeo _ (.slm b l.length 0 l.length 1) l.length (zdg zo (r : Int) zl (j : Int)) 1 r 1 rfl hI1.mat X xm xo r w xl hXl hxI px (hpx _ _) (hin.col hzG.2.2.2.1 hj) hinx hfx (by omega))
    (fun f N' => by
      rw [hst, hlen, List.append_assoc]
      exact zeo _ (.slm b l.length 0 l.length 1) l.length (zdg zo (r : Int) zl (j : Int)) 1 r 1 rfl hI1.mat Y ym (zdg yo (w : Int) yl (j : Int)) 1 w 1 hYl hI2.mat py (hpy _ _) (hin.col hzG.2.2.2.1 hj) (hiny.col hyG.2.2.2.1 hj) hfy (by omega)) A B (fun i => g i j)
  rw [hst, hst, hlen, za4 (g := zha g 0 r j (fun i => g i j)) (g' := g) hzG.2.2.2.1 hzG.2.2.1 (fun i k hi _ => zi6 i k hi)] at h
  exact h
theorem zvf (H : List (List AV)) (b : Nat) (l : List Nat) (hbl : b < H.length) (zo zl : Int) (r c : Nat) (g : Nat → Nat → Nat) : ∃ l', FL (H.set b (fl (zal l zo zl r c g))) (.slm b l.length 0 l.length 1) l' ∧ l'.length = l.length := ⟨zal l zo zl r c g, by have h := FL.set (N := []) (g := l.length) (q := l.length) (X := zal l zo zl r c g) hbl (by simp) (by simp); rw [List.append_nil] at h; exact h, by simp⟩
attribute [local irreducible] Ex zas exD opX opE zdd zfl zfs Spec zab Fr zda zbc zbb ckK zcd zc0 zbt faK zcs ze5 gK fK rK zg7 lpX prK
theorem zp6 (H : List (List AV)) (b : Nat) (l : List Nat) (hbl : b < H.length) (zo zl : Int) (r c : Nat) (hzI : MI l.length zo r c zl) (hzG : zaa l.length zo r c zl) (lo hi : Int) (hin : InS zo r c zl lo hi) (w : Nat) (X : AV) (hX : mx X ≤ H.length) (xm : Nat) (xo xl : Int) (hxI : MI xm xo r w xl) (hxG : zaa xm xo r w xl) (xa : Nat → Nat → Nat) (hrx : ∀ g, ∃ l', FL (H.set b (fl (zal l zo zl r c g))) X l' ∧ l'.length = xm ∧ ∀ i j, i < r → j < w → mel l' xo xl i j = xa i j) (px : Bool) (hpx : ∀ g N, 0 < l.length → 0 < xm → ptrEq (H.set b (fl (zal l zo zl r c g)) ++ N) (.slm b l.length 0 l.length 1) 0 X 0 = some px) (lox hix : Int) (hinx : InS xo r w xl lox hix) (hfx : zfk px lo hi lox hix) (Y : AV) (hY : mx Y ≤ H.length) (ym : Nat) (yo yl : Int) (hyI : MI ym yo w c yl) (hyG : zaa ym yo w c yl) (ya : Nat → Nat → Nat) (hry : ∀ g, ∃ l', FL (H.set b (fl (zal l zo zl r c g))) Y l' ∧ l'.length = ym ∧ ∀ i j, i < w → j < c → mel l' yo yl i j = ya i j) (py : Bool) (hpy : ∀ g N, 0 < l.length → 0 < ym → ptrEq (H.set b (fl (zal l zo zl r c g)) ++ N) (.slm b l.length 0 l.length 1) 0 Y 0 = some py) (loy hiy : Int) (hiny : InS yo w c yl loy hiy) (hfy : zfk py lo hi loy hiy) (g : Nat → Nat → Nat) :
    zab Try.prog 59 [mt X xo (r : Int) (w : Int) xl, mt Y yo (w : Int) (c : Int) yl, mt (.slm b l.length 0 l.length 1) zo (r : Int) (c : Int) zl] (H.set b (fl (zal l zo zl r c g))) (.int .i64 0) (H.set b (fl (zal l zo zl r c g))) := by
  obtain ⟨hm, ho1, ho2, hr1, hr2, hc1, hc2, hl1, hl2⟩ := id hzI
  obtain ⟨xm1, xo1, xo2, xr1, xr2, xc1, xc2, xl1, xl2⟩ := id hxI
  obtain ⟨ym1, yo1, yo2, yr1, yr2, yc1, yc2, yl1, yl2⟩ := id hyI
  have hXl : slen X = some xm := by (obtain ⟨l', h1, h2, _⟩ := hrx g; rw [← h2]; exact h1.len)
  have hYl : slen Y = some ym := by (obtain ⟨l', h1, h2, _⟩ := hry g; rw [← h2]; exact h1.len)
  refine .go Try.call59 Try.func59 false [] dOk ?_
  simp only [zbf, Nat.reduceAdd]
  repeat' (first
 |(refine za1 ?_; (first | refine zce ?_ | refine zav ?_ | refine m13 ?_ | refine m12 ?_ | refine m11 ?_ | (refine m10 ?_; (first | refine zbr ?_ | refine zbm ?_ | refine zbq ?_ | refine zbn ?_ | refine zbp ?_ ?_ | refine zbo ?_ ?_ | refine zbl ?_ ?_ | refine zbk ?_ ?_ | fail)) | (refine m09 ?_; (first | refine zbr ?_ | refine zbm ?_ | refine zbq ?_ | refine zbn ?_ | refine zbp ?_ ?_ | refine zbo ?_ ?_ | refine zbl ?_ ?_ | refine zbk ?_ ?_ | fail)) | refine m38 ?_ | fail))
 |(refine za2 ?_; (first | refine m14 ?_ | (refine m17 ?_; first | refine m19 ?_ | refine m18 ?_) | (refine m07 ?_; (first | refine m15 ?_ | refine m16 ?_ | fail)) | (refine m00 ?_; (first | refine m54 ?_ | refine m55 ?_ | refine zcb ?_ | refine m49 ?_ | refine m50 ?_ | refine zd3 ?_ | refine zd1 ?_ | refine zd2 ?_ | refine v_k ?_ | refine m51 ?_ | fail)) | (refine m22 ?_; (first | refine m26 ?_ | refine m27 ?_ | fail)) | refine m42 ?_ | refine zad ?_ | refine zae ?_ | refine m08 ?_ | (refine m20 ?_; (first | refine m54 ?_ | refine m55 ?_ | refine zcb ?_ | refine m49 ?_ | refine m50 ?_ | refine zd3 ?_ | refine zd1 ?_ | refine zd2 ?_ | refine v_k ?_ | refine m51 ?_ | fail)) | refine zar ?_ | refine m01 ?_ | fail))
 |refine zaz ?_ | refine za0 ?_ | refine zay ?_
 |(refine za3 ?_; (first | refine zax ?_ | refine zac ?_ | (refine m06 ?_; (first | refine c_T ?_ | refine c_F ?_ | refine c_P ?_ ?_ | refine c_B ?_ ?_ | fail)) | refine zaw ?_ | refine zam ?_ | refine zaf ?_ | refine b_exit ?_ | fail))
 |refine m21 ?_
 |refine zbi ?_
 |(refine zbj ?_; (first | refine cA (zhk _ _ X xm xo _ _ xl hxI hxG ((hrx _).imp fun l' h => ⟨h.1, h.2.1⟩)) ?_ | refine cA (zhk _ _ Y ym yo _ _ yl hyI hyG ((hry _).imp fun l' h => ⟨h.1, h.2.1⟩)) ?_ | refine cA (zhk _ _ (.slm b l.length 0 l.length 1) l.length zo _ _ zl hzI hzG (zvf H b l hbl zo zl r c _)) ?_ | refine cA (zeo _ (.slm b l.length 0 l.length 1) l.length zo r c zl (by exact rfl) hzI X xm xo r w xl hXl hxI px (hpx _ _) hin hinx hfx hzG.2.2.2.1) ?_ | refine cA (zeo _ (.slm b l.length 0 l.length 1) l.length zo r c zl (by exact rfl) hzI Y ym yo w c yl hYl hyI py (hpy _ _) hin hiny hfy hzG.2.2.2.1) ?_ | fail))
 |refine zc7 ?_ | refine zc8 ?_ | refine zc6 ?_ | refine m57 ?_
 |refine m05 ?_
 |refine m04 ?_ | refine m02 ?_ | refine m03 ?_ | refine zan ?_
 |intro _)
  all_goals first
    | (exfalso; contradiction)
    | (exfalso; omega)
    | (refine zao (by simp) (by simp [mx, mxL, zai, aOf, zb5]) ?_; exact rfl)
theorem zp7 (H : List (List AV)) (b : Nat) (l : List Nat) (hbl : b < H.length) (zo zl : Int) (r c : Nat) (hzI : MI l.length zo r c zl) (hzG : zaa l.length zo r c zl) (lo hi : Int) (hin : InS zo r c zl lo hi) (w : Nat) (X : AV) (hX : mx X ≤ H.length) (xm : Nat) (xo xl : Int) (hxI : MI xm xo r w xl) (hxG : zaa xm xo r w xl) (xa : Nat → Nat → Nat) (hrx : ∀ g, ∃ l', FL (H.set b (fl (zal l zo zl r c g))) X l' ∧ l'.length = xm ∧ ∀ i j, i < r → j < w → mel l' xo xl i j = xa i j) (px : Bool) (hpx : ∀ g N, 0 < l.length → 0 < xm → ptrEq (H.set b (fl (zal l zo zl r c g)) ++ N) (.slm b l.length 0 l.length 1) 0 X 0 = some px) (lox hix : Int) (hinx : InS xo r w xl lox hix) (hfx : zfk px lo hi lox hix) (Y : AV) (hY : mx Y ≤ H.length) (ym : Nat) (yo yl : Int) (hyI : MI ym yo w c yl) (hyG : zaa ym yo w c yl) (ya : Nat → Nat → Nat) (hry : ∀ g, ∃ l', FL (H.set b (fl (zal l zo zl r c g))) Y l' ∧ l'.length = ym ∧ ∀ i j, i < w → j < c → mel l' yo yl i j = ya i j) (py : Bool) (hpy : ∀ g N, 0 < l.length → 0 < ym → ptrEq (H.set b (fl (zal l zo zl r c g)) ++ N) (.slm b l.length 0 l.length 1) 0 Y 0 = some py) (loy hiy : Int) (hiny : InS yo w c yl loy hiy) (hfy : zfk py lo hi loy hiy) (g : Nat → Nat → Nat) (N : List (List AV)) : zab Try.prog 59 [mt X xo (r : Int) (w : Int) xl, mt Y yo (w : Int) (c : Int) yl, mt (.slm b l.length 0 l.length 1) zo (r : Int) (c : Int) zl] (H.set b (fl (zal l zo zl r c g)) ++ N) (.int .i64 0) (H.set b (fl (zal l zo zl r c g)) ++ N) := by
  have hs : ∀ Z, (H ++ N).set b Z = H.set b Z ++ N := fun Z => zdk hbl
  have h := zp6 (H ++ N) b l (by simp; omega) zo zl r c hzI hzG lo hi hin w X (by simp; omega) xm xo xl hxI hxG xa (fun g => by obtain ⟨l', h1, h2⟩ := hrx g; rw [hs]; exact ⟨l', h1.app N, h2⟩) px (fun g N' => by rw [hs, List.append_assoc]; exact hpx g (N ++ N')) lox hix hinx hfx Y (by simp; omega) ym yo yl hyI hyG ya (fun g => by obtain ⟨l', h1, h2⟩ := hry g; rw [hs]; exact ⟨l', h1.app N, h2⟩) py (fun g N' => by rw [hs, List.append_assoc]; exact hpy g (N ++ N')) loy hiy hiny hfy g
  rwa [hs] at h
theorem zvr (H : List (List AV)) (b : Nat) (l : List Nat) (hbl : b < H.length) (zo zl : Int) (r c : Nat) (hzI : MI l.length zo r c zl) (hzG : zaa l.length zo r c zl) (lo hi : Int) (hin : InS zo r c zl lo hi) (w : Nat) (X : AV) (hX : mx X ≤ H.length) (xm : Nat) (xo xl : Int) (hxI : MI xm xo r w xl) (hxG : zaa xm xo r w xl) (xa : Nat → Nat → Nat) (hrx : ∀ g, ∃ l', FL (H.set b (fl (zal l zo zl r c g))) X l' ∧ l'.length = xm ∧ ∀ i j, i < r → j < w → mel l' xo xl i j = xa i j) (px : Bool) (hpx : ∀ g N, 0 < l.length → 0 < xm → ptrEq (H.set b (fl (zal l zo zl r c g)) ++ N) (.slm b l.length 0 l.length 1) 0 X 0 = some px) (lox hix : Int) (hinx : InS xo r w xl lox hix) (hfx : zfk px lo hi lox hix) (Y : AV) (hY : mx Y ≤ H.length) (ym : Nat) (yo yl : Int) (hyI : MI ym yo w c yl) (hyG : zaa ym yo w c yl) (ya : Nat → Nat → Nat) (hry : ∀ g, ∃ l', FL (H.set b (fl (zal l zo zl r c g))) Y l' ∧ l'.length = ym ∧ ∀ i j, i < w → j < c → mel l' yo yl i j = ya i j) (py : Bool) (hpy : ∀ g N, 0 < l.length → 0 < ym → ptrEq (H.set b (fl (zal l zo zl r c g)) ++ N) (.slm b l.length 0 l.length 1) 0 Y 0 = some py) (loy hiy : Int) (hiny : InS yo w c yl loy hiy) (hfy : zfk py lo hi loy hiy) (A B : Nat) (g : Nat → Nat → Nat) :
    zab Try.prog 31 [.flt A, mt X xo (r : Int) (w : Int) xl, mt Y yo (w : Int) (c : Int) yl, .flt B, mt (.slm b l.length 0 l.length 1) zo (r : Int) (c : Int) zl] (H.set b (fl (zal l zo zl r c g))) (.int .i64 0) (H.set b (fl (zal l zo zl r c (gmR A B xa ya w g)))) := by
  obtain ⟨hm, ho1, ho2, hr1, hr2, hc1, hc2, hl1, hl2⟩ := id hzI
  obtain ⟨xm1, xo1, xo2, xr1, xr2, xc1, xc2, xl1, xl2⟩ := id hxI
  obtain ⟨ym1, yo1, yo2, yr1, yr2, yc1, yc2, yl1, yl2⟩ := id hyI
  have hXl : slen X = some xm := by (obtain ⟨l', h1, h2, _⟩ := hrx g; rw [← h2]; exact h1.len)
  have hYl : slen Y = some ym := by (obtain ⟨l', h1, h2, _⟩ := hry g; rw [← h2]; exact h1.len)
  have hsm : ∀ g1 g2 : Nat → Nat → Nat, (∀ i j, i < r → j < c → g1 i j = g2 i j) → (zal l zo zl r c g1) = (zal l zo zl r c g2) := fun g1 g2 h => za4 hzG.2.2.2.1 hzG.2.2.1 h
  have hE : r = 0 → (zal l zo zl r c (gmR A B xa ya w g)) = (zal l zo zl r c g) := fun h => hsm _ _ (by omega)
  have hA : (zal l zo zl r c (wrC g (gmR A B xa ya w g) 0)) = (zal l zo zl r c g) := hsm _ _ fun i j _ _ => zlv i j
  have hZ : (zal l zo zl r c (wrC g (gmR A B xa ya w g) c)) = (zal l zo zl r c (gmR A B xa ya w g)) := hsm _ _ fun i j _ hj => zo8 hj
  have hst : ∀ j, j < c → (zal l zo zl r c (zha (wrC g (gmR A B xa ya w g) j) 0 r j (fun i => gmS A (xa i) (fun k => ya k j) (gmB B ((wrC g (gmR A B xa ya w g) j) i j)) w))) = (zal l zo zl r c (wrC g (gmR A B xa ya w g) (j + 1))) := fun j hj => hsm _ _ fun i j' hi _ => zlu (n := r) (fun i hi => by rw [if_pos ⟨by omega, by omega⟩, zw0]; rfl) i j' hi
  refine .go Try.call31 Try.func31 false [] dOk ?_
  simp only [zbf, Nat.reduceAdd]
  repeat' (first
 |(refine za1 ?_; (first | refine zce ?_ | refine zav ?_ | refine m13 ?_ | refine m12 ?_ | refine m11 ?_ | (refine m10 ?_; (first | refine zbr ?_ | refine zbm ?_ | refine zbq ?_ | refine zbn ?_ | refine zbp ?_ ?_ | refine zbo ?_ ?_ | refine zbl ?_ ?_ | refine zbk ?_ ?_ | fail)) | (refine m09 ?_; (first | refine zbr ?_ | refine zbm ?_ | refine zbq ?_ | refine zbn ?_ | refine zbp ?_ ?_ | refine zbo ?_ ?_ | refine zbl ?_ ?_ | refine zbk ?_ ?_ | fail)) | refine m38 ?_ | fail))
 |(refine za2 ?_; (first | refine m41 ?_ | refine zc9 ?_ | refine m14 ?_ | (refine m17 ?_; first | refine m19 ?_ | refine m18 ?_) | (refine m07 ?_; (first | refine m15 ?_ | refine m16 ?_ | fail)) | (refine m45 ?_; (first | refine zf4 ((k + 1 : Nat) : Int) (by omega) (by omega) ?_ | refine zde (by exact rfl) ?_ | refine v_k ?_ | fail)) | (refine m00 ?_; (first | refine zf4 ((k + 1 : Nat) : Int) (by omega) (by omega) ?_ | refine m52 ?_ | refine m53 ?_ | refine ze3 ?_ | refine m54 ?_ | refine m55 ?_ | refine zcb ?_ | refine m47 ?_ | refine m48 ?_ | refine m49 ?_ | refine m50 ?_ | refine v_k ?_ | refine m51 ?_ | fail)) | (refine m22 ?_; (first | refine m26 ?_ | refine m27 ?_ | fail)) | refine m42 ?_ | refine zad ?_ | refine zae ?_ | refine m08 ?_ | refine zar ?_ | refine m01 ?_ | fail))
 |(refine zcy ?_; (first | refine m36 ?_ | refine zcw ?_ | refine m32 ?_ | refine m31 ?_ | refine m30 ?_ | (refine m28 ?_; (first | refine zb2 ?_ | refine zbx ?_ | refine zb1 ?_ | refine zby ?_ | refine zb0 ?_ ?_ | refine zbz ?_ ?_ | refine zbw ?_ ?_ | refine zbv ?_ ?_ | fail)) | (refine m29 ?_; (first | refine zb2 ?_ | refine zbx ?_ | refine zb1 ?_ | refine zby ?_ | refine zb0 ?_ ?_ | refine zbz ?_ ?_ | refine zbw ?_ ?_ | refine zbv ?_ ?_ | fail)) | refine m37 ?_ | fail))
 |(refine zcx ?_; (first | refine zgb ?_ | refine zh9 ?_ | refine zia (by (conv => {lhs; whnf}); done) ?_ | refine zib ?_ | refine zh8 (by exact rfl) (by exact rfl) ?_ | refine m34 ?_ | refine m35 ?_ | refine m33 ?_ | refine zgc ?_ | refine m56 ?_ | refine zcz ?_ | refine zdr (by exact rfl) ?_ | fail))
 |refine zaz ?_ | refine za0 ?_ | refine zay ?_
 |(refine za3 ?_; (first | refine zax ?_ | refine zac ?_ | (refine m06 ?_; (first | refine c_T ?_ | refine c_F ?_ | refine c_P ?_ ?_ | refine c_B ?_ ?_ | fail)) | refine zaw ?_ | refine zam ?_ | refine zaf ?_ | refine b_exit ?_ | refine zba (id := 7) [] [9] [(0, .lt), (1, .ld true), (2, .ld true), (3, .lt), (5, .lt), (6, .ld true), (7, .lt), (4, .mn true), (8, .mn true), (9, .mn false)] (by kernel_rfl) ?_ | (refine zb3 [0, 3, 6, 7, 9, 26, 27] c (fun k => ⟨[(0, .val (.flt A)), (3, .val (.flt B)), (6, .loc 6 0), (7, .loc 7 0), (9, .loc 9 0), (26, .val (.int .i64 ((c : Nat) : Int))), (27, .val (.int .i64 ((k : Nat) : Int)))], [(6, [X, .int .i64 xo, .int .i64 (r : Int), .int .i64 (w : Int), .int .i64 xl]), (7, [Y, .int .i64 yo, .int .i64 (w : Int), .int .i64 (c : Int), .int .i64 yl]), (9, [(.slm b l.length 0 l.length 1), .int .i64 zo, .int .i64 (r : Int), .int .i64 (c : Int), .int .i64 zl])], H.set b (fl (zal l zo zl r c (wrC g (gmR A B xa ya w g) k))) ++ []⟩) (by simp only [hA]; exact rfl) ?_ ?_ <;> (first | intro k hk K hK | intro K) <;> (try dsimp only at *)) | fail))
 |refine m21 ?_
 |refine zbi ?_
 |(refine zbj ?_; (first | refine cA (zp7 H b l hbl zo zl r c hzI hzG lo hi hin w X hX xm xo xl hxI hxG xa hrx px hpx lox hix hinx hfx Y hY ym yo yl hyI hyG ya hry py hpy loy hiy hiny hfy g _) ?_ | refine cA (zje _ _ Y ym yo yl w c hyI hyG ((hry _).imp fun l' h => ⟨h.1, h.2.1⟩) k (by omega)) ?_ | refine cA (zje _ _ (.slm b l.length 0 l.length 1) l.length zo zl r c hzI hzG (zvf H b l hbl zo zl r c _) k (by omega)) ?_ | refine c_call (ztd H b l hbl zo zl r c hzI hzG lo hi hin w X hX xm xo xl hxI hxG xa hrx px hpx lox hix hinx hfx Y hY ym yo yl hyI hyG ya hry py hpy loy hiy hiny hfy A B _ [] k (by omega) (by omega)) (zb7.set2 hbl (by simp) (by rw [zcl]; omega)) ?_ | fail))
 |refine zc7 ?_ | refine zc8 ?_ | refine zc6 ?_ | refine m57 ?_
 |refine zkg ?_ | refine zkh ?_ | refine zkf ?_
 |(refine zkk (by exact rfl) ?_; first | exact hK | (rw [hst k (by omega)]; exact hK) | (exfalso; first | omega | (simp_all; done) | (simp_all; omega)))
 |refine m05 ?_
 |refine m04 ?_ | refine m02 ?_ | refine m03 ?_ | refine zan ?_
 |intro _)
  all_goals first
    | (exfalso; contradiction)
    | (exfalso; omega)
    | (refine zao (by simp) (by simp [mx, mxL, zai, aOf, zb5]) ?_; exact rfl)
    | (rw [hE (by omega)]; refine zao (by simp) (by simp [mx, mxL, zai, aOf, zb5]) ?_; exact rfl)
    | (rw [← hZ]; refine zao (by simp) (by simp [mx, mxL, zai, aOf, zb5]) ?_; exact rfl)
end Go.Sx
set_option linter.unusedVariables false
set_option linter.unusedSimpArgs false
namespace Go.Sx
theorem SRepG.bare {P : Program} {w : World} {g : Gh} {H : List (List AV)} (hw : WRep w g H) (a : Act) (hd : a.defers = []) (hs : a.tmps.size = 0) :
    SRepG ⟨P, ⟨false, 0, []⟩, w, g, H, 0⟩ ⟨[], [], H⟩ a w g (fun _ => 0) where
  wr := hw
  si := Since.refl hw
  lr := ⟨fun key cs h => by simp [lk] at h, fun key key' h => by simp [lk] at h⟩
  env := fun t e h => by simp [lk] at h
  defs := hd
  size := hs
  n0 := Nat.zero_le _
  om := fun id cs h => by simp at h
theorem zfh (d : Array Int) (off : Nat) (c : Array Value) : (Sort.putCells (Value.int .i64) off d c).size = c.size := by simp [Sort.putCells]
theorem zjr {d : Array Int} {off k : Nat} {c : Array Value} (hk : k < d.size) (hc : off + k < c.size) : (Sort.putCells (Value.int .i64) off d c)[off + k]? = some (.int .i64 d[k]!) := by
  simp [Sort.putCells, hc, hk]
theorem zjt {w : World} {g : Gh} {H : List (List AV)} {id b δ n : Nat} {zs ys : List Int} {os : Array Obj} (hw : WRep w g H) (hid : H[id]? = some (il zs)) (hcur : g.ρ id zs.length = some (b, δ)) (hlen : ys.length = zs.length) :
    ∃ g', WRep (Sort.grow (Sort.putRow (Value.int .i64) (Sort.ahead w n) b δ ys.toArray) os) g' (H.set id (il ys)) ∧
      Since w g H (Sort.grow (Sort.putRow (Value.int .i64) (Sort.ahead w n) b δ ys.toArray) os) g' (H.set id (il ys)) ∧
      g'.ρ id zs.length = some (b, δ) ∧ Ext w g (Sort.grow (Sort.putRow (Value.int .i64) (Sort.ahead w n) b δ ys.toArray) os) g' := by
  generalize hw' : Sort.grow (Sort.putRow (Value.int .i64) (Sort.ahead w n) b δ ys.toArray) os = w'
  obtain ⟨b₀, δ₀, c, e, k1, k2, k3, k4, k5, k6⟩ := hw.blk id _ hid
  rw [zeu, hcur] at k1; simp only [Option.some.injEq, Prod.mk.injEq] at k1; obtain ⟨rfl, rfl⟩ := k1
  have hblt : b < w.heap.size := (Array.getElem?_eq_some_iff.1 k2).1
  have hheap : w'.heap = w.heap.modify b (Sort.onCells (Sort.putCells (Value.int .i64) δ ys.toArray)) ++ os := by subst hw'; rfl
  have hget : ∀ k, k < w.heap.size → w'.heap[k]? = if b = k then (w.heap[k]?).map (Sort.onCells (Sort.putCells (Value.int .i64) δ ys.toArray)) else w.heap[k]? := by
    intro k hk
    rw [hheap, Array.getElem?_append_left (by simpa using hk), Array.getElem?_modify]
  have hb' : w'.heap[b]? = some (.cells (Sort.putCells (Value.int .i64) δ ys.toArray c) e (0, 0)) := by
    rw [hget b hblt, if_pos rfl, k2]; rfl
  have hk : ∀ k, k < w.heap.size → k ≠ b → w'.heap[k]? = w.heap[k]? := fun k hk hn => by rw [hget k hk, if_neg (Ne.symm hn)]
  have hsz : w.heap.size ≤ w'.heap.size := by rw [hheap]; simp
  have hv : zf6 w g (il ys) (Sort.putCells (Value.int .i64) δ ys.toArray c) δ := by
    intro i cv hi
    have hlt : i < ys.length := by have := (List.getElem?_eq_some_iff.1 hi).1; simpa using this
    rw [zjh hlt] at hi
    simp only [Option.some.injEq] at hi; subst hi
    refine ⟨.int .i64 (ys.getD i 0), ?_, rfl, by simp [zah]⟩
    rw [zjr (by simpa using hlt) (by rw [zeu] at k3; omega)]
    congr 2
    simp [List.getD, hlt, getElem!_def]
  have hfr : ∀ a : Addr, a.block = b → w'.frozen? a = w.frozen? a := by
    intro a ha
    simp only [World.frozen?, ha, hb', k2]
  have h := (SRepG.bare (P := default) hw ⟨#[], []⟩ rfl rfl).repl (id := id) (cs := il zs) (cs' := il ys) (b := b) (δ := δ) (b' := b) (δ' := δ) (e := e) hid (by rw [zeu]; exact hcur) (by simp [hlen]) (.inl (Nat.zero_le _))
    hsz hk (fun n hn => by simp only [bsz, hb', k2] at hn ⊢; rw [zfh]; exact hn) (fun o => hfr _ rfl) (by subst hw'; exact ⟨rfl, rfl, rfl⟩) hb' (.inl ⟨rfl, rfl⟩) hv (by rw [zfh, zeu, hlen]; rw [zeu] at k3; exact k3) hfr
  refine ⟨_, h.1.wr, h.1.si, ?_, h.2⟩
  simp [zhn, hlen]
theorem zjg {w : World} {g : Gh} {H : List (List AV)} {id b δ : Nat} {zs : List Int} (hw : WRep w g H) (hid : H[id]? = some (il zs)) (hcur : g.ρ id zs.length = some (b, δ)) : Sort.Holds (Value.int .i64) w b δ zs.toArray := by
  obtain ⟨b₀, δ₀, c, e, k1, k2, k3, k4, k5, k6⟩ := hw.blk id _ hid
  rw [zeu, hcur] at k1; simp only [Option.some.injEq, Prod.mk.injEq] at k1; obtain ⟨rfl, rfl⟩ := k1
  intro j hj
  have hlt : j < zs.length := by simpa using hj
  rw [zdf] at k4
  obtain ⟨v, h1, h2, h3⟩ := k4 j _ (zjh hlt)
  simp only [zah] at h3
  refine ⟨?_, by simp [World.frozen?, k2]⟩
  rw [h1, h3]
  simp [List.getD, hlt, getElem!_def]
theorem zqw {P : Program} {f : Nat} {zs ys : List Int} (hlen : ys.length = zs.length) {H : List (List AV)} {id : Nat} (hid : H[id]? = some (il zs))
    (h : ∀ (b off cap : Nat) (w : World), Sort.Holds (Value.int .i64) w b off zs.toArray → b < w.heap.size → zs.length ≤ cap → Calls P f #[.slice (some ⟨b, off, none⟩) zs.length cap] w fun e w' =>
      e = .returned (.tuple #[]) ∧ ∃ n os, w' = Sort.grow (Sort.putRow (Value.int .i64) (Sort.ahead w n) b off ys.toArray) os) :
    Spec P f [.slm id zs.length 0 zs.length 1] H (.tup []) (H.set id (il ys)) := by
  intro w g cargs hw ha
  simp only [za7, zah] at ha
  obtain ⟨v, rest, hc, ⟨b, δ, cap, n, hr, rfl, h1, h2, h3, h4⟩, rfl⟩ := ha
  obtain rfl : cargs = #[.slice (some ⟨b, δ + 0, none⟩) zs.length cap] := Array.toList_inj.1 (by simpa using hc)
  rw [Nat.add_zero]
  refine (h b δ cap w (zjg hw hid hr) (zhi h3) h1).mono ?_
  rintro e w' ⟨rfl, n', os, rfl⟩
  obtain ⟨g', k1, k2, _, _⟩ := zjt (n := n') (os := os) hw hid hr hlen
  exact ⟨.tuple #[], g', rfl, k1, k2, by simp [zah, za7]⟩
theorem zqv {P : Program} {f : Nat} {zs ys : List Int} {m : Nat} (hlen : ys.length = zs.length) (hm : m ≤ zs.length) {H : List (List AV)} {id : Nat} (hid : H[id]? = some (il zs))
    (h : ∀ (b off cap : Nat) (w : World), Sort.Holds (Value.int .i64) w b off zs.toArray → b < w.heap.size → zs.length ≤ cap → Calls P f #[.slice (some ⟨b, off, none⟩) zs.length cap] w fun e w' =>
      e = .returned (.slice (some ⟨b, off, none⟩) m cap) ∧ ∃ q, w' = Sort.putRow (Value.int .i64) (Sort.ahead w q) b off ys.toArray) :
    Spec P f [.slm id zs.length 0 zs.length 1] H (.slm id zs.length 0 m 1) (H.set id (il ys)) := by
  intro w g cargs hw ha
  simp only [za7, zah] at ha
  obtain ⟨v, rest, hc, ⟨b, δ, cap, n, hr, rfl, h1, h2, h3, h4⟩, rfl⟩ := ha
  obtain rfl : cargs = #[.slice (some ⟨b, δ + 0, none⟩) zs.length cap] := Array.toList_inj.1 (by simpa using hc)
  rw [Nat.add_zero]
  refine (h b δ cap w (zjg hw hid hr) (zhi h3) h1).mono ?_
  rintro e w' ⟨rfl, q, rfl⟩
  obtain ⟨g', k1, k2, k3, k5⟩ := zjt (n := q) (os := #[]) hw hid hr hlen
  rw [Sort.grow_empty] at k1 k2 k5
  refine ⟨_, g', rfl, k1, k2, ?_⟩
  simp only [zah]
  exact ⟨b, δ, cap, n, k3, by rw [Nat.add_zero], by omega, by omega, k5.bsz b n h3, h4⟩
end Go.Sx
/- The kit's contracts of slices.Sort and slices.Compact over []int, laid at this program by the kit's lay-shelf.mjs and lay-plain.mjs. No condition is set. -/
namespace Go.Proofs
open Go.Shelf
def Try.lays189_ren : Go.Shelf.Ren := ⟨fun | 189 => 70 | 125 => 91 | 257 => 90 | 128 => 109 | 129 => 110 | 294 => 100 | 295 => 101 | 296 => 102 | 297 => 103 | 298 => 104 | 299 => 105 | 216 => 106 | 300 => 107 | 301 => 108 | 328 => 115 | 329 => 116 | 330 => 117 | 331 => 118 | 332 => 119 | 215 => 120 | 343 => 122 | n => n, fun | 28 => 52 | 3 => 3 | 46 => 120 | 0 => 0 | 51 => 147 | 53 => 103 | 4 => 4 | 183 => 140 | 182 => 139 | 131 => 113 | 5 => 5 | 9 => 9 | 218 => 152 | 222 => 156 | 228 => 160 | 229 => 47 | n => n, fun | n => n⟩
theorem Try.lays189 : Go.Proofs.Lays.n189 Try.prog Try.lays189_ren := {
  mixed := by kernel_rfl
  f125 := Try.func91.trans (congrArg some (by kernel_rfl))
  f128 := Try.func109.trans (congrArg some (by kernel_rfl))
  f129 := Try.func110.trans (congrArg some (by kernel_rfl))
  f189 := Try.func70.trans (congrArg some (by kernel_rfl))
  f215 := Try.func120.trans (congrArg some (by kernel_rfl))
  f216 := Try.func106.trans (congrArg some (by kernel_rfl))
  f257 := Try.func90.trans (congrArg some (by kernel_rfl))
  f294 := Try.func100.trans (congrArg some (by kernel_rfl))
  f295 := Try.func101.trans (congrArg some (by kernel_rfl))
  f296 := Try.func102.trans (congrArg some (by kernel_rfl))
  f297 := Try.func103.trans (congrArg some (by kernel_rfl))
  f298 := Try.func104.trans (congrArg some (by kernel_rfl))
  f299 := Try.func105.trans (congrArg some (by kernel_rfl))
  f300 := Try.func107.trans (congrArg some (by kernel_rfl))
  f301 := Try.func108.trans (congrArg some (by kernel_rfl))
  f328 := Try.func115.trans (congrArg some (by kernel_rfl))
  f329 := Try.func116.trans (congrArg some (by kernel_rfl))
  f330 := Try.func117.trans (congrArg some (by kernel_rfl))
  f331 := Try.func118.trans (congrArg some (by kernel_rfl))
  f332 := Try.func119.trans (congrArg some (by kernel_rfl))
  f343 := Try.func122.trans (congrArg some (by kernel_rfl))
  t0 := Try.underlying0
  a0 := Try.isAgg0
  z0 := Try.sizeOf0
  v0 := Try.zeroValue0
  t3 := Try.underlying3
  a3 := Try.isAgg3
  z3 := Try.sizeOf3
  v3 := Try.zeroValue3
  t4 := Try.underlying4
  a4 := Try.isAgg4
  z4 := Try.sizeOf4
  v4 := Try.zeroValue4
  t5 := Try.underlying5
  a5 := Try.isAgg5
  z5 := Try.sizeOf5
  v5 := Try.zeroValue5
  t9 := Try.underlying9
  a9 := Try.isAgg9
  z9 := Try.sizeOf9
  v9 := Try.zeroValue9
  t28 := Try.underlying52
  a28 := Try.isAgg52
  z28 := Try.sizeOf52
  v28 := Try.zeroValue52
  t46 := Try.underlying120
  a46 := Try.isAgg120
  z46 := Try.sizeOf120
  v46 := Try.zeroValue120
  t51 := Try.underlying147
  a51 := Try.isAgg147
  z51 := Try.sizeOf147
  v51 := Try.zeroValue147
  t53 := Try.underlying103
  a53 := Try.isAgg103
  z53 := Try.sizeOf103
  v53 := Try.zeroValue103
  t131 := Try.underlying113
  a131 := Try.isAgg113
  z131 := Try.sizeOf113
  v131 := Try.zeroValue113
  t182 := Try.underlying139
  a182 := Try.isAgg139
  z182 := Try.sizeOf139
  v182 := Try.zeroValue139
  t183 := Try.underlying140
  a183 := Try.isAgg140
  z183 := Try.sizeOf140
  v183 := Try.zeroValue140
  t218 := Try.underlying152
  a218 := Try.isAgg152
  z218 := Try.sizeOf152
  v218 := Try.zeroValue152
  t222 := Try.underlying156
  a222 := Try.isAgg156
  z222 := Try.sizeOf156
  v222 := Try.zeroValue156
  t228 := Try.underlying160
  a228 := Try.isAgg160
  z228 := Try.sizeOf160
  v228 := Try.zeroValue160
  t229 := Try.underlying47
  a229 := Try.isAgg47
  z229 := Try.sizeOf47
  v229 := Try.zeroValue47 }
open Go.Sort Go.RowKit in
theorem Try.slices_Sort_int (blk off cap : Nat) (zs : List Int) (w : World) (hH : Holds (Value.int .i64) w blk off zs.toArray) (hblk : blk < w.heap.size) (hsz : zs.length < 4611686018427387904) :
    Calls Try.prog 70 #[.slice (some ⟨blk, off, none⟩) zs.length cap] w fun e w' =>
      e = .returned (.tuple #[]) ∧ ∃ n os, w' = grow (putRow (Value.int .i64) (Sort.ahead w n) blk off (zs.mergeSort fun x y => decide (x ≤ y)).toArray) os := Any.slices_Sort_int Try.lays189 blk off cap zs w hH hblk hsz
def Try.laysNm220_ren : Go.Shelf.Ren := ⟨fun | 20 => 71 | n => n, fun | 22 => 52 | 3 => 3 | 4 => 4 | 0 => 0 | n => n, fun | n => n⟩
theorem Try.laysNm220 : Go.Proofs.Lays2.n20 Try.prog Try.laysNm220_ren := {
  mixed := by kernel_rfl
  f20 := Try.func71.trans (congrArg some (by kernel_rfl))
  t0 := Try.underlying0
  a0 := Try.isAgg0
  z0 := Try.sizeOf0
  v0 := Try.zeroValue0
  t3 := Try.underlying3
  a3 := Try.isAgg3
  z3 := Try.sizeOf3
  v3 := Try.zeroValue3
  t4 := Try.underlying4
  a4 := Try.isAgg4
  z4 := Try.sizeOf4
  v4 := Try.zeroValue4
  t22 := Try.underlying52
  a22 := Try.isAgg52
  z22 := Try.sizeOf52
  v22 := Try.zeroValue52
  i3 := by kernel_rfl }
open Go.RowKit Go.Lib Go.Sort in
theorem Try.slices_Compact_int (blk off cap : Nat) (zs : List Int) (w : World) (hH : Holds (Value.int .i64) w blk off zs.toArray) (hsz : zs.length ≤ 9223372036854775807) (hcap : zs.length ≤ cap) :
    Calls Try.prog 71 #[.slice (some ⟨blk, off, none⟩) zs.length cap] w fun e w' => e = .returned (.slice (some ⟨blk, off, none⟩) (Lib.compact zs).length cap) ∧ ∃ q, w' = putRow (Value.int .i64) (Sort.ahead w q) blk off (Lib.compact zs ++ List.replicate (zs.length - (Lib.compact zs).length) 0).toArray := Any.slices_Compact_int Try.laysNm220 blk off cap zs w hH hsz hcap
end Go.Proofs
set_option linter.unusedVariables false
set_option linter.unusedSimpArgs false
namespace Go.Sx
open Go.Proofs
theorem sort_c {H H' : List (List AV)} {id n : Nat} {zs : List Int} (hid : H[id]? = some (il zs)) (hn : zs.length = n) (hsz : zs.length < 4611686018427387904) (hH : H.set id (il (srt zs)) = H') : zab Try.prog 70 [.slm id n 0 n 1] H (.tup []) H' := by
  subst hH hn
  exact .inl ⟨fun args w => Try.call70 args w, zqw (zks zs) hid fun b off cap w hH hb hc => Try.slices_Sort_int b off cap zs w hH hb hsz⟩
theorem compact_c {H H' : List (List AV)} {id n : Nat} {zs : List Int} (hid : H[id]? = some (il zs)) (hn : zs.length = n) (hsz : zs.length ≤ 9223372036854775807) (hH : H.set id (il (Lib.compact zs ++ List.replicate (zs.length - (Lib.compact zs).length) 0)) = H') :
    zab Try.prog 71 [.slm id n 0 n 1] H (.slm id n 0 (Lib.compact zs).length 1) H' := by
  subst hH hn
  have hl := zhb zs
  refine .inl ⟨fun args w => Try.call71 args w, zqv (by simp; omega) hl hid fun b off cap w hH hb hc => ?_⟩
  exact Try.slices_Compact_int b off cap zs w hH hsz hc
end Go.Sx
set_option linter.unusedVariables false
set_option linter.unusedSimpArgs false
set_option linter.unusedSectionVars false
set_option maxRecDepth 20000
namespace Go.Sx
open Go.Proofs
instance : ArrI Try.prog 76 .i64 := ⟨⟨3, by kernel_rfl, by kernel_rfl, by kernel_rfl⟩, by kernel_rfl, by kernel_rfl⟩
section
attribute [local irreducible] Ex zas exD opX opE zdd zfl zfs Spec zab Fr zda zbc zbb ckK zcd zc0 zbt faK zcs ze5 gK fK rK zg7 lpX prK
theorem zh5 :
    (∀ (H : List (List AV)) (P : AV) (more : List Int) (hP : IL H P more) (hml : more.length ≤ 1000) (n size : Int) (hn : -9223372036854775808 ≤ n ∧ n ≤ 9223372036854775807) (hs : -9223372036854775808 ≤ size ∧ size ≤ 9223372036854775807) (hbad : n < 1 ∨ 4096 < n ∨ size < 1), zab Try.prog 53 [.int .i64 n, .int .i64 size, P] H (.sl none 0 (pl2 [])) H) ∧
    (∀ (H : List (List AV)) (P : AV) (more : List Int) (hP : IL H P more) (hml : more.length ≤ 1000) (n m : Nat) (size : Int) (hn1 : 1 ≤ n) (hn4 : n ≤ 4096) (hs1 : 1 ≤ size) (hs2 : size ≤ 9223372036854775807) (hmin : min size (n : Int) = (m : Int)), zab Try.prog 53 [.int .i64 (n : Int), .int .i64 size, P] H (.sl none ((dL n m more).length - 1) (pl2 (ziv (dL n m more)))) H) := by
  refine ⟨?_, ?_⟩
  (intro H P more hP hml n size hn hs hbad
   refine .go Try.call53 Try.func53 false [] dOk ?_
   simp only [zbf, Nat.reduceAdd])
  rotate_left
  (intro H P more hP hml n m size hn1 hn4 hs1 hs2 hmin
   have hm0 : 0 < m := by omega
   have hmn : m ≤ n := by omega
   have hK := fun i => @zyp n m i hm0
   have hKn := K_le (n := n) hm0
   have hPl := hP.len
   obtain ⟨hd2, hdz, hdb, hds⟩ := zhz (n := n) (m := m) hm0 (by omega) more
   have hcl : ∀ j, (cM n m ((n + m - 1) / m) more j).length ≤ 4096 + 1 + 1000 := fun j => by have := zm6 n m ((n + m - 1) / m) more j; omega
   have hok : ∀ j, j < more.length → (0 ≤ more.getD j 0 ∧ more.getD j 0 ≤ n) → (cM n m ((n + m - 1) / m) more (j + 1)) = (cM n m ((n + m - 1) / m) more j) ++ [more.getD j 0] := fun j hj h => zxm hj h
   have hno : ∀ j, j < more.length → ¬ (0 ≤ more.getD j 0 ∧ more.getD j 0 ≤ n) → (cM n m ((n + m - 1) / m) more (j + 1)) = (cM n m ((n + m - 1) / m) more j) := fun j hj h => zxl hj h
   have hc0 : cI n m ((n + m - 1) / m) = (cM n m ((n + m - 1) / m) more 0) := (zsq n m ((n + m - 1) / m) more).symm
   have hzl := hcl more.length
   have hsz : (srt (cM n m ((n + m - 1) / m) more more.length)).length = (cM n m ((n + m - 1) / m) more more.length).length := zks _
   have hkm : ∀ k, k < ((n + m - 1) / m) → k * m < n := fun k hk => (hK k).1 hk
   have hkm' : ∀ k, k < ((n + m - 1) / m) → (k + 1) * m = k * m + m := fun k hk => by rw [Nat.add_mul, Nat.one_mul]
   have hK9 : ¬ ((n + m - 1) / m) * m < n := fun h => absurd ((hK _).2 h) (by omega)
   have hlk : ∀ k, k < (dL n m more).length → (il ((dL n m more) ++ List.replicate ((srt (cM n m ((n + m - 1) / m) more more.length)).length - (dL n m more).length) 0))[0 + k]? = some (.int .i64 ((dL n m more).getD k 0)) := fun k hk => by rw [Nat.zero_add]; exact zhm hk
   have hlk1 : ∀ k, k + 1 < (dL n m more).length → (il ((dL n m more) ++ List.replicate ((srt (cM n m ((n + m - 1) / m) more more.length)).length - (dL n m more).length) 0))[1 + k]? = some (.int .i64 ((dL n m more).getD (k + 1) 0)) := fun k hk => by rw [Nat.add_comm 1 k]; exact zhm hk
   have hT9 : ((ziv (dL n m more)).take ((dL n m more).length - 1)) = ziv (dL n m more) := zqy
   have hblk : (il ((dL n m more) ++ List.replicate ((srt (cM n m ((n + m - 1) / m) more more.length)).length - (dL n m more).length) 0)).length = (cM n m ((n + m - 1) / m) more more.length).length := by rw [zeu, List.length_append, List.length_replicate]; omega
   refine .go Try.call53 Try.func53 false [36, 53, 80] dOk ?_
   simp only [zbf, Nat.reduceAdd])
  rotate_left
  all_goals (repeat' (first
 |(refine za1 ?_; (first | refine zce ?_ | refine zav ?_ | refine m13 ?_ | refine m12 ?_ | refine m11 ?_ | (refine m10 ?_; (first | refine zbr ?_ | refine zbm ?_ | refine zbq ?_ | refine zbn ?_ | refine zbp ?_ ?_ | refine zbo ?_ ?_ | refine zbl ?_ ?_ | refine zbk ?_ ?_ | fail)) | (refine m09 ?_; (first | refine zbr ?_ | refine zbm ?_ | refine zbq ?_ | refine zbn ?_ | refine zbp ?_ ?_ | refine zbo ?_ ?_ | refine zbl ?_ ?_ | refine zbk ?_ ?_ | fail)) | refine m38 ?_ | fail))
 |(refine za2 ?_; (first | refine m41 ?_ | refine zc9 ?_ | refine m14 ?_ | (refine m07 ?_; (first | refine m15 ?_ | refine m16 ?_ | refine zzb (hP.app _) (by omega) ?_ | refine zw4 (by exact rfl) (by exact rfl) hblk (by exact hlk k (by omega)) ?_ | refine zw4 (by exact rfl) (by exact rfl) hblk (by exact hlk1 k (by omega)) ?_ | fail)) | refine zi0 (i := 0) (g' := (cI n m (k + 1)).length) (q := (cI n m (k + 1)).length) (cs' := il (cI n m (k + 1))) (N' := [il (cI n m (k + 1))]) (by (conv => {lhs; whnf}); done) (by (conv => {lhs; whnf}); done) (by exact rfl) (by exact rfl) (zg4 rfl) (by simp) (by exact rfl) (by simp; omega) (.inl (Nat.le_refl _)) (by exact rfl) (by exact zsp n m k) (by exact rfl) (by simp) (by simp) ?_ | refine zi0 (i := 0) (g' := (cM n m ((n + m - 1) / m) more (k + 1)).length) (q := (cM n m ((n + m - 1) / m) more (k + 1)).length) (cs' := il (cM n m ((n + m - 1) / m) more (k + 1))) (N' := [il (cM n m ((n + m - 1) / m) more (k + 1))]) (by (conv => {lhs; whnf}); done) (by (conv => {lhs; whnf}); done) (by exact rfl) (by exact rfl) (zg4 rfl) (by simp) (by exact rfl) (by have := hcl k; omega) (.inl (Nat.le_refl _)) (by exact rfl) (by rw [hok k (by omega) (by omega)]; simp [il]) (by exact rfl) (by rw [hok k (by omega) (by omega)]; simp) (by rw [hok k (by omega) (by omega)]; simp) ?_ | refine zbu (by (conv => {lhs; whnf}); done) (by exact hPl) ?_ | refine zbu (by (conv => {lhs; whnf}); done) (by exact rfl) ?_ | refine zi2 (by (conv => {lhs; whnf}); done) (by (conv => {lhs; whnf}); done) (by exact hPl) (by omega) ?_ | refine zuz (v' := .slm (H.length + 0) (cM n m ((n + m - 1) / m) more more.length).length 1 ((dL n m more).length - 1) 1) (n := (dL n m more).length) (l := 1) (q := (dL n m more).length) (by (conv => {lhs; whnf}); done) (by exact rfl) (by exact rfl) (by exact rfl) (by omega) (by simp [zr0]; omega) ?_ | refine zi2 (by (conv => {lhs; whnf}); done) (by (conv => {lhs; whnf}); done) (by exact rfl) (by omega) ?_ | refine zul (by (conv => {lhs; whnf}); done) (by (conv => {lhs; whnf}); done) ?_ | refine zun (by (conv => {lhs; whnf}); done) (by exact rfl) ?_ | refine zsg (i := 1) (N₀ := [(il ((dL n m more) ++ List.replicate ((srt (cM n m ((n + m - 1) / m) more more.length)).length - (dL n m more).length) 0))]) (l := ((ziv (dL n m more)).take k)) (l' := ((ziv (dL n m more)).take (k + 1))) (p := ((dL n m more).getD k 0, (dL n m more).getD (k + 1) 0 - (dL n m more).getD k 0)) (by (conv => {lhs; whnf}); done) (by exact rfl) (by exact rfl) (by exact rfl) (by simp [zfg]; omega) (by omega) (by exact rfl) (by exact rfl) (by exact zqz (by omega)) ?_ | refine zmx (by exact rfl) (by exact rfl) (by decide) (by exact rfl) (by (conv => {lhs; whnf}); done) ?_ | (refine m00 ?_; (first | refine v_T (by first | omega | (have := hkm k (by omega); omega) | fail) ?_ | refine v_F (by first | omega | (have := hK9; omega) | fail) ?_ | refine zf4 (((k + 1) * m : Nat) : Int) (by have h1 := hkm k (by omega); have h2 := hkm' k (by omega); omega) (by have h2 := hkm' k (by omega); omega) ?_ | refine zf4 ((k + 1 : Nat) : Int) (by omega) (by omega) ?_ | refine v_w (by have h1 := hdb k (by omega); have h2 := hdb (k + 1) (by omega); omega) ?_ | refine m47 ?_ | refine m48 ?_ | refine m49 ?_ | refine m50 ?_ | refine v_k ?_ | refine m51 ?_ | fail)) | (refine m22 ?_; (first | refine m26 ?_ | refine m27 ?_ | fail)) | refine m42 ?_ | refine zad ?_ | refine zae ?_ | refine m08 ?_ | refine zar ?_ | refine zbu (by (conv => {lhs; whnf}); done) (by first | rfl | assumption) ?_ | refine zca ?_ | refine zi1 (by exact rfl) (by exact rfl) (by decide) ?_ | refine zrb (by first | (conv => {lhs; whnf}; done) | exact (by exact rfl) | fail) (by first | (conv => {lhs; whnf}; done) | exact (by exact rfl) | fail) (by first | assumption | exact rfl) ?_ | fail))
 |(refine zcy ?_; (first | refine m36 ?_ | refine zcw ?_ | refine m32 ?_ | refine m31 ?_ | refine m30 ?_ | (refine m28 ?_; (first | refine zb2 ?_ | refine zbx ?_ | refine zb1 ?_ | refine zby ?_ | refine zb0 ?_ ?_ | refine zbz ?_ ?_ | refine zbw ?_ ?_ | refine zbv ?_ ?_ | fail)) | (refine m29 ?_; (first | refine zb2 ?_ | refine zbx ?_ | refine zb1 ?_ | refine zby ?_ | refine zb0 ?_ ?_ | refine zbz ?_ ?_ | refine zbw ?_ ?_ | refine zbv ?_ ?_ | fail)) | refine m37 ?_ | fail))
 |(refine zcx ?_; (first | refine zgb ?_ | refine zh9 ?_ | refine zia (by (conv => {lhs; whnf}); done) ?_ | refine zib ?_ | refine zh8 (by exact rfl) (by exact rfl) ?_ | refine m34 ?_ | refine m35 ?_ | refine m33 ?_ | refine zgc ?_ | refine m56 ?_ | refine zcz ?_ | refine zdr (by exact rfl) ?_ | fail))
 |refine zaz ?_ | refine za0 ?_ | refine zay ?_
 |(refine za3 ?_; (first | refine zax ?_ | refine zac ?_ | (refine m06 ?_; (first | refine c_T ?_ | refine c_F ?_ | refine c_P ?_ ?_ | refine c_B ?_ ?_ | fail)) | refine zaw ?_ | refine zam ?_ | refine zaf ?_ | refine b_exit ?_ | refine zba (id := 20) [] [13] [(0, .lt), (1, .lt), (2, .lt), (3, .lt), (4, .ld true), (5, .lt), (6, .lt), (7, .lt), (8, .lt), (9, .ld true), (10, .lt), (11, .lt), (12, .mn true), (13, .mn false), (14, .lt)] (by kernel_rfl) ?_ | refine zba (id := 20) [] [13] [(0, .lt), (1, .lt), (2, .lt), (3, .lt), (4, .ld true), (5, .lt), (6, .lt), (7, .lt), (8, .lt), (9, .ld true), (10, .lt), (11, .lt), (12, .fz), (13, .mn false), (14, .lt)] (by kernel_rfl) ?_ | (refine zb3 [0, 1, 2, 7, 8] ((n + m - 1) / m) (fun k => ⟨[(0, .val (.int .i64 ((n : Nat) : Int))), (1, .val (.int .i64 size)), (2, .val P), (7, .val (.slm (H.length + 0) (cI n m k).length 0 (cI n m k).length 1)), (8, .val (.int .i64 ((k * m : Nat) : Int)))], [], H ++ [il (cI n m k)]⟩) (by first | exact (by exact rfl) | (simp only [Nat.zero_mul]; exact rfl)) ?_ ?_ <;> (first | intro k hk K hK | intro K) <;> (try dsimp only at *)) | (refine zb3 [0, 7, 38, 39, 40] more.length (fun k => ⟨[(0, .val (.int .i64 ((n : Nat) : Int))), (7, .val (.slm (H.length + 0) (cM n m ((n + m - 1) / m) more k).length 0 (cM n m ((n + m - 1) / m) more k).length 1)), (38, .val P), (39, .val (.int .i64 ((more.length : Nat) : Int))), (40, .val (.int .i64 ((k : Nat) : Int)))], [], H ++ [il (cM n m ((n + m - 1) / m) more k)]⟩) (by simp only [← hc0]; exact rfl) ?_ ?_ <;> (first | intro k hk K hK | intro K) <;> (try dsimp only at *)) | (refine zb3 [7, 11, 61, 62, 63] ((dL n m more).length - 1) (fun k => ⟨[(7, .val (.slm (H.length + 0) (cM n m ((n + m - 1) / m) more more.length).length 0 (dL n m more).length 1)), (11, .val (gV2 H.length 1 k)), (61, .val (.slm (H.length + 0) (cM n m ((n + m - 1) / m) more more.length).length 1 ((dL n m more).length - 1) 1)), (62, .val (.int .i64 (((dL n m more).length - 1 : Nat) : Int))), (63, .val (.int .i64 ((k : Nat) : Int)))], [], H ++ ([(il ((dL n m more) ++ List.replicate ((srt (cM n m ((n + m - 1) / m) more more.length)).length - (dL n m more).length) 0))] ++ gN (pl2 ((ziv (dL n m more)).take k)))⟩) (by exact rfl) ?_ ?_ <;> (first | intro k hk K hK | intro K) <;> (try dsimp only at *)) | fail))
 |refine m21 ?_
 |refine zbi ?_
 |(refine zbj ?_; (first | refine cA (sort_c (H' := H ++ [il (srt (cM n m ((n + m - 1) / m) more more.length))]) (id := H.length + 0) (zs := (cM n m ((n + m - 1) / m) more more.length)) (zau (by exact rfl) rfl) (by exact rfl) (by omega) (zet (N' := [il (srt (cM n m ((n + m - 1) / m) more more.length))]) (by exact rfl) rfl)) ?_ | refine cA (compact_c (H' := H ++ [(il ((dL n m more) ++ List.replicate ((srt (cM n m ((n + m - 1) / m) more more.length)).length - (dL n m more).length) 0))]) (id := H.length + 0) (zs := srt (cM n m ((n + m - 1) / m) more more.length)) (zau (by exact rfl) rfl) hsz (by omega) (zet (N' := [(il ((dL n m more) ++ List.replicate ((srt (cM n m ((n + m - 1) / m) more more.length)).length - (dL n m more).length) 0))]) (by exact rfl) rfl)) ?_ | fail))
 |refine m58 ?_
 |refine zdb ?_
 |refine m44 ?_
 |refine m40 ?_
 |(refine ze0 (by (conv => {lhs; simp only [List.nil_append, List.cons_append]}); done) ?_; first | refine ⟨by exact rfl, ?_⟩ | skip)
 |refine zfx ?_
 |(intro N' hN'; simp only [List.nil_append, List.cons_append] at hN'; subst hN')
 |refine zc7 ?_ | refine zc8 ?_ | refine zc6 ?_ | refine m57 ?_
 |refine zkg ?_ | refine zkh ?_ | refine zkf ?_
 |(refine zkk (by exact rfl) ?_; first | exact hK | (rw [hno k (by omega) (by omega)] at hK; exact hK) | (exfalso; first | omega | (simp_all; done) | (simp_all; omega)))
 |refine m05 ?_
 |refine m04 ?_ | refine m02 ?_ | refine m03 ?_ | refine zan ?_
 |(refine ⟨by simp [zqc], fun N' hN' => ?_⟩; simp only [List.nil_append, List.cons_append] at hN'; subst hN')
 |intro _))
  all_goals first
    | (exfalso; omega)
    | (refine zko (A := H) (N := []) rfl ?_; exact Fr.nil)
    | (simp only [hT9]; refine zko rfl ?_; exact zvh (N₀ := [_]) (i := 1) rfl rfl (by simp [zfg]))
theorem zxk : type_of% @zh5.1 := @zh5.1
theorem zxj : type_of% @zh5.2 := @zh5.2
end
end Go.Sx
set_option linter.unusedVariables false
set_option linter.unusedSimpArgs false
set_option maxRecDepth 20000
namespace Go.Sx
open Go.Proofs
attribute [local irreducible] Ex zas exD opX opE zdd zfl zfs Spec zab Fr zda zbc zbb ckK zcd zc0 zbt faK zcs ze5 gK fK rK zg7 lpX prK
theorem zg1 {m : Nat} {o i : Int} {n : Nat} (h : zaq m o n i) (hn : ¬ (n : Int) = 0) : 0 < m := by
  have h1 := zc3 h (i := 0) (by omega) (by omega)
  omega
theorem zt7 (H : List (List AV)) (n : Nat) (Da : AV) (ma : Nat) (hDa : slen Da = some ma) (hma : mx Da ≤ H.length) (oa ia : Int) (hIa : VI ma oa n ia) (hRa : zaq ma oa n ia) (Db : AV) (mb : Nat) (hDb : slen Db = some mb) (hmb : mx Db ≤ H.length) (ob ib : Int) (hIb : VI mb ob n ib) (hRb : zaq mb ob n ib) (hpe : 0 < ma → 0 < mb → ptrEq H Da 0 Db 0 = some false) :
    zab Try.prog 99 [vt Da oa (n : Int) ia, vt Db ob (n : Int) ib] H (.bool false) H := by
  obtain ⟨an, ao1, ao2, an1, an2, ai1, ai2⟩ := id hIa
  obtain ⟨bn, bo1, bo2, bn1, bn2, bi1, bi2⟩ := id hIb
  refine .go Try.call99 Try.func99 false [] dOk ?_
  simp only [zbf, Nat.reduceAdd]
  repeat' (first
 |(refine za1 ?_; (first | refine zce ?_ | refine zav ?_ | refine m13 ?_ | refine m12 ?_ | refine m11 ?_ | (refine m10 ?_; (first | refine zbr ?_ | refine zbm ?_ | refine zbq ?_ | refine zbn ?_ | refine zbp ?_ ?_ | refine zbo ?_ ?_ | refine zbl ?_ ?_ | refine zbk ?_ ?_ | fail)) | (refine m09 ?_; (first | refine zbr ?_ | refine zbm ?_ | refine zbq ?_ | refine zbn ?_ | refine zbp ?_ ?_ | refine zbo ?_ ?_ | refine zbl ?_ ?_ | refine zbk ?_ ?_ | fail)) | refine m38 ?_ | fail))
 |(refine za2 ?_; (first | refine m41 ?_ | refine zc9 ?_ | refine m14 ?_ | (refine m17 ?_; first | refine m19 ?_ | refine m18 ?_) | (refine m07 ?_; (first | refine m15 ?_ | refine m16 ?_ | fail)) | refine zus (by (conv => {lhs; whnf}); done) (by assumption) (zg1 (by assumption) (by assumption)) ?_ | refine zux (by (conv => {lhs; whnf}); done) (by (conv => {lhs; whnf}); done) (by rw [List.append_nil]; exact hpe (zg1 hRa (by assumption)) (zg1 hRb (by assumption))) ?_ | (refine m45 ?_; (first | refine zde (by exact rfl) ?_ | refine v_k ?_ | fail)) | (refine m00 ?_; (first | refine m52 ?_ | refine m53 ?_ | refine ze3 ?_ | refine m54 ?_ | refine m55 ?_ | refine zcb ?_ | refine m47 ?_ | refine m48 ?_ | refine m49 ?_ | refine m50 ?_ | refine zo7 (by omega) (by omega) ?_ | refine zww (by omega) (by omega) ?_ | refine v_k ?_ | refine m51 ?_ | fail)) | (refine m22 ?_; (first | refine m26 ?_ | refine m27 ?_ | fail)) | refine m42 ?_ | refine zad ?_ | refine zae ?_ | refine m08 ?_ | refine m01 ?_ | fail))
 |(refine zcy ?_; (first | refine m36 ?_ | refine zcw ?_ | refine m32 ?_ | refine m31 ?_ | refine m30 ?_ | (refine m28 ?_; (first | refine zb2 ?_ | refine zbx ?_ | refine zb1 ?_ | refine zby ?_ | refine zb0 ?_ ?_ | refine zbz ?_ ?_ | refine zbw ?_ ?_ | refine zbv ?_ ?_ | fail)) | (refine m29 ?_; (first | refine zb2 ?_ | refine zbx ?_ | refine zb1 ?_ | refine zby ?_ | refine zb0 ?_ ?_ | refine zbz ?_ ?_ | refine zbw ?_ ?_ | refine zbv ?_ ?_ | fail)) | refine m37 ?_ | fail))
 |(refine zcx ?_; (first | refine zgb ?_ | refine zh9 ?_ | refine zia (by (conv => {lhs; whnf}); done) ?_ | refine zib ?_ | refine zh8 (by exact rfl) (by exact rfl) ?_ | refine m34 ?_ | refine m35 ?_ | refine m33 ?_ | refine zgc ?_ | refine m56 ?_ | refine zcz ?_ | refine zdr (by exact rfl) ?_ | fail))
 |refine zaz ?_ | refine za0 ?_ | refine zay ?_
 |(refine za3 ?_; (first | refine zax ?_ | refine zac ?_ | (refine m06 ?_; (first | refine c_T ?_ | refine c_F ?_ | refine c_P ?_ ?_ | refine c_B ?_ ?_ | fail)) | refine zaw ?_ | refine zam ?_ | refine zaf ?_ | refine b_exit ?_ | refine zba (id := 1) [] [] [(0, .lt), (1, .ld true), (2, .ld true), (3, .lt), (4, .lt), (5, .ld true), (6, .ld true), (7, .lt), (8, .lt), (9, .lt), (10, .ld true), (11, .lt), (12, .lt), (13, .ld true), (14, .lt), (15, .ld true), (16, .lt)] (by kernel_rfl) ?_ | refine zba (id := 7) [] [] [(0, .lt), (1, .lt), (2, .lt), (3, .lt), (4, .lt), (5, .ld true), (6, .lt), (7, .ld true), (8, .lt), (9, .lt), (10, .lt), (11, .lt), (12, .ld true), (13, .lt), (14, .lt), (15, .ld true), (16, .lt), (17, .lt)] (by kernel_rfl) ?_ | fail))
 |refine zc7 ?_ | refine zc8 ?_ | refine zc6 ?_ | refine m57 ?_
 |refine zkg ?_ | refine zkh ?_ | refine zkf ?_
 |(refine zkk (by exact rfl) ?_; first | exact hK | (exfalso; first | omega | (simp_all; done) | (simp_all; omega)))
 |refine m05 ?_
 |refine m04 ?_ | refine m02 ?_ | refine m03 ?_ | refine zan ?_
 |intro _)
  all_goals first | refine zao rfl (by simp [mx, mxL, aOf, zb5, zai]) ?_ | (trace_state; fail)
  all_goals first
    | exact rfl
    | (exfalso; contradiction)
    | (exfalso; omega)
theorem pair_c (H : List (List AV)) (b : Nat) (l : List Nat) (hbl : b < H.length) (yo yi : Int) (n : Nat) (hyI : VI l.length yo n yi) (hyR : zaq l.length yo n yi) (X : AV) (hX : mx X ≤ H.length) (xl : Nat) (xo xi : Int) (hxI : VI xl xo n xi) (hxR : zaq xl xo n xi) (xv : Nat → Nat) (hrx : ∀ f, ∃ l', FL (H.set b (fl (za6 l yo yi n f))) X l' ∧ l'.length = xl ∧ ∀ j, j < n → vf l' xo xi j = xv j) (hpe : ∀ f N, 0 < l.length → 0 < xl → ptrEq (H.set b (fl (za6 l yo yi n f)) ++ N) (.slm b l.length 0 l.length 1) 0 X 0 = some false) (f : Nat → Nat) :
    zab Try.prog 80 [vt (.slm b l.length 0 l.length 1) yo (n : Int) yi, vt X xo (n : Int) xi] (H.set b (fl (za6 l yo yi n f))) (.int .i64 0) (H.set b (fl (za6 l yo yi n f))) := by
  obtain ⟨vn, vo1, vo2, vn1, vn2, vi1, vi2⟩ := id hyI
  obtain ⟨wn, wo1, wo2, wn1, wn2, wi1, wi2⟩ := id hxI
  have hXl : slen X = some xl := (by obtain ⟨l', h1, h2, _⟩ := hrx f; rw [← h2]; exact h1.len)
  refine .go Try.call80 Try.func80 false [] dOk ?_
  simp only [zbf, Nat.reduceAdd]
  repeat' (first
 |(refine za1 ?_; (first | refine zce ?_ | refine zav ?_ | refine m13 ?_ | refine m12 ?_ | refine m11 ?_ | (refine m10 ?_; (first | refine zbr ?_ | refine zbm ?_ | refine zbq ?_ | refine zbn ?_ | refine zbp ?_ ?_ | refine zbo ?_ ?_ | refine zbl ?_ ?_ | refine zbk ?_ ?_ | fail)) | (refine m09 ?_; (first | refine zbr ?_ | refine zbm ?_ | refine zbq ?_ | refine zbn ?_ | refine zbp ?_ ?_ | refine zbo ?_ ?_ | refine zbl ?_ ?_ | refine zbk ?_ ?_ | fail)) | refine m38 ?_ | fail))
 |(refine za2 ?_; (first | refine m14 ?_ | (refine m17 ?_; first | refine m19 ?_ | refine m18 ?_) | (refine m07 ?_; (first | refine m15 ?_ | refine m16 ?_ | fail)) | (refine m00 ?_; (first | refine m54 ?_ | refine m55 ?_ | refine zcb ?_ | refine m49 ?_ | refine m50 ?_ | refine zd3 ?_ | refine zd1 ?_ | refine zd2 ?_ | refine v_k ?_ | refine m51 ?_ | fail)) | (refine m22 ?_; (first | refine m26 ?_ | refine m27 ?_ | fail)) | refine m42 ?_ | refine zad ?_ | refine zae ?_ | refine m08 ?_ | (refine m20 ?_; (first | refine m54 ?_ | refine m55 ?_ | refine zcb ?_ | refine m49 ?_ | refine m50 ?_ | refine zd3 ?_ | refine zd1 ?_ | refine zd2 ?_ | refine v_k ?_ | refine m51 ?_ | fail)) | refine zar ?_ | refine m01 ?_ | fail))
 |refine zaz ?_ | refine za0 ?_ | refine zay ?_
 |(refine za3 ?_; (first | refine zax ?_ | refine zac ?_ | (refine m06 ?_; (first | refine c_T ?_ | refine c_F ?_ | refine c_P ?_ ?_ | refine c_B ?_ ?_ | fail)) | refine zaw ?_ | refine zam ?_ | refine zaf ?_ | refine b_exit ?_ | fail))
 |refine m21 ?_
 |refine zbi ?_
 |(refine zbj ?_; (first | refine cA (zio _ _ (.slm b l.length 0 l.length 1) l.length yo _ yi hyI hyR (zxq H b l hbl yo yi n hyI hyR _)) ?_ | refine cA (zio _ _ X xl xo _ xi hxI hxR ((hrx _).imp fun l' h => ⟨h.1, h.2.1⟩)) ?_ | refine cA (zt7 _ n (.slm b l.length 0 l.length 1) l.length (by exact rfl) (by simp [mx]; omega) yo yi hyI hyR X xl hXl (by simp; omega) xo xi hxI hxR (hpe _ _)) ?_ | fail))
 |refine zc7 ?_ | refine zc8 ?_ | refine zc6 ?_ | refine m57 ?_
 |refine m05 ?_
 |refine m04 ?_ | refine m02 ?_ | refine m03 ?_ | refine zan ?_
 |intro _)
  all_goals first
    | (exfalso; contradiction)
    | (exfalso; omega)
    | (refine zao (by simp) (by simp [mx, mxL, zai, aOf, zb5]) ?_; exact rfl)
def cpP (xv f : Nat → Nat) (t : Nat) : Nat → Nat := fun i => if i < t then xv i else f i
theorem zpm {xv f : Nat → Nat} {t : Nat} (i : Nat) : zr5 (cpP xv f t) t (xv t) i = cpP xv f (t + 1) i := by
  unfold zr5 cpP
  by_cases h : i = t
  · subst h; rw [if_pos rfl, if_pos (by omega)]
  · rw [if_neg h]
    by_cases h2 : i < t
    · rw [if_pos h2, if_pos (by omega)]
    · rw [if_neg h2, if_neg (by omega)]
theorem zwd (H : List (List AV)) (b : Nat) (l : List Nat) (hbl : b < H.length) (yo yi : Int) (n : Nat) (hyI : VI l.length yo n yi) (hyR : zaq l.length yo n yi) (X : AV) (hX : mx X ≤ H.length) (xl : Nat) (xo xi : Int) (hxI : VI xl xo n xi) (hxR : zaq xl xo n xi) (xv : Nat → Nat) (hrx : ∀ f, ∃ l', FL (H.set b (fl (za6 l yo yi n f))) X l' ∧ l'.length = xl ∧ ∀ j, j < n → vf l' xo xi j = xv j) (hpe : ∀ f N, 0 < l.length → 0 < xl → ptrEq (H.set b (fl (za6 l yo yi n f)) ++ N) (.slm b l.length 0 l.length 1) 0 X 0 = some false) (f : Nat → Nat) (N : List (List AV)) : zab Try.prog 80 [vt (.slm b l.length 0 l.length 1) yo (n : Int) yi, vt X xo (n : Int) xi] (H.set b (fl (za6 l yo yi n f)) ++ N) (.int .i64 0) (H.set b (fl (za6 l yo yi n f)) ++ N) := by
  have hs : ∀ Z, (H ++ N).set b Z = H.set b Z ++ N := fun Z => zdk hbl
  have h := pair_c (H ++ N) b l (by simp; omega) yo yi n hyI hyR X (by simp; omega) xl xo xi hxI hxR xv (fun f => by obtain ⟨l', h1, h2⟩ := hrx f; rw [hs]; exact ⟨l', h1.app N, h2⟩) (fun f N' => by rw [hs, List.append_assoc]; exact hpe f (N ++ N')) f
  rwa [hs] at h
theorem zt6 (H : List (List AV)) (b : Nat) (l : List Nat) (hbl : b < H.length) (yo yi : Int) (n : Nat) (hyI : VI l.length yo n yi) (hyR : zaq l.length yo n yi) (X : AV) (hX : mx X ≤ H.length) (xl : Nat) (xo xi : Int) (hxI : VI xl xo n xi) (hxR : zaq xl xo n xi) (xv : Nat → Nat) (hrx : ∀ f, ∃ l', FL (H.set b (fl (za6 l yo yi n f))) X l' ∧ l'.length = xl ∧ ∀ j, j < n → vf l' xo xi j = xv j) (hpe : ∀ f N, 0 < l.length → 0 < xl → ptrEq (H.set b (fl (za6 l yo yi n f)) ++ N) (.slm b l.length 0 l.length 1) 0 X 0 = some false) (f : Nat → Nat) :
    zab Try.prog 61 [vt (.slm b l.length 0 l.length 1) yo (n : Int) yi, vt X xo (n : Int) xi] (H.set b (fl (za6 l yo yi n f))) (.int .i64 0) (H.set b (fl (za6 l yo yi n xv))) := by
  obtain ⟨vn, vo1, vo2, vn1, vn2, vi1, vi2⟩ := id hyI
  obtain ⟨wn, wo1, wo2, wn1, wn2, wi1, wi2⟩ := id hxI
  have hXl : slen X = some xl := (by obtain ⟨l', h1, h2, _⟩ := hrx f; rw [← h2]; exact h1.len)
  have hA : (za6 l yo yi n (cpP xv f 0)) = (za6 l yo yi n f) := zbh hyR.2.2.1 hyR.2.1 fun i hi => if_neg (by omega)
  have hZ : (za6 l yo yi n (cpP xv f n)) = (za6 l yo yi n xv) := zbh hyR.2.2.1 hyR.2.1 fun i hi => if_pos hi
  have hs : ∀ k, k < n → (za6 l yo yi n (cpP xv f k)).set (0 + pos yo yi 0 k) (xv k) = (za6 l yo yi n (cpP xv f (k + 1))) := fun k hk => (by rw [Nat.zero_add, zir hyR hk]; exact zbh hyR.2.2.1 hyR.2.1 fun i hi => zpm i)
  rw [← hA, ← hZ]
  refine .go Try.call61 Try.func61 false [] dOk ?_
  simp only [zbf, Nat.reduceAdd]
  repeat' (first
 |(refine za1 ?_; (first | refine zce ?_ | refine zav ?_ | fail))
 |(refine za2 ?_; (first | refine m41 ?_ | refine zc9 ?_ | refine m14 ?_ | (refine m17 ?_; first | refine m19 ?_ | refine m18 ?_) | (refine m07 ?_; (first | refine m15 ?_ | refine m16 ?_ | refine zv5 (hrx _) hxR (show k < n by omega) (by exact rfl) ?_ | fail)) | refine zpi (m := pos yo yi 0 k) (by (conv => {lhs; whnf}); done) (by (conv => {lhs; whnf}); done) (by exact rfl) (by first | exact (by exact rfl) | exact zci hyR (by omega)) (by exact zdw hyR (by omega)) ?_ | refine zpi (m := pos xo xi 0 k) (by (conv => {lhs; whnf}); done) (by (conv => {lhs; whnf}); done) (by exact hXl) (by first | exact (by exact rfl) | exact zci hxR (by omega)) (by exact zdw hxR (by omega)) ?_ | refine zpj (X' := (za6 l yo yi n (cpP xv f (k + 1)))) (by (conv => {lhs; whnf}); done) (by (conv => {lhs; whnf}); done) hbl (by simp) (by simp; exact zfr hyR (by omega)) (by exact hs k (by omega)) ?_ | (refine m45 ?_; (first | refine zf4 ((k + 1 : Nat) : Int) (by omega) (by omega) ?_ | refine zf4 ((pos yo yi 0 k : Nat) : Int) (by have h1 := zci hyR (show k < n by omega); have h2 := zdw hyR (show k < n by omega); omega) (by have h1 := zci hyR (show k < n by omega); omega) ?_ | refine zf4 ((pos xo xi 0 k : Nat) : Int) (by have h1 := zci hxR (show k < n by omega); have h2 := zdw hxR (show k < n by omega); omega) (by have h1 := zci hxR (show k < n by omega); omega) ?_ | refine v_w (by first | omega | (have h1 := zc3 hyR (i := (k : Int)) (by omega) (by omega); omega) | (have h1 := zc3 hxR (i := (k : Int)) (by omega) (by omega); omega) | fail) ?_ | refine zde (by exact rfl) ?_ | refine v_k ?_ | fail)) | (refine m00 ?_; (first | refine zf4 ((k + 1 : Nat) : Int) (by omega) (by omega) ?_ | refine zf4 ((pos yo yi 0 k : Nat) : Int) (by have h1 := zci hyR (show k < n by omega); have h2 := zdw hyR (show k < n by omega); omega) (by have h1 := zci hyR (show k < n by omega); omega) ?_ | refine zf4 ((pos xo xi 0 k : Nat) : Int) (by have h1 := zci hxR (show k < n by omega); have h2 := zdw hxR (show k < n by omega); omega) (by have h1 := zci hxR (show k < n by omega); omega) ?_ | refine v_w (by first | omega | (have h1 := zc3 hyR (i := (k : Int)) (by omega) (by omega); omega) | (have h1 := zc3 hxR (i := (k : Int)) (by omega) (by omega); omega) | fail) ?_ | refine m52 ?_ | refine m53 ?_ | refine ze3 ?_ | refine m47 ?_ | refine m48 ?_ | refine m49 ?_ | refine m50 ?_ | refine v_k ?_ | refine m51 ?_ | fail)) | refine m42 ?_ | refine zad ?_ | refine zae ?_ | refine m08 ?_ | refine zar ?_ | refine m25 ?_ | refine m01 ?_ | fail))
 |(refine zcy ?_; (first | refine m36 ?_ | refine zcw ?_ | fail))
 |(refine zcx ?_; (first | refine zgb ?_ | refine zh9 ?_ | refine zia (by (conv => {lhs; whnf}); done) ?_ | refine zib ?_ | refine zh8 (by exact rfl) (by exact rfl) ?_ | refine m34 ?_ | refine m35 ?_ | refine m33 ?_ | refine zgc ?_ | refine m56 ?_ | refine zcz ?_ | refine zdr (by exact rfl) ?_ | fail))
 |refine zaz ?_ | refine za0 ?_ | refine zay ?_
 |(refine za3 ?_; (first | refine zax ?_ | refine zac ?_ | (refine m06 ?_; (first | refine c_T ?_ | refine c_F ?_ | refine c_P ?_ ?_ | refine c_B ?_ ?_ | fail)) | refine zaw ?_ | refine zam ?_ | refine zaf ?_ | refine b_exit ?_ | refine zba (id := 6) [] [21] [(0, .lt), (1, .ld true), (2, .lt), (3, .ld true), (4, .lt), (5, .lt), (6, .ld true), (7, .lt), (8, .lt), (9, .lt), (10, .ld true), (11, .lt), (12, .ld true), (13, .lt), (14, .lt), (15, .ld true), (16, .lt), (17, .lt), (18, .lt), (19, .ld true), (20, .lt), (21, .mn false)] (by kernel_rfl) ?_ | (refine zb3 [2, 3, 5, 13, 14] n (fun k => ⟨[(2, .loc 2 0), (3, .loc 3 0), (5, .val (.int .i64 0)), (13, .val (.int .i64 ((n : Nat) : Int))), (14, .val (.int .i64 ((k : Nat) : Int)))], [(2, [(.slm b l.length 0 l.length 1), .int .i64 yo, .int .i64 (n : Int), .int .i64 yi]), (3, [X, .int .i64 xo, .int .i64 (n : Int), .int .i64 xi])], H.set b (fl (za6 l yo yi n (cpP xv f k))) ++ []⟩) (by exact rfl) ?_ ?_ <;> (first | intro k hk K hK | intro K) <;> (try dsimp only at *)) | fail))
 |refine m21 ?_
 |refine zbi ?_
 |(refine zbj ?_; (first | refine cA (zwd H b l hbl yo yi n hyI hyR X hX xl xo xi hxI hxR xv hrx hpe _ _) ?_ | fail))
 |refine zc7 ?_ | refine zc8 ?_ | refine zc6 ?_ | refine m57 ?_
 |refine zkg ?_ | refine zkh ?_ | refine zkf ?_
 |(refine zkk (by exact rfl) ?_; first | exact hK | fail | (exfalso; first | omega | (simp_all; done) | (simp_all; omega)))
 |refine m05 ?_
 |refine m04 ?_ | refine m02 ?_ | refine m03 ?_ | refine zan ?_
 |intro _)
  all_goals first
    | (exfalso; contradiction)
    | (exfalso; omega)
    | (refine zao (by simp) (by simp [mx, mxL, zai, aOf, zb5]) ?_; exact rfl)
theorem zst (H : List (List AV)) (b : Nat) (l : List Nat) (hbl : b < H.length) (zo zl : Int) (r c : Nat) (hzI : MI l.length zo r c zl) (hzG : zaa l.length zo r c zl) (X : AV) (hX : mx X ≤ H.length) (xm : Nat) (xo xl : Int) (hxI : MI xm xo r c xl) (hxG : zaa xm xo r c xl) (xa : Nat → Nat → Nat) (hrx : ∀ g, ∃ l', FL (H.set b (fl (zal l zo zl r c g))) X l' ∧ l'.length = xm ∧ ∀ i j, i < r → j < c → mel l' xo xl i j = xa i j) (hpx : ∀ g N, 0 < l.length → 0 < xm → ptrEq (H.set b (fl (zal l zo zl r c g)) ++ N) (.slm b l.length 0 l.length 1) 0 X 0 = some false) (g : Nat → Nat → Nat) (N : List (List AV)) (j : Nat) (hj : j < c) (hr0 : 0 < r) :
    zab Try.prog 61 [vt (.slm b l.length 0 l.length 1) (zdg zo (r : Int) zl (j : Int)) (r : Int) 1, vt X (zdg xo (r : Int) xl (j : Int)) (r : Int) 1] (H.set b (fl (zal l zo zl r c g)) ++ N) (.int .i64 0) (H.set b (fl (zal l zo zl r c (zha g 0 r j (fun i => xa i j)))) ++ N) := by
  have hst : ∀ f, (H ++ N).set b (fl (za6 (zal l zo zl r c g) (zdg zo (r : Int) zl (j : Int)) 1 r f)) = H.set b (fl (zal l zo zl r c (zha g 0 r j f))) ++ N := fun f => by rw [zdk hbl, zjv hzG hj hr0]
  have hlen : (zal l zo zl r c g).length = l.length := by simp
  have hI1 : VI l.length (zdg zo (r : Int) zl (j : Int)) (r : Int) 1 := zi7 hzI hzG hj
  have hR1 : zaq l.length (zdg zo (r : Int) zl (j : Int)) (r : Int) 1 := zdq hzG (by omega) (by omega)
  have hI2 : VI xm (zdg xo (r : Int) xl (j : Int)) (r : Int) 1 := zi7 hxI hxG hj
  have hR2 : zaq xm (zdg xo (r : Int) xl (j : Int)) (r : Int) 1 := zdq hxG (by omega) (by omega)
  have h := zt6 (H ++ N) b (zal l zo zl r c g) (by simp; omega) (zdg zo (r : Int) zl (j : Int)) 1 r (by rw [hlen]; exact hI1) (by rw [hlen]; exact hR1) X (by simp; omega) xm (zdg xo (r : Int) xl (j : Int)) 1 hI2 hR2 (fun i => xa i j)
    (fun f => by
      rw [hst]; obtain ⟨l', h1, h2, h3⟩ := hrx (zha g 0 r j f)
      refine ⟨l', h1.app N, h2, fun k hk => ?_⟩
      unfold vf; rw [zlc hk]; exact h3 k j hk hj)
    (fun f N' => by rw [hst, hlen, List.append_assoc]; exact hpx _ _) (fun i => g i j)
  rw [hst, hst, hlen, za4 (g := zha g 0 r j (fun i => g i j)) (g' := g) hzG.2.2.2.1 hzG.2.2.1 (fun i k hi _ => zi6 i k hi)] at h
  exact h
theorem zvv (H : List (List AV)) (b : Nat) (l : List Nat) (hbl : b < H.length) (zo zl : Int) (r c : Nat) (hzI : MI l.length zo r c zl) (hzG : zaa l.length zo r c zl) (X : AV) (hX : mx X ≤ H.length) (xm : Nat) (xo xl : Int) (hxI : MI xm xo r c xl) (hxG : zaa xm xo r c xl) (xa : Nat → Nat → Nat) (hrx : ∀ g, ∃ l', FL (H.set b (fl (zal l zo zl r c g))) X l' ∧ l'.length = xm ∧ ∀ i j, i < r → j < c → mel l' xo xl i j = xa i j) (hpx : ∀ g N, 0 < l.length → 0 < xm → ptrEq (H.set b (fl (zal l zo zl r c g)) ++ N) (.slm b l.length 0 l.length 1) 0 X 0 = some false) (g : Nat → Nat → Nat) :
    zab Try.prog 35 [mt (.slm b l.length 0 l.length 1) zo (r : Int) (c : Int) zl, mt X xo (r : Int) (c : Int) xl] (H.set b (fl (zal l zo zl r c g))) (.int .i64 0) (H.set b (fl (zal l zo zl r c xa))) := by
  obtain ⟨hm, ho1, ho2, hr1, hr2, hc1, hc2, hl1, hl2⟩ := id hzI
  obtain ⟨xm1, xo1, xo2, xr1, xr2, xc1, xc2, xl1, xl2⟩ := id hxI
  have hXl : slen X = some xm := (by obtain ⟨l', h1, h2, _⟩ := hrx g; rw [← h2]; exact h1.len)
  have hsm : ∀ g1 g2 : Nat → Nat → Nat, (∀ i j, i < r → j < c → g1 i j = g2 i j) → (zal l zo zl r c g1) = (zal l zo zl r c g2) := fun g1 g2 h => za4 hzG.2.2.2.1 hzG.2.2.1 h
  have hE : r = 0 → (zal l zo zl r c xa) = (zal l zo zl r c g) := fun h => hsm _ _ (by omega)
  have hA : (zal l zo zl r c (wrC g xa 0)) = (zal l zo zl r c g) := hsm _ _ fun i j _ _ => zlv i j
  have hZ : (zal l zo zl r c (wrC g xa c)) = (zal l zo zl r c xa) := hsm _ _ fun i j _ hj => zo8 hj
  have hst : ∀ j, j < c → (zal l zo zl r c (zha (wrC g xa j) 0 r j (fun i => xa i j))) = (zal l zo zl r c (wrC g xa (j + 1))) := fun j hj => hsm _ _ fun i j' hi _ => zlu (n := r) (fun i hi => by rw [if_pos ⟨by omega, by omega⟩]; rfl) i j' hi
  refine .go Try.call35 Try.func35 false [] dOk ?_
  simp only [zbf, Nat.reduceAdd]
  repeat' (first
 |(refine za1 ?_; (first | refine zce ?_ | refine zav ?_ | refine m13 ?_ | refine m12 ?_ | refine m11 ?_ | (refine m10 ?_; (first | refine zbr ?_ | refine zbm ?_ | refine zbq ?_ | refine zbn ?_ | refine zbp ?_ ?_ | refine zbo ?_ ?_ | refine zbl ?_ ?_ | refine zbk ?_ ?_ | fail)) | (refine m09 ?_; (first | refine zbr ?_ | refine zbm ?_ | refine zbq ?_ | refine zbn ?_ | refine zbp ?_ ?_ | refine zbo ?_ ?_ | refine zbl ?_ ?_ | refine zbk ?_ ?_ | fail)) | refine m38 ?_ | fail))
 |(refine za2 ?_; (first | refine m41 ?_ | refine zc9 ?_ | refine m14 ?_ | (refine m17 ?_; first | refine m19 ?_ | refine m18 ?_) | (refine m07 ?_; (first | refine m15 ?_ | refine m16 ?_ | fail)) | (refine m45 ?_; (first | refine zf4 ((k + 1 : Nat) : Int) (by omega) (by omega) ?_ | refine zde (by exact rfl) ?_ | refine v_k ?_ | fail)) | (refine m00 ?_; (first | refine zf4 ((k + 1 : Nat) : Int) (by omega) (by omega) ?_ | refine m52 ?_ | refine m53 ?_ | refine ze3 ?_ | refine m54 ?_ | refine m55 ?_ | refine zcb ?_ | refine m47 ?_ | refine m48 ?_ | refine m49 ?_ | refine m50 ?_ | refine zd3 ?_ | refine zd1 ?_ | refine zd2 ?_ | refine v_k ?_ | refine m51 ?_ | fail)) | (refine m22 ?_; (first | refine m26 ?_ | refine m27 ?_ | fail)) | refine m42 ?_ | refine zad ?_ | refine zae ?_ | refine m08 ?_ | (refine m20 ?_; (first | refine zf4 ((k + 1 : Nat) : Int) (by omega) (by omega) ?_ | refine m52 ?_ | refine m53 ?_ | refine ze3 ?_ | refine m54 ?_ | refine m55 ?_ | refine zcb ?_ | refine m47 ?_ | refine m48 ?_ | refine m49 ?_ | refine m50 ?_ | refine zd3 ?_ | refine zd1 ?_ | refine zd2 ?_ | refine v_k ?_ | refine m51 ?_ | fail)) | refine zar ?_ | refine m01 ?_ | fail))
 |(refine zcy ?_; (first | refine m36 ?_ | refine zcw ?_ | refine m32 ?_ | refine m31 ?_ | refine m30 ?_ | (refine m28 ?_; (first | refine zb2 ?_ | refine zbx ?_ | refine zb1 ?_ | refine zby ?_ | refine zb0 ?_ ?_ | refine zbz ?_ ?_ | refine zbw ?_ ?_ | refine zbv ?_ ?_ | fail)) | (refine m29 ?_; (first | refine zb2 ?_ | refine zbx ?_ | refine zb1 ?_ | refine zby ?_ | refine zb0 ?_ ?_ | refine zbz ?_ ?_ | refine zbw ?_ ?_ | refine zbv ?_ ?_ | fail)) | refine m37 ?_ | fail))
 |(refine zcx ?_; (first | refine zgb ?_ | refine zh9 ?_ | refine zia (by (conv => {lhs; whnf}); done) ?_ | refine zib ?_ | refine zh8 (by exact rfl) (by exact rfl) ?_ | refine m34 ?_ | refine m35 ?_ | refine m33 ?_ | refine zgc ?_ | refine m56 ?_ | refine zcz ?_ | refine zdr (by exact rfl) ?_ | fail))
 |refine zaz ?_ | refine za0 ?_ | refine zay ?_
 |(refine za3 ?_; (first | refine zax ?_ | refine zac ?_ | (refine m06 ?_; (first | refine c_T ?_ | refine c_F ?_ | refine c_P ?_ ?_ | refine c_B ?_ ?_ | fail)) | refine zaw ?_ | refine zam ?_ | refine zaf ?_ | refine b_exit ?_ | refine zba (id := 12) [] [6] [(0, .ld true), (1, .lt), (3, .ld true), (4, .lt), (2, .mn true), (5, .mn true), (6, .mn false)] (by kernel_rfl) ?_ | (refine zb3 [2, 3, 37, 38] c (fun k => ⟨[(2, .loc 2 0), (3, .loc 3 0), (37, .val (.int .i64 ((c : Nat) : Int))), (38, .val (.int .i64 ((k : Nat) : Int)))], [(2, [(.slm b l.length 0 l.length 1), .int .i64 zo, .int .i64 (r : Int), .int .i64 (c : Int), .int .i64 zl]), (3, [X, .int .i64 xo, .int .i64 (r : Int), .int .i64 (c : Int), .int .i64 xl])], H.set b (fl (zal l zo zl r c (wrC g xa k))) ++ []⟩) (by simp only [hA]; exact rfl) ?_ ?_ <;> (first | intro k hk K hK | intro K) <;> (try dsimp only at *)) | fail))
 |refine m21 ?_
 |refine zbi ?_
 |(refine zbj ?_; (first | refine cA (zhk _ _ X xm xo _ _ xl hxI hxG ((hrx _).imp fun l' h => ⟨h.1, h.2.1⟩)) ?_ | refine cA (zhk _ _ (.slm b l.length 0 l.length 1) l.length zo _ _ zl hzI hzG (zvf H b l hbl zo zl r c _)) ?_ | refine cA (zru _ (.slm b l.length 0 l.length 1) l.length zo r c zl (by exact rfl) hzI X xm xo r c xl hXl hxI (hpx _ _)) ?_ | refine cA (zje _ _ X xm xo xl r c hxI hxG ((hrx _).imp fun l' h => ⟨h.1, h.2.1⟩) k (by omega)) ?_ | refine cA (zje _ _ (.slm b l.length 0 l.length 1) l.length zo zl r c hzI hzG (zvf H b l hbl zo zl r c _) k (by omega)) ?_ | refine c_call (zst H b l hbl zo zl r c hzI hzG X hX xm xo xl hxI hxG xa hrx hpx _ [] k (by omega) (by omega)) (zb7.set2 hbl (by simp) (by rw [zcl]; omega)) ?_ | fail))
 |refine zc7 ?_ | refine zc8 ?_ | refine zc6 ?_ | refine m57 ?_
 |refine zkg ?_ | refine zkh ?_ | refine zkf ?_
 |(refine zkk (by exact rfl) ?_; first | exact hK | (rw [hst k (by omega)]; exact hK) | (exfalso; first | omega | (simp_all; done) | (simp_all; omega)))
 |refine m05 ?_
 |refine m04 ?_ | refine m02 ?_ | refine m03 ?_ | refine zan ?_
 |intro _)
  all_goals first
    | (exfalso; contradiction)
    | (exfalso; omega)
    | (refine zao (by simp) (by simp [mx, mxL, zai, aOf, zb5]) ?_; exact rfl)
    | (rw [hE (by omega)]; refine zao (by simp) (by simp [mx, mxL, zai, aOf, zb5]) ?_; exact rfl)
    | (rw [← hZ]; refine zao (by simp) (by simp [mx, mxL, zai, aOf, zb5]) ?_; exact rfl)
theorem zsl (n : Nat) (hn : n ≤ 4096) (size : Int) (hs : 1 ≤ size) (hs2 : size ≤ 9223372036854775807) : ∃ T Q, Cuts n T Q ∧ ∀ H, zab Try.prog 53 [.int .i64 (n : Int), .int .i64 size, .slnil] H (cuV T Q) H := by
  by_cases h : 1 ≤ n
  · obtain ⟨m, hm⟩ : ∃ m : Nat, min size (n : Int) = (m : Int) := ⟨(min size (n : Int)).toNat, by omega⟩
    obtain ⟨h1, h2⟩ := zsv (n := n) (m := m) (by omega) (by omega)
    refine ⟨_, _, h1, fun H => ?_⟩
    have h3 := zxj H .slnil [] (IL.nil H) (by simp) n m size h hn hs hs2 hm
    rw [h2] at h3
    exact h3
  · have : n = 0 := by omega
    subst this
    exact ⟨0, _, zpo, fun H => zxk H .slnil [] (IL.nil H) (by simp) 0 size (by omega) (by omega) (by omega)⟩
end Go.Sx
set_option linter.unusedVariables false
set_option linter.unusedSimpArgs false
set_option maxRecDepth 20000
namespace Go.Sx
open Go.Proofs
theorem zoe (H N : List (List AV)) (D : AV) (m : Nat) (off ld : Int) (r c : Nat) (hI : MI m off r c ld) (hG : zaa m off r c ld) (h : ∃ l', FL H D l' ∧ l'.length = m) (i j r' c' : Nat) (hi : i + r' ≤ r) (hj : j + c' ≤ c) (o : Int) (ho : o = zii off ld (i : Int) (j : Int) (r' : Int) (c' : Int)) :
    zab Try.prog 33 [mt D off (r : Int) (c : Int) ld, .int .i64 (i : Int), .int .i64 (j : Int), .int .i64 (r' : Int), .int .i64 (c' : Int)] (H ++ N) (mt D o (r' : Int) (c' : Int) ld) (H ++ N) := by
  obtain ⟨l', h1, h2⟩ := h
  subst h2 ho
  exact zgz _ D l' (h1.app N) off r c ld hI hG i j r' c' (by omega) (by omega) (by omega) (by omega) (by omega) (by omega)
theorem zij {off ld : Int} {i j r' c' : Nat} (hr : 0 < r') (hc : 0 < c') : off + ((i : Int) + (j : Int) * ld) = zii off ld (i : Int) (j : Int) (r' : Int) (c' : Int) := by
  unfold zii; rw [if_pos ⟨by omega, by omega⟩]
theorem zp3 (H : List (List AV)) (b : Nat) (l : List Nat) (hbl : b < H.length) (zo zl : Int) (r c : Nat) (hzI : MI l.length zo r c zl) (hzG : zaa l.length zo r c zl) (lo hi : Int) (hin : InS zo r c zl lo hi) (w : Nat) (X : AV) (hX : mx X ≤ H.length) (xm : Nat) (xo xl : Int) (hxI : MI xm xo r w xl) (hxG : zaa xm xo r w xl) (xa : Nat → Nat → Nat) (hrx : ∀ g, ∃ l', FL (H.set b (fl (zal l zo zl r c g))) X l' ∧ l'.length = xm ∧ ∀ i j, i < r → j < w → mel l' xo xl i j = xa i j) (px : Bool) (hpx : ∀ g N, 0 < l.length → 0 < xm → ptrEq (H.set b (fl (zal l zo zl r c g)) ++ N) (.slm b l.length 0 l.length 1) 0 X 0 = some px) (lox hix : Int) (hinx : InS xo r w xl lox hix) (hfx : zfk px lo hi lox hix) (Y : AV) (hY : mx Y ≤ H.length) (ym : Nat) (yo yl : Int) (hyI : MI ym yo w c yl) (hyG : zaa ym yo w c yl) (ya : Nat → Nat → Nat) (hry : ∀ g, ∃ l', FL (H.set b (fl (zal l zo zl r c g))) Y l' ∧ l'.length = ym ∧ ∀ i j, i < w → j < c → mel l' yo yl i j = ya i j) (py : Bool) (hpy : ∀ g N, 0 < l.length → 0 < ym → ptrEq (H.set b (fl (zal l zo zl r c g)) ++ N) (.slm b l.length 0 l.length 1) 0 Y 0 = some py) (loy hiy : Int) (hiny : InS yo w c yl loy hiy) (hfy : zfk py lo hi loy hiy) (A : Nat) (g : Nat → Nat → Nat) (N : List (List AV)) (i0 mi j0 mj k0 mk : Nat) (hi0 : i0 + mi ≤ r) (hj0 : j0 + mj ≤ c) (hk0 : k0 + mk ≤ w) (hmi : 0 < mi) (hmj : 0 < mj) (hmk : 0 < mk) :
    zab Try.prog 31 [.flt A, mt X (xo + ((i0 : Int) + (k0 : Int) * xl)) (mi : Int) (mk : Int) xl, mt Y (yo + ((k0 : Int) + (j0 : Int) * yl)) (mk : Int) (mj : Int) yl, .flt 4607182418800017408, mt (.slm b l.length 0 l.length 1) (zo + ((i0 : Int) + (j0 : Int) * zl)) (mi : Int) (mj : Int) zl] (H.set b (fl (zal l zo zl r c g)) ++ N) (.int .i64 0) (H.set b (fl (zal l zo zl r c (zd4 g (gmR A 4607182418800017408 (fun i k => xa (i0 + i) (k0 + k)) (fun k j => ya (k0 + k) (j0 + j)) mk (fun i j => g (i0 + i) (j0 + j))) i0 j0 mi mj))) ++ N) := by
  have hst : ∀ f, (H ++ N).set b (fl (zal (zal l zo zl r c g) (zo + ((i0 : Int) + (j0 : Int) * zl)) zl mi mj f)) = H.set b (fl (zal l zo zl r c (zd4 g f i0 j0 mi mj))) ++ N := fun f => by rw [zdk hbl, zmm hzG hi0 hj0 hmi hmj]
  have hlen : (zal l zo zl r c g).length = l.length := by simp
  have h := zvr (H ++ N) b (zal l zo zl r c g) (by simp; omega) (zo + ((i0 : Int) + (j0 : Int) * zl)) zl mi mj (by rw [hlen]; exact zkj hzI hzG hi0 hj0 hmi hmj) (by rw [hlen]; exact zff hzG hi0 hj0 hmi hmj) lo hi (hin.part hzG.2.2.2.1 hi0 hj0 (by rw [if_pos ⟨by omega, by omega⟩])) mk
    X (by simp; omega) xm (xo + ((i0 : Int) + (k0 : Int) * xl)) xl (zkj hxI hxG hi0 hk0 hmi hmk) (zff hxG hi0 hk0 hmi hmk) (fun i k => xa (i0 + i) (k0 + k))
    (fun f => by
      rw [hst]; obtain ⟨l', h1, h2, h3⟩ := hrx (zd4 g f i0 j0 mi mj)
      exact ⟨l', h1.app N, h2, fun i k hi hk => by rw [zld]; exact h3 _ _ (by omega) (by omega)⟩) px
    (fun f N' => by rw [hst, hlen, List.append_assoc]; exact hpx _ _) lox hix (hinx.part hxG.2.2.2.1 hi0 hk0 (by rw [if_pos ⟨by omega, by omega⟩])) hfx
    Y (by simp; omega) ym (yo + ((k0 : Int) + (j0 : Int) * yl)) yl (zkj hyI hyG hk0 hj0 hmk hmj) (zff hyG hk0 hj0 hmk hmj) (fun k j => ya (k0 + k) (j0 + j))
    (fun f => by
      rw [hst]; obtain ⟨l', h1, h2, h3⟩ := hry (zd4 g f i0 j0 mi mj)
      exact ⟨l', h1.app N, h2, fun k j hk hj => by rw [zld]; exact h3 _ _ (by omega) (by omega)⟩) py
    (fun f N' => by rw [hst, hlen, List.append_assoc]; exact hpy _ _) loy hiy (hiny.part hyG.2.2.2.1 hk0 hj0 (by rw [if_pos ⟨by omega, by omega⟩])) hfy A 4607182418800017408 (fun i j => g (i0 + i) (j0 + j))
  rw [hst, hst, hlen, za4 (g := zd4 g (fun i j => g (i0 + i) (j0 + j)) i0 j0 mi mj) (g' := g) hzG.2.2.2.1 hzG.2.2.1 (fun i j _ _ => zmg i j)] at h
  exact h
attribute [local irreducible] Ex zas exD opX opE zdd zfl zfs Spec zab Fr zda zbc zbb ckK zcd zc0 zbt faK zcs ze5 gK fK rK zg7 lpX prK
theorem zwq (H : List (List AV)) (b : Nat) (l : List Nat) (hbl : b < H.length) (zo zl : Int) (r c : Nat) (hzI : MI l.length zo r c zl) (hzG : zaa l.length zo r c zl) (lo hi : Int) (hin : InS zo r c zl lo hi) (w : Nat) (X : AV) (hX : mx X ≤ H.length) (xm : Nat) (xo xl : Int) (hxI : MI xm xo r w xl) (hxG : zaa xm xo r w xl) (xa : Nat → Nat → Nat) (hrx : ∀ g, ∃ l', FL (H.set b (fl (zal l zo zl r c g))) X l' ∧ l'.length = xm ∧ ∀ i j, i < r → j < w → mel l' xo xl i j = xa i j) (px : Bool) (hpx : ∀ g N, 0 < l.length → 0 < xm → ptrEq (H.set b (fl (zal l zo zl r c g)) ++ N) (.slm b l.length 0 l.length 1) 0 X 0 = some px) (lox hix : Int) (hinx : InS xo r w xl lox hix) (hfx : zfk px lo hi lox hix) (Y : AV) (hY : mx Y ≤ H.length) (ym : Nat) (yo yl : Int) (hyI : MI ym yo w c yl) (hyG : zaa ym yo w c yl) (ya : Nat → Nat → Nat) (hry : ∀ g, ∃ l', FL (H.set b (fl (zal l zo zl r c g))) Y l' ∧ l'.length = ym ∧ ∀ i j, i < w → j < c → mel l' yo yl i j = ya i j) (py : Bool) (hpy : ∀ g N, 0 < l.length → 0 < ym → ptrEq (H.set b (fl (zal l zo zl r c g)) ++ N) (.slm b l.length 0 l.length 1) 0 Y 0 = some py) (loy hiy : Int) (hiny : InS yo w c yl loy hiy) (hfy : zfk py lo hi loy hiy) (A : Nat) (g : Nat → Nat → Nat) (s1 s2 s3 : Int) (i0 mi j0 mj k0 mk : Nat) (hi0 : i0 + mi ≤ r) (hj0 : j0 + mj ≤ c) (hk0 : k0 + mk ≤ w) (hmi : 0 < mi) (hmj : 0 < mj) (hmk : 0 < mk) :
    zab Try.prog 62 [.agg [.int .i64 s1, .int .i64 s2, .int .i64 s3, .flt A, X, .int .i64 xo, .int .i64 (r : Int), .int .i64 (w : Int), .int .i64 xl, Y, .int .i64 yo, .int .i64 (w : Int), .int .i64 (c : Int), .int .i64 yl, (.slm b l.length 0 l.length 1), .int .i64 zo, .int .i64 (r : Int), .int .i64 (c : Int), .int .i64 zl], .agg [.int .i64 ((i0 : Nat) : Int), .int .i64 ((mi : Nat) : Int)], .agg [.int .i64 ((j0 : Nat) : Int), .int .i64 ((mj : Nat) : Int)], .agg [.int .i64 ((k0 : Nat) : Int), .int .i64 ((mk : Nat) : Int)]] (H.set b (fl (zal l zo zl r c g))) (.tup []) (H.set b (fl (zal l zo zl r c (zd4 g (gmR A 4607182418800017408 (fun i k => xa (i0 + i) (k0 + k)) (fun k j => ya (k0 + k) (j0 + j)) mk (fun i j => g (i0 + i) (j0 + j))) i0 j0 mi mj)))) := by
  obtain ⟨hm, ho1, ho2, hr1, hr2, hc1, hc2, hl1, hl2⟩ := id hzI
  obtain ⟨xm1, xo1, xo2, xr1, xr2, xc1, xc2, xl1, xl2⟩ := id hxI
  obtain ⟨ym1, yo1, yo2, yr1, yr2, yc1, yc2, yl1, yl2⟩ := id hyI
  have hXl : slen X = some xm := by (obtain ⟨l', h1, h2, _⟩ := hrx g; rw [← h2]; exact h1.len)
  have hYl : slen Y = some ym := by (obtain ⟨l', h1, h2, _⟩ := hry g; rw [← h2]; exact h1.len)
  refine .go Try.call62 Try.func62 false [] dOk ?_
  simp only [zbf, Nat.reduceAdd]
  repeat' (first
 |(refine za1 ?_; (first | refine zce ?_ | refine zav ?_ | fail))
 |(refine za2 ?_; (first | (refine m17 ?_; first | refine m19 ?_ | refine m18 ?_) | (refine m07 ?_; (first | refine m15 ?_ | refine m16 ?_ | fail)) | refine zph (n := 0) (by (conv => {lhs; whnf}); done) (by omega) ?_ | refine zph (n := 1) (by (conv => {lhs; whnf}); done) (by omega) ?_ | refine zar ?_ | refine m25 ?_ | refine m01 ?_ | refine m24 ?_ | fail))
 |refine zaz ?_ | refine za0 ?_ | refine zay ?_
 |(refine za3 ?_; (first | refine zax ?_ | refine zac ?_ | (refine m06 ?_; (first | refine c_T ?_ | refine c_F ?_ | refine c_P ?_ ?_ | refine c_B ?_ ?_ | fail)) | refine zaw ?_ | refine zam ?_ | refine zaf ?_ | refine b_exit ?_ | fail))
 |refine m43 ?_
 |refine zd7 ?_
 |refine m21 ?_
 |refine zbi ?_
 |(refine zbj ?_; (first | refine cA (zoe _ _ X xm xo xl r w hxI hxG ((hrx _).imp fun l' h => ⟨h.1, h.2.1⟩) i0 k0 mi mk hi0 hk0 _ (zij hmi hmk)) ?_ | refine cA (zoe _ _ Y ym yo yl w c hyI hyG ((hry _).imp fun l' h => ⟨h.1, h.2.1⟩) k0 j0 mk mj hk0 hj0 _ (zij hmk hmj)) ?_ | refine cA (zoe _ _ (.slm b l.length 0 l.length 1) l.length zo zl r c hzI hzG (zvf H b l hbl zo zl r c _) i0 j0 mi mj hi0 hj0 _ (zij hmi hmj)) ?_ | refine c_call (zp3 H b l hbl zo zl r c hzI hzG lo hi hin w X hX xm xo xl hxI hxG xa hrx px hpx lox hix hinx hfx Y hY ym yo yl hyI hyG ya hry py hpy loy hiy hiny hfy A g [] i0 mi j0 mj k0 mk hi0 hj0 hk0 hmi hmj hmk) (zb7.set2 hbl (by simp) (by rw [zcl]; omega)) ?_ | fail))
 |refine m05 ?_
 |refine m04 ?_ | refine m02 ?_ | refine m03 ?_ | refine zan ?_
 |intro _)
  all_goals first
    | (exfalso; contradiction)
    | (exfalso; omega)
    | (refine zao (by simp) (by simp [mx, mxL, zai, aOf, zb5]) ?_; exact rfl)
theorem zwr (H : List (List AV)) (b : Nat) (l : List Nat) (hbl : b < H.length) (zo zl : Int) (r c : Nat) (hzI : MI l.length zo r c zl) (hzG : zaa l.length zo r c zl) (lo hi : Int) (hin : InS zo r c zl lo hi) (w : Nat) (X : AV) (hX : mx X ≤ H.length) (xm : Nat) (xo xl : Int) (hxI : MI xm xo r w xl) (hxG : zaa xm xo r w xl) (xa : Nat → Nat → Nat) (hrx : ∀ g, ∃ l', FL (H.set b (fl (zal l zo zl r c g))) X l' ∧ l'.length = xm ∧ ∀ i j, i < r → j < w → mel l' xo xl i j = xa i j) (px : Bool) (hpx : ∀ g N, 0 < l.length → 0 < xm → ptrEq (H.set b (fl (zal l zo zl r c g)) ++ N) (.slm b l.length 0 l.length 1) 0 X 0 = some px) (lox hix : Int) (hinx : InS xo r w xl lox hix) (hfx : zfk px lo hi lox hix) (Y : AV) (hY : mx Y ≤ H.length) (ym : Nat) (yo yl : Int) (hyI : MI ym yo w c yl) (hyG : zaa ym yo w c yl) (ya : Nat → Nat → Nat) (hry : ∀ g, ∃ l', FL (H.set b (fl (zal l zo zl r c g))) Y l' ∧ l'.length = ym ∧ ∀ i j, i < w → j < c → mel l' yo yl i j = ya i j) (py : Bool) (hpy : ∀ g N, 0 < l.length → 0 < ym → ptrEq (H.set b (fl (zal l zo zl r c g)) ++ N) (.slm b l.length 0 l.length 1) 0 Y 0 = some py) (loy hiy : Int) (hiny : InS yo w c yl loy hiy) (hfy : zfk py lo hi loy hiy) (A : Nat) (s1 s2 s3 : Int) (g g' : Nat → Nat → Nat) (N : List (List AV)) (i0 mi j0 mj k0 mk : Nat) (hi0 : i0 + mi ≤ r) (hj0 : j0 + mj ≤ c) (hk0 : k0 + mk ≤ w) (hmi : 0 < mi) (hmj : 0 < mj) (hmk : 0 < mk) (hg : ∀ i j, i < r → j < c → (zd4 g (gmR A 4607182418800017408 (fun i k => xa (i0 + i) (k0 + k)) (fun k j => ya (k0 + k) (j0 + j)) mk (fun i j => g (i0 + i) (j0 + j))) i0 j0 mi mj) i j = g' i j) : zab Try.prog 62 [.agg [.int .i64 s1, .int .i64 s2, .int .i64 s3, .flt A, X, .int .i64 xo, .int .i64 (r : Int), .int .i64 (w : Int), .int .i64 xl, Y, .int .i64 yo, .int .i64 (w : Int), .int .i64 (c : Int), .int .i64 yl, (.slm b l.length 0 l.length 1), .int .i64 zo, .int .i64 (r : Int), .int .i64 (c : Int), .int .i64 zl], .agg [.int .i64 ((i0 : Nat) : Int), .int .i64 ((mi : Nat) : Int)], .agg [.int .i64 ((j0 : Nat) : Int), .int .i64 ((mj : Nat) : Int)], .agg [.int .i64 ((k0 : Nat) : Int), .int .i64 ((mk : Nat) : Int)]] (H.set b (fl (zal l zo zl r c g)) ++ N) (.tup []) (H.set b (fl (zal l zo zl r c g')) ++ N) := by
  have hs : ∀ Z, (H ++ N).set b Z = H.set b Z ++ N := fun Z => zdk hbl
  have h := zwq (H ++ N) b l (by simp; omega) zo zl r c hzI hzG lo hi hin w X (by simp; omega) xm xo xl hxI hxG xa (fun g => by obtain ⟨l', h1, h2⟩ := hrx g; rw [hs]; exact ⟨l', h1.app N, h2⟩) px (fun g N' => by rw [hs, List.append_assoc]; exact hpx g (N ++ N')) lox hix hinx hfx Y (by simp; omega) ym yo yl hyI hyG ya (fun g => by obtain ⟨l', h1, h2⟩ := hry g; rw [hs]; exact ⟨l', h1.app N, h2⟩) py (fun g N' => by rw [hs, List.append_assoc]; exact hpy g (N ++ N')) loy hiy hiny hfy A g s1 s2 s3 i0 mi j0 mj k0 mk hi0 hj0 hk0 hmi hmj hmk
  rw [hs, hs, za4 (g := (zd4 g (gmR A 4607182418800017408 (fun i k => xa (i0 + i) (k0 + k)) (fun k j => ya (k0 + k) (j0 + j)) mk (fun i j => g (i0 + i) (j0 + j))) i0 j0 mi mj)) (g' := g') hzG.2.2.2.1 hzG.2.2.1 hg] at h
  exact h
theorem zpe {A : Nat} {xa ya z : Nat → Nat → Nat} (hz : ∀ i j, Can (z i j)) {r c w : Nat} {T1 T2 T3 : Nat} {Q1 Q2 Q3 : Nat → Nat} (h1 : Cuts r T1 Q1) (h2 : Cuts c T2 Q2) (h3 : Cuts w T3 Q3) {t u v : Nat} (ht : t < T3) (hu : u < T2) (hv : v < T1) (i j : Nat) :
    zd4 (gmT (gmM A xa ya z (Q3 t)) (gmM A xa ya z (Q3 (t + 1))) (Q2 u) (Q2 (u + 1)) (Q1 v)) (gmR A 4607182418800017408 (fun i k => xa (Q1 v + i) (Q3 t + k)) (fun k j => ya (Q3 t + k) (Q2 u + j)) (Q3 (t + 1) - Q3 t) (fun i j => (gmT (gmM A xa ya z (Q3 t)) (gmM A xa ya z (Q3 (t + 1))) (Q2 u) (Q2 (u + 1)) (Q1 v)) (Q1 v + i) (Q2 u + j))) (Q1 v) (Q2 u) (Q1 (v + 1) - Q1 v) (Q2 (u + 1) - Q2 u) i j = (gmT (gmM A xa ya z (Q3 t)) (gmM A xa ya z (Q3 (t + 1))) (Q2 u) (Q2 (u + 1)) (Q1 (v + 1))) i j := by
  have k1 := h1.ltn hv
  have k2 := h2.ltn hu
  have k3 := h3.ltn ht
  refine zp2 (by omega) (by omega) (fun i j hi1 hi2 hj1 hj2 => ?_) i j
  unfold gmR
  dsimp only
  rw [zvq (by omega) (by omega), show Q1 v + (i - Q1 v) = i by omega, show Q2 u + (j - Q2 u) = j by omega]
  have h := ztc A xa ya z hz (Q3 t) (Q3 (t + 1)) (by omega) (Q1 v) (Q2 u) i j hi1 hj1
  rw [show Q1 v + (i - Q1 v) = i by omega, show Q2 u + (j - Q2 u) = j by omega] at h
  exact h
theorem zu4 (H : List (List AV)) (b : Nat) (l : List Nat) (hbl : b < H.length) (zo zl : Int) (r c : Nat) (hzI : MI l.length zo r c zl) (hzG : zaa l.length zo r c zl) (lo hi : Int) (hin : InS zo r c zl lo hi) (w : Nat) (X : AV) (hX : mx X ≤ H.length) (xm : Nat) (xo xl : Int) (hxI : MI xm xo r w xl) (hxG : zaa xm xo r w xl) (xa : Nat → Nat → Nat) (hrx : ∀ g, ∃ l', FL (H.set b (fl (zal l zo zl r c g))) X l' ∧ l'.length = xm ∧ ∀ i j, i < r → j < w → mel l' xo xl i j = xa i j) (px : Bool) (hpx : ∀ g N, 0 < l.length → 0 < xm → ptrEq (H.set b (fl (zal l zo zl r c g)) ++ N) (.slm b l.length 0 l.length 1) 0 X 0 = some px) (lox hix : Int) (hinx : InS xo r w xl lox hix) (hfx : zfk px lo hi lox hix) (Y : AV) (hY : mx Y ≤ H.length) (ym : Nat) (yo yl : Int) (hyI : MI ym yo w c yl) (hyG : zaa ym yo w c yl) (ya : Nat → Nat → Nat) (hry : ∀ g, ∃ l', FL (H.set b (fl (zal l zo zl r c g))) Y l' ∧ l'.length = ym ∧ ∀ i j, i < w → j < c → mel l' yo yl i j = ya i j) (py : Bool) (hpy : ∀ g N, 0 < l.length → 0 < ym → ptrEq (H.set b (fl (zal l zo zl r c g)) ++ N) (.slm b l.length 0 l.length 1) 0 Y 0 = some py) (loy hiy : Int) (hiny : InS yo w c yl loy hiy) (hfy : zfk py lo hi loy hiy) (A : Nat) (s1 s2 s3 : Int) (T1 : Nat) (Q1 : Nat → Nat) (hC1 : Cuts r T1 Q1) (hB1 : ∀ H, zab Try.prog 53 [.int .i64 (r : Int), .int .i64 s1, .slnil] H (cuV T1 Q1) H) (T2 : Nat) (Q2 : Nat → Nat) (hC2 : Cuts c T2 Q2) (hB2 : ∀ H, zab Try.prog 53 [.int .i64 (c : Int), .int .i64 s2, .slnil] H (cuV T2 Q2) H) (T3 : Nat) (Q3 : Nat → Nat) (hC3 : Cuts w T3 Q3) (hB3 : ∀ H, zab Try.prog 53 [.int .i64 (w : Int), .int .i64 s3, .slnil] H (cuV T3 Q3) H) (z : Nat → Nat → Nat) (hz : ∀ i j, Can (z i j)) :
    zab Try.prog 36 [.agg [.int .i64 s1, .int .i64 s2, .int .i64 s3, .flt A, X, .int .i64 xo, .int .i64 (r : Int), .int .i64 (w : Int), .int .i64 xl, Y, .int .i64 yo, .int .i64 (w : Int), .int .i64 (c : Int), .int .i64 yl, (.slm b l.length 0 l.length 1), .int .i64 zo, .int .i64 (r : Int), .int .i64 (c : Int), .int .i64 zl]] (H.set b (fl (zal l zo zl r c z))) (.tup []) (H.set b (fl (zal l zo zl r c (gmM A xa ya z w)))) := by
  obtain ⟨hm, ho1, ho2, hr1, hr2, hc1, hc2, hl1, hl2⟩ := id hzI
  obtain ⟨xm1, xo1, xo2, xr1, xr2, xc1, xc2, xl1, xl2⟩ := id hxI
  obtain ⟨ym1, yo1, yo2, yr1, yr2, yc1, yc2, yl1, yl2⟩ := id hyI
  have hXl : slen X = some xm := by (obtain ⟨l', h1, h2, _⟩ := hrx z; rw [← h2]; exact h1.len)
  have hYl : slen Y = some ym := by (obtain ⟨l', h1, h2, _⟩ := hry z; rw [← h2]; exact h1.len)
  have hsm : ∀ g1 g2 : Nat → Nat → Nat, (∀ i j, i < r → j < c → g1 i j = g2 i j) → (zal l zo zl r c g1) = (zal l zo zl r c g2) := fun g1 g2 h => za4 hzG.2.2.2.1 hzG.2.2.1 h
  have hA : (zal l zo zl r c (gmM A xa ya z (Q3 0))) = (zal l zo zl r c z) := (by rw [hC3.zero]; rfl)
  have hZ : (zal l zo zl r c (gmM A xa ya z (Q3 T3))) = (zal l zo zl r c (gmM A xa ya z w)) := (by rw [hC3.last])
  have hj0 : ∀ t, (zal l zo zl r c (gmT (gmM A xa ya z (Q3 t)) (gmM A xa ya z (Q3 (t + 1))) (Q2 0) 0 0)) = (zal l zo zl r c (gmM A xa ya z (Q3 t))) := fun t => hsm _ _ fun i j _ _ => (by rw [hC2.zero]; exact znn i j)
  have hj9 : ∀ t, (zal l zo zl r c (gmT (gmM A xa ya z (Q3 t)) (gmM A xa ya z (Q3 (t + 1))) (Q2 T2) 0 0)) = (zal l zo zl r c (gmM A xa ya z (Q3 (t + 1)))) := fun t => hsm _ _ fun i j _ hj => (by rw [hC2.last]; exact zp0 i j hj)
  have hi0 : ∀ t u, (zal l zo zl r c (gmT (gmM A xa ya z (Q3 t)) (gmM A xa ya z (Q3 (t + 1))) (Q2 u) (Q2 (u + 1)) (Q1 0))) = (zal l zo zl r c (gmT (gmM A xa ya z (Q3 t)) (gmM A xa ya z (Q3 (t + 1))) (Q2 u) 0 0)) := fun t u => hsm _ _ fun i j _ _ => (by rw [hC1.zero]; exact zno i j)
  have hi9 : ∀ t u, u < T2 → (zal l zo zl r c (gmT (gmM A xa ya z (Q3 t)) (gmM A xa ya z (Q3 (t + 1))) (Q2 u) (Q2 (u + 1)) (Q1 T1))) = (zal l zo zl r c (gmT (gmM A xa ya z (Q3 t)) (gmM A xa ya z (Q3 (t + 1))) (Q2 (u + 1)) 0 0)) := fun t u hu => hsm _ _ fun i j hi _ => (by rw [hC1.last]; exact zp1 (Nat.le_of_lt (hC2.inc u hu)) i j hi)
  have hn1 := hC1.t_le
  have hn2 := hC2.t_le
  have hn3 := hC3.t_le
  have hT1 := fun v => hC1.ltn (t := v)
  have hT2 := fun v => hC2.ltn (t := v)
  have hT3 := fun v => hC3.ltn (t := v)
  refine .go Try.call36 Try.func36 false [] dOk ?_
  simp only [zbf, Nat.reduceAdd]
  repeat' (first
 |(refine za1 ?_; (first | refine zce ?_ | refine zav ?_ | fail))
 |(refine za2 ?_; (first | refine m41 ?_ | refine zc9 ?_ | refine m14 ?_ | (refine m17 ?_; first | refine m19 ?_ | refine m18 ?_) | (refine m07 ?_; (first | refine m15 ?_ | refine m16 ?_ | refine zx1 (show t < T3 by omega) ?_ | refine zx1 (show u < T2 by omega) ?_ | refine zx1 (show v < T1 by omega) ?_ | fail)) | refine zph (n := 0) (by (conv => {lhs; whnf}); done) (by omega) ?_ | refine zph (n := 1) (by (conv => {lhs; whnf}); done) (by omega) ?_ | refine zsh (i := t) (by (conv => {lhs; whnf}); done) (by (conv => {lhs; whnf}); done) (by exact rfl) (by exact rfl) (by omega) ?_ | refine zsh (i := u) (by (conv => {lhs; whnf}); done) (by (conv => {lhs; whnf}); done) (by exact rfl) (by exact rfl) (by omega) ?_ | refine zsh (i := v) (by (conv => {lhs; whnf}); done) (by (conv => {lhs; whnf}); done) (by exact rfl) (by exact rfl) (by omega) ?_ | refine zbu (by (conv => {lhs; whnf}); done) (by exact rfl) ?_ | (refine m00 ?_; (first | refine zf4 ((t + 1 : Nat) : Int) (by omega) (by omega) ?_ | refine zf4 ((u + 1 : Nat) : Int) (by omega) (by omega) ?_ | refine zf4 ((v + 1 : Nat) : Int) (by omega) (by omega) ?_ | refine m47 ?_ | refine m48 ?_ | refine m49 ?_ | refine m50 ?_ | refine v_k ?_ | refine m51 ?_ | fail)) | refine zar ?_ | refine zbu (by (conv => {lhs; whnf}); done) (by first | rfl | assumption) ?_ | refine m25 ?_ | refine m01 ?_ | refine m24 ?_ | fail))
 |refine zaz ?_ | refine za0 ?_ | refine zay ?_
 |(refine za3 ?_; (first | refine zax ?_ | refine zac ?_ | (refine m06 ?_; (first | refine c_T ?_ | refine c_F ?_ | refine c_P ?_ ?_ | refine c_B ?_ ?_ | fail)) | refine zaw ?_ | refine zam ?_ | refine zaf ?_ | refine b_exit ?_ | (refine zb3 [1, 3, 5, 14, 15, 16, 26, 27, 28, 38, 39, 40] T1 (fun v => ⟨[(1, .loc 1 0), (3, .loc 3 0), (5, .loc 5 0), (14, .val (cuV T3 Q3)), (15, .val (.int .i64 ((T3 : Nat) : Int))), (16, .val (.int .i64 ((t : Nat) : Int))), (26, .val (cuV T2 Q2)), (27, .val (.int .i64 ((T2 : Nat) : Int))), (28, .val (.int .i64 ((u : Nat) : Int))), (38, .val (cuV T1 Q1)), (39, .val (.int .i64 ((T1 : Nat) : Int))), (40, .val (.int .i64 ((v : Nat) : Int)))], [(1, [.int .i64 s1, .int .i64 s2, .int .i64 s3, .flt A, X, .int .i64 xo, .int .i64 (r : Int), .int .i64 (w : Int), .int .i64 xl, Y, .int .i64 yo, .int .i64 (w : Int), .int .i64 (c : Int), .int .i64 yl, (.slm b l.length 0 l.length 1), .int .i64 zo, .int .i64 (r : Int), .int .i64 (c : Int), .int .i64 zl]), (3, [.int .i64 (Q3 t : Int), .int .i64 ((Q3 (t + 1) - Q3 t : Nat) : Int)]), (5, [.int .i64 (Q2 u : Int), .int .i64 ((Q2 (u + 1) - Q2 u : Nat) : Int)])], H.set b (fl (zal l zo zl r c (gmT (gmM A xa ya z (Q3 t)) (gmM A xa ya z (Q3 (t + 1))) (Q2 u) (Q2 (u + 1)) (Q1 v)))) ++ []⟩) (by simp only [hi0]; exact rfl) ?_ ?_ <;> (first | intro v hv K hK | intro K) <;> (try dsimp only at *)) | (refine zb3 [1, 3, 14, 15, 16, 26, 27, 28] T2 (fun u => ⟨[(1, .loc 1 0), (3, .loc 3 0), (14, .val (cuV T3 Q3)), (15, .val (.int .i64 ((T3 : Nat) : Int))), (16, .val (.int .i64 ((t : Nat) : Int))), (26, .val (cuV T2 Q2)), (27, .val (.int .i64 ((T2 : Nat) : Int))), (28, .val (.int .i64 ((u : Nat) : Int)))], [(1, [.int .i64 s1, .int .i64 s2, .int .i64 s3, .flt A, X, .int .i64 xo, .int .i64 (r : Int), .int .i64 (w : Int), .int .i64 xl, Y, .int .i64 yo, .int .i64 (w : Int), .int .i64 (c : Int), .int .i64 yl, (.slm b l.length 0 l.length 1), .int .i64 zo, .int .i64 (r : Int), .int .i64 (c : Int), .int .i64 zl]), (3, [.int .i64 (Q3 t : Int), .int .i64 ((Q3 (t + 1) - Q3 t : Nat) : Int)])], H.set b (fl (zal l zo zl r c (gmT (gmM A xa ya z (Q3 t)) (gmM A xa ya z (Q3 (t + 1))) (Q2 u) 0 0))) ++ []⟩) (by simp only [hj0]; exact rfl) ?_ ?_ <;> (first | intro u hu K hK | intro K) <;> (try dsimp only at *)) | (refine zb3 [1, 14, 15, 16] T3 (fun t => ⟨[(1, .loc 1 0), (14, .val (cuV T3 Q3)), (15, .val (.int .i64 ((T3 : Nat) : Int))), (16, .val (.int .i64 ((t : Nat) : Int)))], [(1, [.int .i64 s1, .int .i64 s2, .int .i64 s3, .flt A, X, .int .i64 xo, .int .i64 (r : Int), .int .i64 (w : Int), .int .i64 xl, Y, .int .i64 yo, .int .i64 (w : Int), .int .i64 (c : Int), .int .i64 yl, (.slm b l.length 0 l.length 1), .int .i64 zo, .int .i64 (r : Int), .int .i64 (c : Int), .int .i64 zl])], H.set b (fl (zal l zo zl r c (gmM A xa ya z (Q3 t)))) ++ []⟩) (by simp only [hA]; exact rfl) ?_ ?_ <;> (first | intro t ht K hK | intro K) <;> (try dsimp only at *)) | fail))
 |refine m43 ?_
 |refine zd7 ?_
 |refine m21 ?_
 |refine zbi ?_
 |(refine zbj ?_; (first | refine cA (hB1 _) ?_ | refine cA (hB2 _) ?_ | refine cA (hB3 _) ?_ | refine c_call (zwr H b l hbl zo zl r c hzI hzG lo hi hin w X hX xm xo xl hxI hxG xa hrx px hpx lox hix hinx hfx Y hY ym yo yl hyI hyG ya hry py hpy loy hiy hiny hfy A s1 s2 s3 _ (gmT (gmM A xa ya z (Q3 t)) (gmM A xa ya z (Q3 (t + 1))) (Q2 u) (Q2 (u + 1)) (Q1 (v + 1))) [] (Q1 v) (Q1 (v + 1) - Q1 v) (Q2 u) (Q2 (u + 1) - Q2 u) (Q3 t) (Q3 (t + 1) - Q3 t) (by have := hT1 v (by omega); omega) (by have := hT2 u (by omega); omega) (by have := hT3 t (by omega); omega) (by have := hT1 v (by omega); omega) (by have := hT2 u (by omega); omega) (by have := hT3 t (by omega); omega) (fun i j _ _ => zpe hz hC1 hC2 hC3 (by omega) (by omega) (by omega) i j)) (zb7.set2 hbl (by simp) (by rw [zcl]; omega)) ?_ | fail))
 |refine zc7 ?_ | refine zc8 ?_ | refine zc6 ?_ | refine m57 ?_
 |refine zkg ?_ | refine zkh ?_ | refine zkf ?_
 |(refine zkk (by exact rfl) ?_; first | exact hK | (rw [hj9]; exact hK) | (rw [hi9 _ _ (by omega)]; exact hK) | (exfalso; first | omega | (simp_all; done) | (simp_all; omega)))
 |refine m05 ?_
 |refine m04 ?_ | refine m02 ?_ | refine m03 ?_ | refine zan ?_
 |intro _)
  all_goals first
    | (exfalso; contradiction)
    | (exfalso; omega)
    | (refine zao (by simp) (by simp [mx, mxL, zai, aOf, zb5]) ?_; exact rfl)
    | (rw [← hZ]; refine zao (by simp) (by simp [mx, mxL, zai, aOf, zb5]) ?_; exact rfl)
end Go.Sx
