/- A part of the proofs of this seat: YK. No condition is set. -/
import Derived.Laws.FloatBits
import Derived.Test.YthjjpbcmimpjbaaGreatYE
import Derived.Test.YthjjpbcmimpjbaaGreatYF
import Derived.Test.YthjjpbcmimpjbaaGreatYH
import Derived.Test.YthjjpbcmimpjbaaGreatYJ
set_option maxHeartbeats 28000000
set_option linter.unusedVariables false
set_option linter.unusedSimpArgs false
set_option maxRecDepth 20000
namespace Go.Sx
open Go.Proofs
theorem z03 (H : List (List AV)) (mid : Nat) (hb : mid < H.length) (M : MS) (h1 : 1 ≤ M.n) (h64 : M.n ≤ 64) (hst : M.st = 0) (H0 H' : List (List AV)) (h0 : H.set mid (mCe M) = H0) (h' : H.set mid (mCe (nxt M []).1) = H') :
    zaa Tryz.prog 57 [mP mid, .slnil] H0 (.tup [.sl none M.n (fl (nxt M []).2.1), .int .i64 (nxt M []).2.2]) H' := by
  obtain ⟨n, st, est, v, s, j, ct⟩ := M
  simp only at hst h1 h64; subst hst
  exact qdg H mid hb n h1 h64 est (LV v) (LV s) (zcc _) (zcc _) j ct H0 H' h0 h'
theorem ztw (H : List (List AV)) (mid : Nat) (hb : mid < H.length) (M : MS) (hok : MOk M) (hst : 1 ≤ M.st) (h5 : M.st ≤ 5) (hsl : M.s.length ≤ 2 ^ 30) (X : AV) (x : List Nat) (hX : ∀ H', FL H' X x) (hx : x.length = M.n) (H0 H' : List (List AV)) (h0 : H.set mid (mCe M) = H0) (h' : H.set mid (mCe (nxt M x).1) = H') :
    ((nxt M x).2.2 ≠ 0 → zaa Tryz.prog 57 [mP mid, X] H0 (.tup [.sl none M.n (fl (nxt M x).2.1), .int .i64 (nxt M x).2.2]) H') ∧
    ((nxt M x).2.2 = 0 → zaa Tryz.prog 57 [mP mid, X] H0 (.tup [.slnil, .int .i64 0]) H') := by
  obtain ⟨n, st, est, v, s, j, ct⟩ := M
  obtain ⟨a1, a2, a3, a4, a5, a6, a7⟩ := hok
  simp only at hst h5 hx a1 a2 a3 a4 a5 a6 a7 hsl
  have hx0 : 0 < x.length := by omega
  have hLx : LV x = .sl none n (fl x) := by rw [zpj hx0, hx]
  have hLs : LV (sgL x) = .sl none n (fl (sgL x)) := by rw [zpj (by simpa using hx0), znm, hx]
  have hS := fun H => z2p H s
  rcases (by omega : st = 1 ∨ st = 2 ∨ st = 3 ∨ st = 4 ∨ st = 5) with e | e | e | e | e <;> subst e
  · by_cases hn2 : 1 < n
    · have e : nxt ⟨n, 1, est, v, s, j, ct⟩ x = (⟨n, 2, zbe x, x, sgL x, j, ct⟩, sgL x, 2) := by simp [nxt, hn2]
      rw [e] at h' ⊢
      refine ⟨fun _ => ?_, fun h => absurd h (by simp)⟩
      rw [zm5] at h'; simp only [hLx, hLs] at h'
      exact qap H mid hb n a1 a2 est (LV v) (LV s) (zcc _) (zcc _) j ct X x hX hx hn2 H0 H' h0 h'
    · have e : nxt ⟨n, 1, est, v, s, j, ct⟩ x = (⟨n, 6, zbe x, x, s, j, ct⟩, [], 0) := by simp [nxt, hn2]
      rw [e] at h' ⊢
      refine ⟨fun h => absurd rfl h, fun _ => ?_⟩
      rw [zm5] at h'; simp only [hLx] at h'
      exact qao H mid hb n a1 a2 est (LV v) (LV s) (zcc _) (zcc _) j ct X x hX hx (by omega) H0 H' h0 h'
  · have e : nxt ⟨n, 2, est, v, s, j, ct⟩ x = (⟨n, 3, est, v, s, moN x n, 2⟩, rml (yU (moN x n)) n, 1) := by simp [nxt, hx]
    rw [e] at h' ⊢
    exact ⟨fun _ => qdh H mid hb n a1 a2 est (LV v) (LV s) (zcc _) (zcc _) j ct X x hX hx H0 H' h0 h', fun h => absurd h (by simp)⟩
  · by_cases hc : sgL x = s ∨ (flt (zbe x) est || feq (zbe x) est) = true
    · have e : nxt ⟨n, 3, est, v, s, j, ct⟩ x = ({ bet ⟨n, 3, est, v, s, j, ct⟩ (zbe x) x with st := 5 }, rml (yL n) n, 1) := by simp only [nxt]; rw [if_pos hc]
      rw [e] at h' ⊢
      refine ⟨fun _ => ?_, fun h => absurd h (by simp)⟩
      rw [zkz _ _ _ hx hx0] at h'
      by_cases ht : flt est (zbe x) = true
      · simp only [ht, if_true] at h'
        exact z6k H mid hb n a1 a2 est (LV v) (LV s) (zcc _) (zcc _) j ct X x hX hx s hS hsl ht hc H0 H' h0 h'
      · simp only [Bool.not_eq_true] at ht
        simp only [ht, Bool.false_eq_true, if_false] at h'
        exact z6j H mid hb n a1 a2 est (LV v) (LV s) (zcc _) (zcc _) j ct X x hX hx s hS hsl ht hc H0 H' h0 h'
    · have e : nxt ⟨n, 3, est, v, s, j, ct⟩ x = ({ bet ⟨n, 3, est, v, s, j, ct⟩ (zbe x) x with s := sgL x, st := 4 }, sgL x, 2) := by simp only [nxt]; rw [if_neg hc]
      rw [e] at h' ⊢
      refine ⟨fun _ => ?_, fun h => absurd h (by simp)⟩
      rw [zs3 _ _ _ hx hx0, hLs] at h'
      by_cases ht : flt est (zbe x) = true
      · simp only [ht, if_true] at h'
        exact z6m H mid hb n a1 a2 est (LV v) (LV s) (zcc _) (zcc _) j ct X x hX hx s hS hsl ht hc H0 H' h0 h'
      · simp only [Bool.not_eq_true] at ht
        simp only [ht, Bool.false_eq_true, if_false] at h'
        exact z6l H mid hb n a1 a2 est (LV v) (LV s) (zcc _) (zcc _) j ct X x hX hx s hS hsl ht hc H0 H' h0 h'
  · by_cases hc : feq (zbm (x.getD j 0)) (zbm (x.getD (moN x n) 0)) = false ∧ ct < 5
    · have e : nxt ⟨n, 4, est, v, s, j, ct⟩ x = (⟨n, 3, est, v, s, moN x n, ct + 1⟩, rml (yU (moN x n)) n, 1) := by simp only [nxt, hx]; rw [if_pos hc]
      rw [e] at h' ⊢
      exact ⟨fun _ => qar H mid hb n a1 a2 est (LV v) (LV s) (zcc _) (zcc _) j ct X x hX hx a3 hc H0 H' h0 h', fun h => absurd h (by simp)⟩
    · have e : nxt ⟨n, 4, est, v, s, j, ct⟩ x = (⟨n, 5, est, v, s, moN x n, ct⟩, rml (yL n) n, 1) := by simp only [nxt, hx]; rw [if_neg hc]
      rw [e] at h' ⊢
      exact ⟨fun _ => qaq H mid hb n a1 a2 est (LV v) (LV s) (zcc _) (zcc _) j ct X x hX hx a3 hc H0 H' h0 h', fun h => absurd h (by simp)⟩
  · have e : nxt ⟨n, 5, est, v, s, j, ct⟩ x = ({ bet ⟨n, 5, est, v, s, j, ct⟩ (t5 n (zbe x)) x with st := 6 }, [], 0) := by simp only [nxt]
    rw [e] at h' ⊢
    refine ⟨fun h => absurd rfl h, fun _ => ?_⟩
    rw [zkz _ _ _ hx hx0] at h'
    by_cases ht : flt est (t5 n (zbe x)) = true
    · simp only [ht, if_true] at h'
      exact qat H mid hb n a1 a2 est (LV v) (LV s) (zcc _) (zcc _) j ct X x hX hx ht H0 H' h0 h'
    · simp only [Bool.not_eq_true] at ht
      simp only [ht, Bool.false_eq_true, if_false] at h'
      exact qas H mid hb n a1 a2 est (LV v) (LV s) (zcc _) (zcc _) j ct X x hX hx ht H0 H' h0 h'
attribute [local irreducible] Ex za3 exD opX opE zca zd3 zd4 Spec zaa Fr zb9 zbb zba ckK zb8 zb6 zbu faK zb4 zd1 gK fK rK zeq lpX prK
theorem z96 (H : List (List AV)) (n : Nat) (hn1 : 1 ≤ n) (hn : n ≤ 64) (H' : List (List AV)) (h' : H ++ [(mDc (n : Int) 0 0 .slnil .slnil 0 0)] = H') (m : Nat) (hm9 : H.length = m) :
    zaa Tryz.prog 43 [.int .i64 (n : Int)] H (.tup [mP m, .int .i64 0]) H' := by
  subst h' hm9
  refine .go Tryz.call43 Tryz.func43 true [] dOk ?_
  simp only [za0, Nat.reduceAdd]
  repeat' (first
 |(refine zav ?_; (first | refine zbd ?_ | refine zao ?_ | refine m13 ?_ | refine m12 ?_ | refine m11 ?_ | (refine m10 ?_; (first | refine zcv ?_ | refine zcq ?_ | refine zcu ?_ | refine zcr ?_ | refine zct ?_ ?_ | refine zcs ?_ ?_ | refine zcp ?_ ?_ | refine zco ?_ ?_ | fail)) | (refine m09 ?_; (first | refine zcv ?_ | refine zcq ?_ | refine zcu ?_ | refine zcr ?_ | refine zct ?_ ?_ | refine zcs ?_ ?_ | refine zcp ?_ ?_ | refine zco ?_ ?_ | fail)) | refine m38 ?_ | fail))
 |(refine zaw ?_; (first | refine m14 ?_ | refine zex (by (conv => {lhs; whnf}); done) (by exact rfl) (by exact rfl) (by exact rfl) (by (conv => {lhs; whnf}); done) (by (conv => {lhs; simp only [List.nil_append, List.cons_append]}); done) ?_ | (refine m00 ?_; (first | refine m47 ?_ | refine m48 ?_ | refine m49 ?_ | refine m50 ?_ | refine v_k ?_ | refine m51 ?_ | fail)) | (refine m22 ?_; (first | refine m26 ?_ | refine m27 ?_ | fail)) | refine m42 ?_ | refine zab ?_ | refine zac ?_ | refine m08 ?_ | refine m01 ?_ | refine zc9 ?_ | fail))
 |refine zat ?_ | refine zau ?_ | refine zas ?_
 |(refine zax ?_; (first | refine zar ?_ | refine zad ?_ | (refine m06 ?_; (first | refine c_T ?_ | refine c_F ?_ | refine c_P ?_ ?_ | refine c_B ?_ ?_ | fail)) | refine zaq ?_ | refine zah ?_ | refine zae ?_ | refine b_exit ?_ | fail))
 |refine m58 ?_
 |refine zd8 ?_
 |refine m05 ?_
 |refine m04 ?_ | refine m02 ?_ | refine m03 ?_ | refine zai ?_
 |intro _)
  all_goals first
    | (exfalso; omega)
    | exact zgc (j := 0) (cs := (mDc (n : Int) 0 0 .slnil .slnil 0 0)) rfl rfl (by rw [zfk rfl rfl]; exact Nat.zero_le _) (Fr.tup (Frs.cons (Fr.kpp (j := 0) (cs := (mDc (n : Int) 0 0 .slnil .slnil 0 0)) rfl (za9 rfl rfl) rfl) (Frs.cons (Fr.old (by simp [mx])) Frs.nil)))
theorem z9d (H : List (List AV)) (mid : Nat) (n st : Int) (est : Nat) (V S : AV) (j ct : Int) (hm : H[mid]? = some (mDc n st est V S j ct)) :
    zaa Tryz.prog 49 [mP mid] H (.flt est) H := by
  refine .go Tryz.call49 Tryz.func49 false [] dOk ?_
  simp only [za0, Nat.reduceAdd]
  repeat' (first
 |(refine zav ?_; (first | refine zbd ?_ | refine zao ?_ | fail))
 |(refine zaw ?_; (first | refine m14 ?_ | (refine m17 ?_; first | refine m19 ?_ | refine m18 ?_) | (refine m07 ?_; (first | refine m15 ?_ | refine m16 ?_ | refine zj3 hm (by exact rfl) (by exact rfl) ?_ | fail)) | refine zc3 (by (conv => {lhs; whnf}); done) ?_ | (refine m45 ?_; (first | refine zb3 (by exact rfl) ?_ | refine v_k ?_ | fail)) | (refine m00 ?_; (first | refine m52 ?_ | refine m53 ?_ | refine zc7 ?_ | refine m49 ?_ | refine m50 ?_ | refine v_k ?_ | refine m51 ?_ | fail)) | refine m42 ?_ | refine zab ?_ | refine zac ?_ | refine m08 ?_ | fail))
 |refine zat ?_ | refine zau ?_ | refine zas ?_
 |(refine zax ?_; (first | refine zar ?_ | refine zad ?_ | (refine m06 ?_; (first | refine c_T ?_ | refine c_F ?_ | refine c_P ?_ ?_ | refine c_B ?_ ?_ | fail)) | refine zaq ?_ | refine zah ?_ | refine zae ?_ | refine b_exit ?_ | fail))
 |refine m05 ?_
 |refine m04 ?_ | refine m02 ?_ | refine m03 ?_ | refine zai ?_
 |intro _)
  all_goals first
    | (exfalso; contradiction)
    | (exfalso; omega)
    | (refine zal rfl (by simp [mx, mxL, zaf, aOf, zbn]) ?_; simp only [zur, zzh, zmu]; exact rfl)
    | (refine zal rfl (by simp [mx, mxL, zaf, aOf, zbn]) ?_; exact rfl)
    | (exfalso; simp_all; done)
theorem z8l (Hi : List (List AV)) (mid n : Nat) (i1 i2 : Nat) (c1 c2 : List AV) (Hs Hm : Nat → List (List AV)) (yV : Nat → AV) (kd : Nat → Int) (N : Nat) (h0 : zaa Tryz.prog 102 [mP mid, .slnil] (Hi ++ []) (.tup [yV 0, .int .i64 (kd 0)]) (Hs 0 ++ [])) (o0 : zbk Hi.length (Hi ++ []) (Hs 0 ++ [])) (hpos : ∀ k, k < N → 0 < kd k) (hz : kd N = 0) (hlen : ∀ k, k < N → slen (yV k) = some n) (hd1 : ∀ k, k < N → kd k ≠ 2 → zaa Tryz.prog i1 ([vt (yV k) 0 (n : Int) 1] ++ c1) (Hs k ++ []) (.int .i64 0) (Hm k ++ [])) (hd2 : ∀ k, k < N → kd k = 2 → zaa Tryz.prog i2 ([vt (yV k) 0 (n : Int) 1] ++ c2) (Hs k ++ []) (.int .i64 0) (Hm k ++ [])) (od : ∀ k, k < N → zbk Hi.length (Hs k ++ []) (Hm k ++ [])) (hnx : ∀ k, k < N → zaa Tryz.prog 102 [mP mid, yV k] (Hm k ++ []) (.tup [yV (k + 1), .int .i64 (kd (k + 1))]) (Hs (k + 1) ++ [])) (on : ∀ k, k < N → zbk Hi.length (Hm k ++ []) (Hs (k + 1) ++ [])) (A P : List (List AV)) (hA : A.length = Hi.length) (hfin : Hs N = A ++ P) (hmx : ∀ k, k < N → True) :
    zaa Tryz.prog 44 [mP mid, .func i1 [] c1, .func i2 [] c2] Hi (.tup []) A := by
  refine .go Tryz.call44 Tryz.func44 false [] dOk ?_
  simp only [za0, Nat.reduceAdd]
  repeat' (first
 |(refine zav ?_; (first | refine zbd ?_ | refine zao ?_ | fail))
 |(refine zaw ?_; (first | refine m14 ?_ | refine zjn ?_ | refine zam (by (conv => {lhs; whnf}); done) (by exact hlen k hk) ?_ | (refine m45 ?_; (first | refine v_T (by have := hpos k hk; omega) ?_ | refine zb3 (by exact rfl) ?_ | refine v_k ?_ | fail)) | (refine m00 ?_; (first | refine v_T (by have := hpos k hk; omega) ?_ | refine m52 ?_ | refine m53 ?_ | refine zc7 ?_ | refine m47 ?_ | refine m48 ?_ | refine m49 ?_ | refine m50 ?_ | refine v_k ?_ | refine m51 ?_ | fail)) | refine m08 ?_ | refine zaj ?_ | refine m39 ?_ | refine zam (by (conv => {lhs; whnf}); done) (by first | rfl | assumption) ?_ | refine m23 ?_ | refine zc9 ?_ | fail))
 |refine zat ?_ | refine zau ?_ | refine zas ?_
 |(refine zax ?_; (first | refine zar ?_ | refine zad ?_ | (refine m06 ?_; (first | refine c_T ?_ | refine c_F ?_ | refine c_P ?_ ?_ | refine c_B ?_ ?_ | fail)) | refine zaq ?_ | refine zah ?_ | refine zae ?_ | refine b_exit ?_ | (refine za1 [1, 2, 6, 7, 8] N (fun k => ⟨[(1, .val (.func i1 [] c1)), (2, .val (.func i2 [] c2)), (6, .val (.func 102 [mP mid] [])), (7, .val (yV k)), (8, .val (.int .i64 (kd k)))], [], Hs k ++ []⟩) (by exact rfl) ?_ ?_ <;> (first | intro k hk K hK | intro K) <;> (try dsimp only at *)) | fail))
 |refine m43 ?_
 |refine zbv ?_
 |refine m21 ?_
 |refine za4 ?_
 |(refine za5 ?_; (first | refine c_call h0 o0 ?_ | refine c_call (hd1 k hk (by omega)) (od k hk) ?_ | refine c_call (hd2 k hk (by omega)) (od k hk) ?_ | refine c_call (hnx k hk) (on k hk) ?_ | fail))
 |refine zr7 (by (conv => {lhs; whnf}); done) (by first | exact (by exact rfl) | exact zcn (hlen k hk) | fail) (by exact rfl) (by exact rfl) (by (conv => {lhs; simp only [sc, List.set_cons_zero, List.set_cons_succ]}); done) ?_
 |refine zd8 ?_
 |refine m44 ?_
 |refine m40 ?_
 |(refine zbc (by (conv => {lhs; simp only [List.nil_append, List.cons_append]}); done) ?_; first | refine ⟨by exact rfl, ?_⟩ | skip)
 |refine zbt ?_
 |(intro N' hN'; simp only [List.nil_append, List.cons_append] at hN'; subst hN')
 |refine zbh ?_ | refine zbi ?_ | refine zbg ?_ | refine m57 ?_
 |refine zdp ?_ | refine zdq ?_ | refine zdo ?_
 |(refine zdr (by exact rfl) ?_; first | exact hK | fail | (exfalso; first | omega | (simp_all; done) | (simp_all; omega)))
 |refine m05 ?_
 |refine m04 ?_ | refine m02 ?_ | refine m03 ?_ | refine zai ?_
 |intro _)
  all_goals first
    | (exfalso; have := hpos k hk; omega)
    | (exfalso; omega)
    | (rw [hfin, List.append_nil]; exact zal hA (by simp [mx, mxL, zaf]) rfl)
end Go.Sx
set_option linter.unusedVariables false
set_option linter.unusedSimpArgs false
set_option maxRecDepth 20000
namespace Go.Sx
open Go.Proofs
theorem zk5 {l : List Nat} {n : Nat} (h : l.length = n) : rml (fun i => l.getD i 0) n = l := by subst h; exact ztv l
def M0 (n : Nat) : MS := ⟨n, 0, 0, [], [], 0, 0⟩
theorem z8g {n : Nat} (h1 : 1 ≤ n) (h64 : n ≤ 64) : MOk (M0 n) := ⟨h1, h64, by simp [M0]; omega, by simp [M0], by simp [M0], by simp [M0], by simp [M0]⟩
def prL (f1 f2 : List Nat → List Nat) (M : MS) : Nat → List (List AV)
  | 0 => []
  | k + 1 => prL f1 f2 M k ++ [fl (prM f1 f2 (runM f1 f2 M k))]
theorem zja (f1 f2 : List Nat → List Nat) (M : MS) (k : Nat) : (prL f1 f2 M k).length = k := by
  induction k with
  | zero => rfl
  | succ k ih => simp [prL, ih]
theorem zf9 (Hb : List (List AV)) (c c' : List AV) (L : List (List AV)) : (Hb ++ [c] ++ L).set Hb.length c' = Hb ++ [c'] ++ L := by
  rw [List.append_assoc, List.set_append_right _ _ (Nat.le_refl _)]; simp
structure REnd (f1 f2 : List Nat → List Nat) (M : MS) (N : Nat) : Prop where
  z : (runM f1 f2 M N).2.2 = 0
  nN : (runM f1 f2 M N).1.n = M.n
  st : ∀ k, k < N → ((runM f1 f2 M k).2.2 = 1 ∨ (runM f1 f2 M k).2.2 = 2) ∧ (runM f1 f2 M k).2.1.length = M.n ∧ (runM f1 f2 M k).1.n = M.n ∧ MOk (runM f1 f2 M k).1 ∧ (runM f1 f2 M k).1.st ≤ 5 ∧ 1 ≤ (runM f1 f2 M k).1.st
theorem qag {f1 f2 : List Nat → List Nat} {n : Nat} (h1 : 1 ≤ n) (h64 : n ≤ 64) (hf1 : ∀ y, y.length = n → (f1 y).length = n) (hf2 : ∀ y, y.length = n → (f2 y).length = n) : ∃ N, REnd f1 f2 (M0 n) N := by
  obtain ⟨N, a1, a2, a3⟩ := run_end (f1 := f1) (f2 := f2) (z8g h1 h64) rfl ⟨rfl, rfl⟩ hf1 hf2
  exact ⟨N, a1, a2, fun k hk => by obtain ⟨b1, b2, b3, b4, b5, b6, _⟩ := a3 k hk; exact ⟨b1, b2, b3, b4, b5, b6⟩⟩
theorem REnd.pos {f1 f2 : List Nat → List Nat} {n N : Nat} (h : REnd f1 f2 (M0 n) N) : 0 < N := by
  rcases Nat.eq_zero_or_pos N with e | e
  · exfalso; have := h.z; rw [e] at this; simp [runM, nxt, M0] at this
  · exact e
theorem REnd.pl {f1 f2 : List Nat → List Nat} {n N k : Nat} (h : REnd f1 f2 (M0 n) N) (hf1 : ∀ y, y.length = n → (f1 y).length = n) (hf2 : ∀ y, y.length = n → (f2 y).length = n) (hk : k < N) : (prM f1 f2 (runM f1 f2 (M0 n) k)).length = n := by
  obtain ⟨_, b, _⟩ := h.st k hk
  unfold prM; split
  · exact hf2 _ b
  · exact hf1 _ b
theorem REnd.v {f1 f2 : List Nat → List Nat} {n N : Nat} (h : REnd f1 f2 (M0 n) N) (hf1 : ∀ y, y.length = n → (f1 y).length = n) (hf2 : ∀ y, y.length = n → (f2 y).length = n) : (runM f1 f2 (M0 n) N).1.v.length = n := by
  obtain ⟨k, rfl⟩ : ∃ k, N = k + 1 := ⟨N - 1, by have := h.pos; omega⟩
  exact qal (M := M0 n) (N := k + 1) rfl hf1 hf2 (fun k hk => by obtain ⟨_, b2, b3, _, b5, b6⟩ := h.st k hk; exact ⟨b2, b3, b5, b6⟩) k (by omega)
section
variable (f1 f2 : List Nat → List Nat) (n : Nat) (Hb : List (List AV))
def yVa (k : Nat) : AV := if (runM f1 f2 (M0 n) k).2.2 = 0 then .slnil else .slm (Hb.length + 1 + k) n 0 n 1
def yTa (k : Nat) : List (List AV) := if (runM f1 f2 (M0 n) k).2.2 = 0 then [] else [fl (runM f1 f2 (M0 n) k).2.1]
def HsA (k : Nat) : List (List AV) := Hb ++ [mCe (runM f1 f2 (M0 n) k).1] ++ (prL f1 f2 (M0 n) k ++ yTa f1 f2 n k)
def HmA (k : Nat) : List (List AV) := Hb ++ [mCe (runM f1 f2 (M0 n) k).1] ++ prL f1 f2 (M0 n) (k + 1)
end
theorem odl {Hb : List (List AV)} {c c' : List AV} {L L' : List (List AV)} (hc : mxL c' = 0) : zbk (Hb ++ [c]).length (Hb ++ [c] ++ L ++ []) (Hb ++ [c'] ++ L' ++ []) := by
  intro id cs hid h
  have hl : (Hb ++ [c']).length = (Hb ++ [c]).length := by simp
  rw [List.append_nil, List.getElem?_append_left (by omega)] at h
  rw [List.append_nil, List.getElem?_append_left hid]
  rcases Nat.lt_or_ge id Hb.length with h1 | h1
  · left; rw [List.getElem?_append_left h1] at h ⊢; exact h
  · right
    have : id = Hb.length := by simp at hid; omega
    subst this
    rw [List.getElem?_append_right (Nat.le_refl _)] at h
    simp at h; subst h; omega
theorem z8k {f1 f2 : List Nat → List Nat} {n N : Nat} (hn1 : 1 ≤ n) (hn : n ≤ 64) (hf1 : ∀ y, y.length = n → (f1 y).length = n) (hf2 : ∀ y, y.length = n → (f2 y).length = n) (hR : REnd f1 f2 (M0 n) N) (Hb : List (List AV)) (i1 i2 : Nat) (c1 c2 : List AV)
    (hc1 : ∀ (c : List AV) (B : List (List AV)) (y : List Nat), y.length = n → zaa Tryz.prog i1 ([vt (.slm (Hb.length + 1 + B.length) n 0 n 1) 0 (n : Int) 1] ++ c1) (Hb ++ [c] ++ (B ++ [fl y])) (.int .i64 0) (Hb ++ [c] ++ (B ++ [fl (f1 y)])))
    (hc2 : ∀ (c : List AV) (B : List (List AV)) (y : List Nat), y.length = n → zaa Tryz.prog i2 ([vt (.slm (Hb.length + 1 + B.length) n 0 n 1) 0 (n : Int) 1] ++ c2) (Hb ++ [c] ++ (B ++ [fl y])) (.int .i64 0) (Hb ++ [c] ++ (B ++ [fl (f2 y)]))) :
    zaa Tryz.prog 44 [mP Hb.length, .func i1 [] c1, .func i2 [] c2] (Hb ++ [mCe (M0 n)]) (.tup []) (Hb ++ [mCe (runM f1 f2 (M0 n) N).1]) := by
  have hne : ∀ k, k < N → (runM f1 f2 (M0 n) k).2.2 ≠ 0 := fun k hk => by
    obtain ⟨b1, _⟩ := hR.st k hk; omega
  have hyV : ∀ k, k < N → yVa f1 f2 n Hb k = .slm (Hb.length + 1 + k) n 0 n 1 := fun k hk => if_neg (hne k hk)
  have hyT : ∀ k, k < N → yTa f1 f2 n k = [fl (runM f1 f2 (M0 n) k).2.1] := fun k hk => if_neg (hne k hk)
  have hHs : ∀ k, k < N → HsA f1 f2 n Hb k = Hb ++ [mCe (runM f1 f2 (M0 n) k).1] ++ (prL f1 f2 (M0 n) k ++ [fl (runM f1 f2 (M0 n) k).2.1]) := fun k hk => by unfold HsA; rw [hyT k hk]
  have hbl : ∀ (c : List AV) (L : List (List AV)), Hb.length < (Hb ++ [c] ++ L).length := fun c L => by simp <;> omega
  have hn0 : ∀ k, k ≤ N → (runM f1 f2 (M0 n) k).1.n = n := fun k hk => by
    rcases Nat.lt_or_ge k N with h | h
    · exact (hR.st k h).2.2.1
    · have : k = N := by omega
      subst this; exact hR.nN
  refine z8l (Hb ++ [mCe (M0 n)]) Hb.length n i1 i2 c1 c2 (HsA f1 f2 n Hb) (HmA f1 f2 n Hb) (yVa f1 f2 n Hb) (fun k => (runM f1 f2 (M0 n) k).2.2) N ?_ ?_ ?_ hR.z ?_ ?_ ?_ ?_ ?_ ?_ (Hb ++ [mCe (runM f1 f2 (M0 n) N).1]) (prL f1 f2 (M0 n) N ++ yTa f1 f2 n N) (by simp) rfl (fun _ _ => trivial)
  · rw [hyV 0 hR.pos, hHs 0 hR.pos]
    have h := z5c (Hb ++ [mCe (M0 n)] ++ []) Hb.length (hbl _ _) (M0 n) hn1 hn rfl _ _ (zf9 Hb _ _ []) rfl _ rfl
    rw [zf9] at h
    have e : (Hb ++ [mCe (M0 n)] ++ []).length = Hb.length + 1 + 0 := by simp
    rw [e, show (M0 n).n = n from rfl] at h
    simpa [prL, runM] using h
  · unfold HsA
    have h := odl (Hb := Hb) (c := mCe (M0 n)) (c' := mCe (runM f1 f2 (M0 n) 0).1) (L := []) (L' := prL f1 f2 (M0 n) 0 ++ yTa f1 f2 n 0) (zs4 _)
    simpa using h
  · intro k hk
    obtain ⟨b1, _⟩ := hR.st k hk
    show 0 < (runM f1 f2 (M0 n) k).2.2
    omega
  · intro k hk; rw [hyV k hk]; rfl
  · intro k hk h2
    obtain ⟨b1, b2, _⟩ := hR.st k hk
    have hp : prM f1 f2 (runM f1 f2 (M0 n) k) = f1 (runM f1 f2 (M0 n) k).2.1 := if_neg h2
    have h := hc1 (mCe (runM f1 f2 (M0 n) k).1) (prL f1 f2 (M0 n) k) (runM f1 f2 (M0 n) k).2.1 b2
    rw [zja] at h
    rw [hyV k hk, hHs k hk, List.append_nil, List.append_nil]
    unfold HmA; rw [prL, hp]; exact h
  · intro k hk h2
    obtain ⟨b1, b2, _⟩ := hR.st k hk
    have hp : prM f1 f2 (runM f1 f2 (M0 n) k) = f2 (runM f1 f2 (M0 n) k).2.1 := if_pos h2
    have h := hc2 (mCe (runM f1 f2 (M0 n) k).1) (prL f1 f2 (M0 n) k) (runM f1 f2 (M0 n) k).2.1 b2
    rw [zja] at h
    rw [hyV k hk, hHs k hk, List.append_nil, List.append_nil]
    unfold HmA; rw [prL, hp]; exact h
  · intro k hk
    have e : (Hb ++ [mCe (M0 n)]).length = (Hb ++ [mCe (runM f1 f2 (M0 n) k).1]).length := by simp
    rw [e]
    exact odl (zs4 _)
  · intro k hk
    obtain ⟨b1, b2, b3, b4, b5, b6⟩ := hR.st k hk
    have hx : (prM f1 f2 (runM f1 f2 (M0 n) k)).length = n := hR.pl hf1 hf2 hk
    have hX : ∀ c Nn, FL ((Hb ++ [mCe (runM f1 f2 (M0 n) k).1] ++ prL f1 f2 (M0 n) (k + 1)).set Hb.length c ++ Nn) (yVa f1 f2 n Hb k) (prM f1 f2 (runM f1 f2 (M0 n) k)) := fun c Nn => by
      rw [zf9, hyV k hk]
      refine FL.old ?_ hx.symm hx.symm
      rw [List.getElem?_append_left (by simp [prL, zja]; omega), List.getElem?_append_right (by simp)]
      simp [prL, zja]
    have h := z5d (Hb ++ [mCe (runM f1 f2 (M0 n) k).1] ++ prL f1 f2 (M0 n) (k + 1)) Hb.length (hbl _ _) (runM f1 f2 (M0 n) k).1 b4 b6 b5 (by have := b4.sl; have := b4.n64; omega) (yVa f1 f2 n Hb k) _ hX (by rw [hx, b3]; rfl) (by rw [hyV k hk]; exact NN.slm _ _ _ _ _) _ rfl
    rw [zf9] at h
    have er : nxt (runM f1 f2 (M0 n) k).1 (prM f1 f2 (runM f1 f2 (M0 n) k)) = runM f1 f2 (M0 n) (k + 1) := rfl
    rw [er, show (runM f1 f2 (M0 n) k).1.n = n from b3] at h
    rw [List.append_nil, List.append_nil]
    by_cases hk0 : (runM f1 f2 (M0 n) (k + 1)).2.2 = 0
    · have h2 := h.2 _ hk0 rfl
      rw [zf9] at h2
      unfold HmA HsA yVa yTa
      rw [if_pos hk0, if_pos hk0, List.append_nil]
      show zaa Tryz.prog 102 [mP Hb.length, yVa f1 f2 n Hb k] _ (.tup [.slnil, .int .i64 (runM f1 f2 (M0 n) (k + 1)).2.2]) _
      rw [hk0]; exact h2
    · have h2 := h.1 _ _ hk0 rfl rfl
      rw [zf9] at h2
      have e : (Hb ++ [mCe (runM f1 f2 (M0 n) k).1] ++ prL f1 f2 (M0 n) (k + 1)).length = Hb.length + 1 + (k + 1) := by simp [zja]; omega
      rw [e] at h2
      have e2 : yVa f1 f2 n Hb (k + 1) = .slm (Hb.length + 1 + (k + 1)) n 0 n 1 := if_neg hk0
      have e3 : yTa f1 f2 n (k + 1) = [fl (runM f1 f2 (M0 n) (k + 1)).2.1] := if_neg hk0
      rw [e2]
      unfold HmA HsA
      rw [e3, ← List.append_assoc]
      exact h2
  · intro k hk
    have e : (Hb ++ [mCe (M0 n)]).length = (Hb ++ [mCe (runM f1 f2 (M0 n) k).1]).length := by simp
    rw [e]
    exact odl (zs4 _)
attribute [local irreducible] Ex za3 exD opX opE zca zd3 zd4 Spec zaa Fr zb9 zbb zba ckK zb8 zb6 zbu faK zb4 zd1 gK fK rK zeq lpX prK
end Go.Sx
set_option linter.unusedVariables false
set_option linter.unusedSimpArgs false
set_option maxRecDepth 20000
namespace Go.Sx
open Go.Proofs
theorem zkj : cn 0 = 0 := by decide
theorem zaa.nil {P : Program} {f : Nat} {args : List AV} {H H' : List (List AV)} {r : AV} (h : zaa P f args H r H') : zaa P f args (H ++ []) r (H' ++ []) := by rwa [List.append_nil, List.append_nil]
attribute [local irreducible] Ex za3 exD opX opE zca zd3 zd4 Spec zaa Fr zb9 zbb zba ckK zb8 zb6 zbu faK zb4 zd1 gK fK rK zeq lpX prK
theorem zhn (H : List (List AV)) (b c c' : List AV) : (H ++ [b, c]).set (H.length + 1) c' = H ++ [b, c'] := by
  rw [List.set_append_right _ _ (by omega)]; simp
end Go.Sx
set_option linter.unusedVariables false
set_option linter.unusedSimpArgs false
set_option maxRecDepth 20000
namespace Go.Sx
open Go.Proofs
def mulL (y f : List Nat) (n : Nat) : List Nat := rml (fun i => zeu (y.getD i 0) (f.getD i 0)) n
@[simp] theorem zf7 (y f : List Nat) (n : Nat) : (mulL y f n).length = n := by simp [mulL]
def tmW (y f : List Nat) (k : Nat) : Nat → Nat := fun i => if i < k then zeu (y.getD i 0) (f.getD i 0) else y.getD i 0
theorem z1t {y f : List Nat} {n : Nat} (hy : y.length = n) : rml (tmW y f 0) n = y := by
  refine Eq.trans (zbw fun i hi => ?_) (zk5 hy)
  unfold tmW; rw [if_neg (by omega)]
theorem z6x (y f : List Nat) (n : Nat) : rml (tmW y f n) n = mulL y f n := zbw fun i hi => by unfold tmW; rw [if_pos hi]
theorem qbb {y f : List Nat} {n k : Nat} (hk : k < n) : (rml (tmW y f k) n).getD k 0 = y.getD k 0 := by
  rw [zcz hk]; unfold tmW; rw [if_neg (by omega)]
theorem z1s {y f : List Nat} {n k : Nat} (hk : k < n) : (rml (tmW y f k) n).set k (zeu ((rml (tmW y f k) n).getD k 0) (f.getD k 0)) = rml (tmW y f (k + 1)) n := by
  rw [qbb hk]
  apply List.ext_getElem
  · simp
  · intro i h1 h2
    rw [List.getElem_set]
    simp only [rml, List.getElem_map, List.getElem_range]
    unfold tmW
    by_cases h : k = i
    · subst h; rw [if_pos rfl, if_pos (by omega)]
    · rw [if_neg h]
      by_cases h9 : i < k
      · rw [if_pos h9, if_pos (by omega)]
      · rw [if_neg h9, if_neg (by omega)]
theorem z3b {P : Program} {cfg : Cfg} {e : List (Nat × EV)} {L : List (Nat × List AV)} {A N : List (List AV)} {K : St → Prop} {ty : TypeId} {pos : String} {aft : Array Edge} {gd : Option (Nat × Bool)} {dd : Nat} {t tx el el' : TypeId} {z' : Nat} {s x : Operand} {b n : Nat} {y l : List Nat} {X : AV} [si : SlI P t el 1] [sj : SlI P tx el' z'] (hs : St.ev ⟨e, L, A ++ N⟩ s = .val (.slm b n 0 n 1)) (hx : St.ev ⟨e, L, A ++ N⟩ x = .val X)
    (hc : A[b]? = some (fl y)) (hy : y.length = n) (hl : l.length = n) (hsrc : zkc (A ++ N) 1 X = some (l.length, fl l)) (h : K ⟨(dd, .val (.int .i64 (n : Int))) :: e, L, A.set b (fl l) ++ N⟩) :
    opX P cfg ⟨some dd, .call { callee := .builtin .copy, args := #[s, x], argTypes := #[t, tx] }, ty, pos, aft, gd⟩ K ⟨e, L, A ++ N⟩ := by
  simp only [opX, opE, List.map_cons, List.map_nil, hs, hx, EV.asV, si.h, si.z, sj.h, sj.z, Option.bind_some, hsrc, zqw, zdw hc]
  refine ⟨by omega, trivial, by simpa using hy, .inr (by rw [zak]; exact Nat.zero_le _), by simp [hy], ?_⟩
  have e1 : sc (fl y) 0 ((fl l).take (min l.length n * 1)) = fl l := by
    rw [show min l.length n * 1 = (fl l).length by simp [hl], List.take_length]
    exact zyi (by simp [hl, hy])
  rw [e1, zdl (List.getElem?_eq_some_iff.1 hc).1, show min l.length n = n by omega]
  exact h
attribute [local irreducible] Ex za3 exD opX opE zca zd3 zd4 Spec zaa Fr zb9 zbb zba ckK zb8 zb6 zbu faK zb4 zd1 gK fK rK zeq lpX prK
theorem z5q (H : List (List AV)) (b : Nat) (hb : b < H.length) (n : Nat) (hn1 : 1 ≤ n) (hn : n ≤ 64) (y : List Nat) (hy : y.length = n) (X : AV) (l : List Nat) (hl : l.length = n) (hX : FL (H.set b (fl y)) X l) (H0 H' : List (List AV)) (h0 : H.set b (fl y) = H0) (h' : H.set b (fl l) = H') :
    zaa Tryz.prog 69 [vt (.slm b n 0 n 1) 0 (n : Int) 1, X] H0 (.tup []) H' := by
  subst h0 h'
  have hs : z2l 1 (0 : Int).toNat (n : Int).toNat (.slm b n 0 n 1) = some (.slm b n 0 n 1) := by simp [z2l] <;> omega
  refine .go Tryz.call69 Tryz.func69 false [] dOk ?_
  simp only [za0, Nat.reduceAdd]
  repeat' (first
 |(refine zav ?_; (first | refine zbd ?_ | refine zao ?_ | fail))
 |(refine zaw ?_; (first | refine m14 ?_ | (refine m17 ?_; first | refine m19 ?_ | refine m18 ?_) | (refine m07 ?_; (first | refine m15 ?_ | refine m16 ?_ | fail)) | refine z8t (by (conv => {lhs; whnf}); done) (by exact rfl) (by (conv => {lhs; whnf}); done) (by (conv => {lhs; whnf}); done) (by omega) (by exact hs) ?_ | refine z3b (by (conv => {lhs; whnf}); done) (by (conv => {lhs; whnf}); done) (zft hb) hy hl (zjh hX) ?_ | refine m01 ?_ | fail))
 |refine zat ?_ | refine zau ?_ | refine zas ?_
 |(refine zax ?_; (first | refine zar ?_ | refine zad ?_ | (refine m06 ?_; (first | refine c_T ?_ | refine c_F ?_ | refine c_P ?_ ?_ | refine c_B ?_ ?_ | fail)) | refine zaq ?_ | refine zah ?_ | refine zae ?_ | refine b_exit ?_ | fail))
 |refine m05 ?_
 |refine m04 ?_ | refine m02 ?_ | refine m03 ?_ | refine zai ?_
 |intro _)
  all_goals first
    | (rw [List.set_set]; refine zal (by simp) (by simp [mx, mxL, zaf]) ?_; exact rfl)
theorem zua (H : List (List AV)) (b : Nat) (hb : b < H.length) (n : Nat) (hn1 : 1 ≤ n) (hn : n ≤ 64) (y : List Nat) (hy : y.length = n) (Fv : AV) (f : List Nat) (hf : f.length = n) (hF : ∀ c N, FL (H.set b c ++ N) Fv f) (H0 H' : List (List AV)) (h0 : H.set b (fl y) = H0) (h' : H.set b (fl (mulL y f n)) = H') :
    zaa Tryz.prog 70 [vt (.slm b n 0 n 1) 0 (n : Int) 1, Fv] H0 (.tup []) H' := by
  subst h0 h'
  have hfl : slen Fv = some n := by have h9 := (hF [] []).len; rw [hf] at h9; exact h9
  refine .go Tryz.call70 Tryz.func70 false [] dOk ?_
  simp only [za0, Nat.reduceAdd]
  repeat' (first
 |(refine zav ?_; (first | refine zbd ?_ | refine zao ?_ | fail))
 |(refine zaw ?_; (first | refine m41 ?_ | refine zb0 ?_ | refine m14 ?_ | (refine m17 ?_; first | refine m19 ?_ | refine m18 ?_) | (refine m07 ?_; (first | refine m15 ?_ | refine m16 ?_ | refine qbp hb (by simp) (by simp; omega) ?_ | refine zdy (hF _ _) (by omega) ?_ | fail)) | refine zec (m := k) (by (conv => {lhs; whnf}); done) (by (conv => {lhs; whnf}); done) (by exact rfl) (by omega) hk ?_ | refine zbz (by (conv => {lhs; whnf}); done) (by (conv => {lhs; whnf}); done) (by exact hfl) hk ?_ | refine zln (X := rml (tmW y f k) n) (X' := rml (tmW y f (k + 1)) n) (by (conv => {lhs; whnf}); done) (by (conv => {lhs; whnf}); done) hb (by simp) (by simp; omega) (by simp only [Nat.zero_add]; exact z1s hk) ?_ | (refine m00 ?_; (first | refine zbo ((k + 1 : Nat) : Int) (by omega) (by omega) ?_ | refine m49 ?_ | refine m47 ?_ | refine m48 ?_ | refine m49 ?_ | refine m50 ?_ | refine v_k ?_ | refine m51 ?_ | fail)) | refine m08 ?_ | refine m25 ?_ | refine m01 ?_ | fail))
 |(refine zch ?_; (first | refine m36 ?_ | refine zcf ?_ | fail))
 |(refine zcg ?_; (first | refine zev ?_ | refine zfv ?_ | refine zfw (by (conv => {lhs; whnf}); done) ?_ | refine zfx ?_ | refine zfu (by exact rfl) (by exact rfl) ?_ | refine m34 ?_ | refine m35 ?_ | refine m33 ?_ | refine zew ?_ | refine m56 ?_ | refine zci ?_ | refine zc1 (by exact rfl) ?_ | fail))
 |refine zat ?_ | refine zau ?_ | refine zas ?_
 |(refine zax ?_; (first | refine zar ?_ | refine zad ?_ | (refine m06 ?_; (first | refine c_T ?_ | refine c_F ?_ | refine c_P ?_ ?_ | refine c_B ?_ ?_ | fail)) | refine zaq ?_ | refine zah ?_ | refine zae ?_ | refine b_exit ?_ | refine zan (id := 4) [] [14] [(0, .lt), (1, .ld true), (2, .lt), (3, .ld true), (4, .lt), (5, .lt), (6, .lt), (7, .ld true), (8, .lt), (9, .lt), (10, .lt), (11, .ld true), (12, .lt), (13, .lt), (14, .mn false)] (by kernel_rfl) ?_ | (refine za1 [1, 2, 6, 7] n (fun k => ⟨[(1, .val Fv), (2, .loc 2 0), (6, .val (.int .i64 ((n : Nat) : Int))), (7, .val (.int .i64 ((k : Nat) : Int)))], [(2, [.slm b n 0 n 1, .int .i64 0, .int .i64 (n : Int), .int .i64 1])], H.set b (fl (rml (tmW y f k) n)) ++ []⟩) (by rw [z1t hy]; exact rfl) ?_ ?_ <;> (first | intro k hk K hK | intro K) <;> (try dsimp only at *)) | fail))
 |refine zbh ?_ | refine zbi ?_ | refine zbg ?_ | refine m57 ?_
 |refine zdp ?_ | refine zdq ?_ | refine zdo ?_
 |(refine zdr (by exact rfl) ?_; first | exact hK | fail | (exfalso; first | omega | (simp_all; done) | (simp_all; omega)))
 |refine m05 ?_
 |refine m04 ?_ | refine m02 ?_ | refine m03 ?_ | refine zai ?_
 |intro _)
  all_goals first
    | (exfalso; omega)
    | (rw [← z6x]; refine zal (by simp) (by simp [mx, mxL, zaf]) ?_; exact rfl)
theorem zo5 (H : List (List AV)) (X : AV) (n : Nat) (hn : n ≤ 64) (y : List Nat) (hy : y.length = n) (hX : FL H X y) (Fv : AV) (f : List Nat) (hf : f.length = n) (hF : FL H Fv f) :
    zaa Tryz.prog 76 [X, Fv] H (.sl none n (fl (mulL y f n))) H := by
  have hXl : slen X = some n := by have h9 := hX.len; rw [hy] at h9; exact h9
  have hfl : slen Fv = some n := by have h9 := hF.len; rw [hf] at h9; exact h9
  refine .go Tryz.call76 Tryz.func76 false [23] dOk ?_
  simp only [za0, Nat.reduceAdd]
  repeat' (first
 |(refine zav ?_; (first | refine zbd ?_ | refine zao ?_ | fail))
 |(refine zaw ?_; (first | refine m14 ?_ | (refine m07 ?_; (first | refine m15 ?_ | refine m16 ?_ | refine zdy (FL.app hX _) (by omega) ?_ | refine zdy (FL.app hF _) (by omega) ?_ | fail)) | refine zam (by (conv => {lhs; whnf}); done) (by exact hXl) ?_ | refine zbz (by (conv => {lhs; whnf}); done) (by (conv => {lhs; whnf}); done) (by exact hXl) hk ?_ | refine zbz (by (conv => {lhs; whnf}); done) (by (conv => {lhs; whnf}); done) (by exact hfl) hk ?_ | refine zee (i := 0) (N₀ := []) (by (conv => {lhs; whnf}); done) (by (conv => {lhs; whnf}); done) (by exact rfl) (by exact rfl) (by simp) (by omega) (by exact rfl) (by exact rfl) (l' := fl (rml (fun i => zeu (y.getD i 0) (f.getD i 0)) (k + 1))) (by exact zg7 _ _) ?_ | (refine m00 ?_; (first | refine zbo ((k + 1 : Nat) : Int) (by omega) (by omega) ?_ | refine m47 ?_ | refine m48 ?_ | refine m49 ?_ | refine m50 ?_ | refine v_k ?_ | refine m51 ?_ | fail)) | refine m42 ?_ | refine zab ?_ | refine zac ?_ | refine m08 ?_ | refine zaj ?_ | refine zam (by (conv => {lhs; whnf}); done) (by first | rfl | assumption) ?_ | refine zc2 (by exact rfl) (by exact rfl) (by decide) ?_ | fail))
 |(refine zch ?_; (first | refine m36 ?_ | refine zcf ?_ | fail))
 |(refine zcg ?_; (first | refine zev ?_ | refine zfv ?_ | refine zfw (by (conv => {lhs; whnf}); done) ?_ | refine zfx ?_ | refine zfu (by exact rfl) (by exact rfl) ?_ | refine m34 ?_ | refine m35 ?_ | refine m33 ?_ | refine zew ?_ | refine m56 ?_ | refine zci ?_ | refine zc1 (by exact rfl) ?_ | fail))
 |refine zat ?_ | refine zau ?_ | refine zas ?_
 |(refine zax ?_; (first | refine zar ?_ | refine zad ?_ | (refine m06 ?_; (first | refine c_T ?_ | refine c_F ?_ | refine c_P ?_ ?_ | refine c_B ?_ ?_ | fail)) | refine zaq ?_ | refine zah ?_ | refine zae ?_ | refine b_exit ?_ | refine zan (id := 5) [] [11] [(0, .lt), (1, .lt), (2, .lt), (3, .lt), (4, .ld true), (5, .lt), (6, .lt), (7, .lt), (8, .ld true), (9, .mn true), (10, .fz), (11, .mn false), (12, .lt)] (by kernel_rfl) ?_ | (refine za1 [0, 1, 5, 6] n (fun k => ⟨[(0, .val X), (1, .val Fv), (5, .val (gV H.length 0 k)), (6, .val (.int .i64 ((k : Nat) : Int)))], [], H ++ ([] ++ gN (fl (rml (fun i => zeu (y.getD i 0) (f.getD i 0)) k)))⟩) (by exact rfl) ?_ ?_ <;> (first | intro k hk K hK | intro K) <;> (try dsimp only at *)) | fail))
 |refine m21 ?_
 |refine za4 ?_
 |(refine za5 ?_; (first | refine cA (zjj _ _ _) ?_ | fail))
 |refine m44 ?_
 |refine m40 ?_
 |(refine zbc (by (conv => {lhs; simp only [List.nil_append, List.cons_append]}); done) ?_; first | refine ⟨by exact rfl, ?_⟩ | skip)
 |refine zbt ?_
 |(intro N' hN'; simp only [List.nil_append, List.cons_append] at hN'; subst hN')
 |refine zbh ?_ | refine zbi ?_ | refine zbg ?_ | refine m57 ?_
 |refine zdp ?_ | refine zdq ?_ | refine zdo ?_
 |(refine zdr (by exact rfl) ?_; first | exact hK | fail | (exfalso; first | omega | (simp_all; done) | (simp_all; omega)))
 |refine m05 ?_
 |refine m04 ?_ | refine m02 ?_ | refine m03 ?_ | refine zai ?_
 |intro _)
  all_goals first
    | (exfalso; omega)
    | (refine zb5 rfl ?_; exact zi0 (i := 0) (N₀ := []) (A := H) (k := n) (l := fl (mulL y f n)) rfl rfl (by simp) (by rw [zak]; exact Nat.zero_le _))
def z2m (a : Nat → Nat → Nat) (p rl cl : List Int) (n : Nat) (y : List Nat) : List Nat := rml (shF (up2 a (lo1 a (tkF p (shF (fun i => y.getD i 0) rl n) n) n) n n) cl n) n
def zww (a : Nat → Nat → Nat) (p rl cl : List Int) (n : Nat) (y : List Nat) : List Nat := rml (shF (tkB p (lt3 a (ut4 a (shF (fun i => y.getD i 0) cl n) n) n n) n) rl n) n
@[simp] theorem z8c (a : Nat → Nat → Nat) (p rl cl : List Int) (n : Nat) (y : List Nat) : (z2m a p rl cl n y).length = n := by simp [z2m]
@[simp] theorem zlc (a : Nat → Nat → Nat) (p rl cl : List Int) (n : Nat) (y : List Nat) : (zww a p rl cl n y).length = n := by simp [zww]
theorem zom {n b : Nat} {H N N' : List (List AV)} {c : List AV} {z : List Nat} (hn : n ≤ H.length) : zbk n (H.set b c ++ N) (H.set b (fl z) ++ N') := zbk.mdl hn (by rw [zak])
theorem z9k (H : List (List AV)) (x : Nat × Nat) (l : List Nat) (off ld : Int) (n : Nat) (hI : MI l.length off n n ld) (hG : zaz l.length off n n ld) (q : Nat × Nat) (la : List Nat) (ao al : Int) (hJ : MI la.length ao n n al) (hGa : zaz la.length ao n n al) (q' : Nat × Nat) (p : List Int) (hpl : p.length = n) (hpv : zdx p) (Rv : AV) (rl : List Int) (hRl : ∀ H, IL H Rv rl) (Cv : AV) (cl : List Int) (hCl : ∀ H, IL H Cv cl) (hrl : rl.length = n) (hcl : cl.length = n) (hn1 : 1 ≤ n) (hn : n ≤ 64) (hz : ∀ k, k < n → feq ((mel la ao al) k k) 0 = false) (b : Nat) (hb : b < H.length) (y : List Nat) (hy : y.length = n) (hRm : mx Rv ≤ H.length) (hCm : mx Cv ≤ H.length) (f : List Nat) (hf : f.length = n) (bs bf : Nat) (hbs : ∀ c, (H.set b c)[bs]? = some [aD x l, .int .i64 off, .int .i64 (n : Int), .int .i64 (n : Int), .int .i64 ld, aD q la, .int .i64 ao, .int .i64 (n : Int), .int .i64 (n : Int), .int .i64 al, aI q' p, Rv, Cv]) (hbf : ∀ c, (H.set b c)[bf]? = some [.sl none n (fl f)]) (H0 H' : List (List AV)) (h0 : H.set b (fl y) = H0) (h' : H.set b (fl (mulL (zww (mel la ao al) p rl cl n y) f n)) = H') :
    zaa Tryz.prog 67 [vt (.slm b n 0 n 1) 0 (n : Int) 1, .eptr (.slm bs 13 0 1 13) 0, .eptr (.slm bf 1 0 1 1) 0] H0 (.int .i64 0) H' := by
  subst h0 h'
  refine .go Tryz.call67 Tryz.func67 false [] dOk ?_
  simp only [za0, Nat.reduceAdd]
  repeat' (first
 |(refine zav ?_; (first | refine zbd ?_ | refine zao ?_ | fail))
 |(refine zaw ?_; (first | refine m14 ?_ | (refine m17 ?_; first | refine m19 ?_ | refine m18 ?_) | (refine m07 ?_; (first | refine m15 ?_ | refine m16 ?_ | refine qbq (hbs _) (by exact rfl) (by exact rfl) ?_ | refine zj3 (hbf _) (by exact rfl) (by exact rfl) ?_ | fail)) | refine m42 ?_ | refine zab ?_ | refine zac ?_ | refine m08 ?_ | refine zaj ?_ | refine m23 ?_ | refine m01 ?_ | fail))
 |refine zat ?_ | refine zau ?_ | refine zas ?_
 |(refine zax ?_; (first | refine zar ?_ | refine zad ?_ | (refine m06 ?_; (first | refine c_T ?_ | refine c_F ?_ | refine c_P ?_ ?_ | refine c_B ?_ ?_ | fail)) | refine zaq ?_ | refine zah ?_ | refine zae ?_ | refine b_exit ?_ | fail))
 |refine m21 ?_
 |refine za4 ?_
 |(refine za5 ?_; (first | refine cA (qa4 _ x l off ld n hI hG q la ao al hJ hGa q' p hpl hpv Rv rl hRl Cv cl hCl hrl hcl hn1 hn hz (.slm b n 0 n 1) (fun i => y.getD i 0) (fun N => by rw [zk5 hy, List.append_assoc]; exact FL.old (zdw (zft hb)) (hy).symm (hy).symm) (NN.slm _ _ _ _ _) (by simp; exact hRm) (by simp; exact hCm) _ (by (conv => {lhs; simp only [List.append_assoc, List.cons_append, List.nil_append]}); done) _ (by (conv => {lhs; simp only [List.length_append, List.length_cons, List.length_nil, List.length_set, Nat.reduceAdd, Nat.zero_add]}); done)) ?_ | refine c_call (z5q (H ++ [fl (zww (mel la ao al) p rl cl n y)]) b (by simp; omega) n hn1 hn _ hy (.slm (H.length + 0) n 0 n 1) (zww (mel la ao al) p rl cl n y) (by simp) (by rw [zbf hb]; exact FL.old (za9 (by simp) rfl) (by simp) (by simp)) _ _ (zbf hb _) (zbf hb _)) (zom (by simp)) ?_ | refine c_call (zua (H ++ [fl (zww (mel la ao al) p rl cl n y)]) b (by simp; omega) n hn1 hn _ (zlc _ _ _ _ _ _) _ f hf (fun c N => FLz _ _ _ hf) _ _ (zbf hb _) (zbf hb _)) (zom (by simp)) ?_ | fail))
 |refine m05 ?_
 |refine m04 ?_ | refine m02 ?_ | refine m03 ?_ | refine zai ?_
 |intro _)
  all_goals first
    | (refine zal (by simp) (by simp [mx, mxL, zaf]) ?_; exact rfl)
theorem z9l (H : List (List AV)) (x : Nat × Nat) (l : List Nat) (off ld : Int) (n : Nat) (hI : MI l.length off n n ld) (hG : zaz l.length off n n ld) (q : Nat × Nat) (la : List Nat) (ao al : Int) (hJ : MI la.length ao n n al) (hGa : zaz la.length ao n n al) (q' : Nat × Nat) (p : List Int) (hpl : p.length = n) (hpv : zdx p) (Rv : AV) (rl : List Int) (hRl : ∀ H, IL H Rv rl) (Cv : AV) (cl : List Int) (hCl : ∀ H, IL H Cv cl) (hrl : rl.length = n) (hcl : cl.length = n) (hn1 : 1 ≤ n) (hn : n ≤ 64) (hz : ∀ k, k < n → feq ((mel la ao al) k k) 0 = false) (b : Nat) (hb : b < H.length) (y : List Nat) (hy : y.length = n) (hRm : mx Rv ≤ H.length) (hCm : mx Cv ≤ H.length) (f : List Nat) (hf : f.length = n) (bs bf : Nat) (hbs : ∀ c, (H.set b c)[bs]? = some [aD x l, .int .i64 off, .int .i64 (n : Int), .int .i64 (n : Int), .int .i64 ld, aD q la, .int .i64 ao, .int .i64 (n : Int), .int .i64 (n : Int), .int .i64 al, aI q' p, Rv, Cv]) (hbf : ∀ c, (H.set b c)[bf]? = some [.sl none n (fl f)]) (H0 H' : List (List AV)) (h0 : H.set b (fl y) = H0) (h' : H.set b (fl (z2m (mel la ao al) p rl cl n (mulL y f n))) = H') :
    zaa Tryz.prog 71 [vt (.slm b n 0 n 1) 0 (n : Int) 1, .eptr (.slm bf 1 0 1 1) 0, .eptr (.slm bs 13 0 1 13) 0] H0 (.int .i64 0) H' := by
  subst h0 h'
  refine .go Tryz.call71 Tryz.func71 false [] dOk ?_
  simp only [za0, Nat.reduceAdd]
  repeat' (first
 |(refine zav ?_; (first | refine zbd ?_ | refine zao ?_ | fail))
 |(refine zaw ?_; (first | refine m14 ?_ | (refine m17 ?_; first | refine m19 ?_ | refine m18 ?_) | (refine m07 ?_; (first | refine m15 ?_ | refine m16 ?_ | refine qbq (hbs _) (by exact rfl) (by exact rfl) ?_ | refine zj3 (hbf _) (by exact rfl) (by exact rfl) ?_ | fail)) | refine m42 ?_ | refine zab ?_ | refine zac ?_ | refine m08 ?_ | refine zaj ?_ | refine m23 ?_ | refine m01 ?_ | fail))
 |refine zat ?_ | refine zau ?_ | refine zas ?_
 |(refine zax ?_; (first | refine zar ?_ | refine zad ?_ | (refine m06 ?_; (first | refine c_T ?_ | refine c_F ?_ | refine c_P ?_ ?_ | refine c_B ?_ ?_ | fail)) | refine zaq ?_ | refine zah ?_ | refine zae ?_ | refine b_exit ?_ | fail))
 |refine m21 ?_
 |refine za4 ?_
 |(refine za5 ?_; (first | refine c_call (zua (H ++ []) b (by simpa using hb) n hn1 hn y hy _ f hf (fun c N => FLz _ _ _ hf) _ _ (zbf hb _) (zbf hb _)) (zom (by simp)) ?_ | refine cA (qa8 _ x l off ld n hI hG q la ao al hJ hGa q' p hpl hpv Rv rl hRl Cv cl hCl hrl hcl hn1 hn hz (.slm b n 0 n 1) (fun i => (mulL y f n).getD i 0) (fun N => by rw [zk5 (zf7 y f n), List.append_assoc]; exact FL.old (zdw (zft hb)) ((zf7 y f n)).symm ((zf7 y f n)).symm) (NN.slm _ _ _ _ _) (by simp; exact hRm) (by simp; exact hCm) _ (by (conv => {lhs; simp only [List.append_assoc, List.cons_append, List.nil_append]}); done) _ (by (conv => {lhs; simp only [List.length_append, List.length_cons, List.length_nil, List.length_set, Nat.reduceAdd, Nat.zero_add]}); done)) ?_ | refine c_call (z5q (H ++ [fl (z2m (mel la ao al) p rl cl n (mulL y f n))]) b (by simp; omega) n hn1 hn _ (zf7 y f n) (.slm (H.length + 0) n 0 n 1) (z2m (mel la ao al) p rl cl n (mulL y f n)) (by simp) (by rw [zbf hb]; exact FL.old (za9 (by simp) rfl) (by simp) (by simp)) _ _ (zbf hb _) (zbf hb _)) (zom (by simp)) ?_ | fail))
 |refine m05 ?_
 |refine m04 ?_ | refine m02 ?_ | refine m03 ?_ | refine zai ?_
 |intro _)
  all_goals first
    | (refine zal (by simp) (by simp [mx, mxL, zaf]) ?_; exact rfl)
theorem zfs :
    (∀ (H : List (List AV)) (c0 c1 c2 c3 c4 c5 c6 c7 c8 c9 c10 Rv Cv : AV) (hRc : AV.cells Rv = some [Rv]) (hCc : AV.cells Cv = some [Cv]) (X : AV) (xn : Nat) (hXl : slen X = some xn) (Bv : AV) (bn : Nat) (hBl : slen Bv = some bn) (e : Int) (he : e ≠ 0) (hck : ∀ N, zaa Tryz.prog 120 [.agg [c0, c1, c2, c3, c4, c5, c6, c7, c8, c9, c10, Rv, Cv]] (H ++ N) (.int .i64 e) (H ++ N)), zaa Tryz.prog 64 [.agg [c0, c1, c2, c3, c4, c5, c6, c7, c8, c9, c10, Rv, Cv], X, Bv] H (.int .i64 e) H) ∧
    (∀ (H : List (List AV)) (x : Nat × Nat) (l : List Nat) (off ld : Int) (n : Nat) (hI : MI l.length off n n ld) (hG : zaz l.length off n n ld) (q : Nat × Nat) (la : List Nat) (ao al : Int) (hJ : MI la.length ao n n al) (hGa : zaz la.length ao n n al) (q' : Nat × Nat) (p : List Int) (hpl : p.length = n) (hpv : zdx p) (Rv : AV) (rl : List Int) (hRl : ∀ H, IL H Rv rl) (Cv : AV) (cl : List Int) (hCl : ∀ H, IL H Cv cl) (hrl : rl.length = n) (hcl : cl.length = n) (hn1 : 1 ≤ n) (hn : n ≤ 64) (hz : ∀ k, k < n → feq ((mel la ao al) k k) 0 = false) (X : AV) (xn : Nat) (hXl : slen X = some xn) (Bv : AV) (bn : Nat) (hBl : slen Bv = some bn) (hxn : xn ≠ n), zaa Tryz.prog 64 [(.agg [aD x l, .int .i64 off, .int .i64 (n : Int), .int .i64 (n : Int), .int .i64 ld, aD q la, .int .i64 ao, .int .i64 (n : Int), .int .i64 (n : Int), .int .i64 al, aI q' p, Rv, Cv]), X, Bv] H (.int .i64 3) H) ∧
    (∀ (H : List (List AV)) (x : Nat × Nat) (l : List Nat) (off ld : Int) (n : Nat) (hI : MI l.length off n n ld) (hG : zaz l.length off n n ld) (q : Nat × Nat) (la : List Nat) (ao al : Int) (hJ : MI la.length ao n n al) (hGa : zaz la.length ao n n al) (q' : Nat × Nat) (p : List Int) (hpl : p.length = n) (hpv : zdx p) (Rv : AV) (rl : List Int) (hRl : ∀ H, IL H Rv rl) (Cv : AV) (cl : List Int) (hCl : ∀ H, IL H Cv cl) (hrl : rl.length = n) (hcl : cl.length = n) (hn1 : 1 ≤ n) (hn : n ≤ 64) (hz : ∀ k, k < n → feq ((mel la ao al) k k) 0 = false) (X : AV) (xn : Nat) (hXl : slen X = some xn) (Bv : AV) (bn : Nat) (hBl : slen Bv = some bn) (hbn : bn ≠ n), zaa Tryz.prog 64 [(.agg [aD x l, .int .i64 off, .int .i64 (n : Int), .int .i64 (n : Int), .int .i64 ld, aD q la, .int .i64 ao, .int .i64 (n : Int), .int .i64 (n : Int), .int .i64 al, aI q' p, Rv, Cv]), X, Bv] H (.int .i64 3) H) ∧
    (∀ (H : List (List AV)) (x : Nat × Nat) (l : List Nat) (off ld : Int) (n : Nat) (hI : MI l.length off n n ld) (hG : zaz l.length off n n ld) (q : Nat × Nat) (la : List Nat) (ao al : Int) (hJ : MI la.length ao n n al) (hGa : zaz la.length ao n n al) (q' : Nat × Nat) (p : List Int) (hpl : p.length = n) (hpv : zdx p) (Rv : AV) (rl : List Int) (hRl : ∀ H, IL H Rv rl) (Cv : AV) (cl : List Int) (hCl : ∀ H, IL H Cv cl) (hrl : rl.length = n) (hcl : cl.length = n) (hn1 : 1 ≤ n) (hn : n ≤ 64) (hz : ∀ k, k < n → feq ((mel la ao al) k k) 0 = false) (X : AV) (xn : Nat) (hXl : slen X = some xn) (Bv : AV) (bn : Nat) (hBl : slen Bv = some bn) (hxn : xn = n) (hbn : bn = n), zaa Tryz.prog 64 [(.agg [aD x l, .int .i64 off, .int .i64 (n : Int), .int .i64 (n : Int), .int .i64 ld, aD q la, .int .i64 ao, .int .i64 (n : Int), .int .i64 (n : Int), .int .i64 al, aI q' p, Rv, Cv]), X, Bv] H (.int .i64 0) H) := by
  refine ⟨?_, ?_, ?_, ?_⟩
  (intro H c0 c1 c2 c3 c4 c5 c6 c7 c8 c9 c10 Rv Cv hRc hCc X xn hXl Bv bn hBl e he hck
   refine .go Tryz.call64 Tryz.func64 false [] dOk ?_
   simp only [za0, Nat.reduceAdd])
  rotate_left
  (intro H x l off ld n hI hG q la ao al hJ hGa q' p hpl hpv Rv rl hRl Cv cl hCl hrl hcl hn1 hn hz X xn hXl Bv bn hBl hxn
   refine .go Tryz.call64 Tryz.func64 false [] dOk ?_
   simp only [za0, Nat.reduceAdd])
  rotate_left
  (intro H x l off ld n hI hG q la ao al hJ hGa q' p hpl hpv Rv rl hRl Cv cl hCl hrl hcl hn1 hn hz X xn hXl Bv bn hBl hbn
   refine .go Tryz.call64 Tryz.func64 false [] dOk ?_
   simp only [za0, Nat.reduceAdd])
  rotate_left
  (intro H x l off ld n hI hG q la ao al hJ hGa q' p hpl hpv Rv rl hRl Cv cl hCl hrl hcl hn1 hn hz X xn hXl Bv bn hBl hxn hbn
   refine .go Tryz.call64 Tryz.func64 false [] dOk ?_
   simp only [za0, Nat.reduceAdd])
  rotate_left
  all_goals (repeat' (first
 |(refine zav ?_; (first | refine zbd ?_ | refine zao ?_ | refine m13 ?_ | refine m12 ?_ | refine m11 ?_ | (refine m10 ?_; (first | refine zcv ?_ | refine zcq ?_ | refine zcu ?_ | refine zcr ?_ | refine zct ?_ ?_ | refine zcs ?_ ?_ | refine zcp ?_ ?_ | refine zco ?_ ?_ | fail)) | (refine m09 ?_; (first | refine zcv ?_ | refine zcq ?_ | refine zcu ?_ | refine zcr ?_ | refine zct ?_ ?_ | refine zcs ?_ ?_ | refine zcp ?_ ?_ | refine zco ?_ ?_ | fail)) | refine m38 ?_ | fail))
 |(refine zaw ?_; (first | refine m14 ?_ | (refine m17 ?_; first | refine m19 ?_ | refine m18 ?_) | (refine m07 ?_; (first | refine m15 ?_ | refine m16 ?_ | fail)) | refine zam (by (conv => {lhs; whnf}); done) (by exact hXl) ?_ | refine zam (by (conv => {lhs; whnf}); done) (by exact hBl) ?_ | (refine m45 ?_; (first | refine zb3 (by exact rfl) ?_ | refine v_k ?_ | fail)) | (refine m00 ?_; (first | refine m52 ?_ | refine m53 ?_ | refine zc7 ?_ | refine m54 ?_ | refine m55 ?_ | refine zbx ?_ | refine m49 ?_ | refine m50 ?_ | refine v_k ?_ | refine m51 ?_ | fail)) | (refine m22 ?_; (first | refine m26 ?_ | refine m27 ?_ | fail)) | refine m42 ?_ | refine zab ?_ | refine zac ?_ | refine m08 ?_ | refine zaj ?_ | refine zam (by (conv => {lhs; whnf}); done) (by first | rfl | assumption) ?_ | refine m01 ?_ | fail))
 |refine zat ?_ | refine zau ?_ | refine zas ?_
 |(refine zax ?_; (first | refine zar ?_ | refine zad ?_ | (refine m06 ?_; (first | refine c_T ?_ | refine c_F ?_ | refine c_P ?_ ?_ | refine c_B ?_ ?_ | fail)) | refine zaq ?_ | refine zah ?_ | refine zae ?_ | refine b_exit ?_ | fail))
 |refine m21 ?_
 |refine za4 ?_
 |(refine za5 ?_; (first | refine cA (hck _) ?_ | refine cA (zrk _ x l off ld n hI hG q la ao al hJ hGa q' p hpl hpv Rv rl hRl Cv cl hCl hrl hcl hn1 hn hz) ?_ | fail))
 |refine m05 ?_
 |refine m04 ?_ | refine m02 ?_ | refine m03 ?_ | refine zai ?_
 |intro _))
  all_goals first
    | (exfalso; contradiction)
    | (exfalso; omega)
    | (exfalso; simp_all; done)
    | (refine zal rfl (by simp [mx, mxL, zaf, aOf, zbn]) ?_; exact rfl)
theorem zp2 : type_of% @zfs.1 := @zfs.1
theorem z3v : type_of% @zfs.2.1 := @zfs.2.1
theorem z3w : type_of% @zfs.2.2.1 := @zfs.2.2.1
theorem z9n : type_of% @zfs.2.2.2 := @zfs.2.2.2
end Go.Sx
set_option linter.unusedVariables false
set_option linter.unusedSimpArgs false
set_option maxRecDepth 20000
namespace Go.Sx
open Go.Proofs
theorem bx2 (Hb L : List (List AV)) (i : Nat) (hi : i < Hb.length) (b : Nat) (hb : Hb.length ≤ b) (c : List AV) : ((Hb ++ L).set b c)[i]? = Hb[i]? := by
  rw [List.getElem?_set_ne (by omega), List.getElem?_append_left hi]
theorem zky (G : List (List AV)) (b : Nat) (hb : b = G.length) (y z : List AV) : (G ++ [y]).set b z = G ++ [z] := by
  subst hb; rw [List.set_append_right _ _ (Nat.le_refl _)]; simp
theorem zl0 {f1 f2 : List Nat → List Nat} {n N : Nat} (hn1 : 1 ≤ n) (hf1 : ∀ y, y.length = n → (f1 y).length = n) (hf2 : ∀ y, y.length = n → (f2 y).length = n) (hR : REnd f1 f2 (M0 n) N) :
    mCe (runM f1 f2 (M0 n) N).1 = mDc ((runM f1 f2 (M0 n) N).1.n : Int) ((runM f1 f2 (M0 n) N).1.st : Int) (runM f1 f2 (M0 n) N).1.est (.sl none n (fl (runM f1 f2 (M0 n) N).1.v)) (LV (runM f1 f2 (M0 n) N).1.s) ((runM f1 f2 (M0 n) N).1.j : Int) ((runM f1 f2 (M0 n) N).1.ct : Int) := by
  have hv := hR.v hf1 hf2
  rw [zm5, zpj (by omega), hv]
def zcw (a : Nat → Nat → Nat) (p rl cl : List Int) (n : Nat) (f : List Nat) : List Nat → List Nat := fun y => mulL (zww a p rl cl n y) f n
def zcx (a : Nat → Nat → Nat) (p rl cl : List Int) (n : Nat) (f : List Nat) : List Nat → List Nat := fun y => z2m a p rl cl n (mulL y f n)
@[simp] theorem z7x (a : Nat → Nat → Nat) (p rl cl : List Int) (n : Nat) (f y : List Nat) : (zcw a p rl cl n f y).length = n := by simp [zcw]
@[simp] theorem z7y (a : Nat → Nat → Nat) (p rl cl : List Int) (n : Nat) (f y : List Nat) : (zcx a p rl cl n f y).length = n := by simp [zcx]
def fbL (g : Nat → Nat → Nat) (x b : List Nat) (n : Nat) : List Nat := zzc (zmf g x b n) (wtL g x b n) n
theorem zlo (r w : List Nat) (n : Nat) : (zzc r w n).length = n := by simp [zzc]
theorem zzr (H : List (List AV)) (x : Nat × Nat) (l : List Nat) (off ld : Int) (n : Nat) (hI : MI l.length off n n ld) (hG : zaz l.length off n n ld) (q : Nat × Nat) (la : List Nat) (ao al : Int) (hJ : MI la.length ao n n al) (hGa : zaz la.length ao n n al) (q' : Nat × Nat) (p : List Int) (hpl : p.length = n) (hpv : zdx p) (Rv : AV) (rl : List Int) (hRl : ∀ H, IL H Rv rl) (Cv : AV) (cl : List Int) (hCl : ∀ H, IL H Cv cl) (hrl : rl.length = n) (hcl : cl.length = n) (hn1 : 1 ≤ n) (hn : n ≤ 64) (hz : ∀ k, k < n → feq ((mel la ao al) k k) 0 = false) (hRm : mx Rv ≤ H.length) (hCm : mx Cv ≤ H.length) (f : List Nat) (hf : f.length = n) (N : Nat) (hR : REnd (zcw (mel la ao al) p rl cl n f) (zcx (mel la ao al) p rl cl n f) (M0 n) N) :
    zaa Tryz.prog 44 [mP (H.length + 2), .func 67 [] [(.eptr (.slm (H.length + 0) 13 0 1 13) 0), (.eptr (.slm (H.length + 1) 1 0 1 1) 0)], .func 71 [] [(.eptr (.slm (H.length + 1) 1 0 1 1) 0), (.eptr (.slm (H.length + 0) 13 0 1 13) 0)]] (H ++ [[aD x l, .int .i64 off, .int .i64 (n : Int), .int .i64 (n : Int), .int .i64 ld, aD q la, .int .i64 ao, .int .i64 (n : Int), .int .i64 (n : Int), .int .i64 al, aI q' p, Rv, Cv], [(.sl none n (fl f))], (mDc (n : Int) 0 0 .slnil .slnil 0 0)]) (.tup []) (H ++ [[aD x l, .int .i64 off, .int .i64 (n : Int), .int .i64 (n : Int), .int .i64 ld, aD q la, .int .i64 ao, .int .i64 (n : Int), .int .i64 (n : Int), .int .i64 al, aI q' p, Rv, Cv], [(.sl none n (fl f))], (mDc ((runM (zcw (mel la ao al) p rl cl n f) (zcx (mel la ao al) p rl cl n f) (M0 n) N).1.n : Int) ((runM (zcw (mel la ao al) p rl cl n f) (zcx (mel la ao al) p rl cl n f) (M0 n) N).1.st : Int) (runM (zcw (mel la ao al) p rl cl n f) (zcx (mel la ao al) p rl cl n f) (M0 n) N).1.est (.sl none n (fl (runM (zcw (mel la ao al) p rl cl n f) (zcx (mel la ao al) p rl cl n f) (M0 n) N).1.v)) (LV (runM (zcw (mel la ao al) p rl cl n f) (zcx (mel la ao al) p rl cl n f) (M0 n) N).1.s) ((runM (zcw (mel la ao al) p rl cl n f) (zcx (mel la ao al) p rl cl n f) (M0 n) N).1.j : Int) ((runM (zcw (mel la ao al) p rl cl n f) (zcx (mel la ao al) p rl cl n f) (M0 n) N).1.ct : Int))]) := by
  have h := z8k hn1 hn (fun y _ => by simp) (fun y _ => by simp) hR (H ++ [[aD x l, .int .i64 off, .int .i64 (n : Int), .int .i64 (n : Int), .int .i64 ld, aD q la, .int .i64 ao, .int .i64 (n : Int), .int .i64 (n : Int), .int .i64 al, aI q' p, Rv, Cv], [(.sl none n (fl f))]]) 67 71 [(.eptr (.slm (H.length + 0) 13 0 1 13) 0), (.eptr (.slm (H.length + 1) 1 0 1 1) 0)] [(.eptr (.slm (H.length + 1) 1 0 1 1) 0), (.eptr (.slm (H.length + 0) 13 0 1 13) 0)] (fun c B y hy => ?_) (fun c B y hy => ?_)
  · rw [zl0 hn1 (fun y _ => by simp) (fun y _ => by simp) hR] at h
    have e : mCe (M0 n) = (mDc (n : Int) 0 0 .slnil .slnil 0 0) := rfl
    rw [e] at h
    simpa [List.append_assoc] using h
  · have hGG : (H ++ [[aD x l, .int .i64 off, .int .i64 (n : Int), .int .i64 (n : Int), .int .i64 ld, aD q la, .int .i64 ao, .int .i64 (n : Int), .int .i64 (n : Int), .int .i64 al, aI q' p, Rv, Cv], [(.sl none n (fl f))]]) ++ [c] ++ (B ++ [fl y]) = ((H ++ [[aD x l, .int .i64 off, .int .i64 (n : Int), .int .i64 (n : Int), .int .i64 ld, aD q la, .int .i64 ao, .int .i64 (n : Int), .int .i64 (n : Int), .int .i64 al, aI q' p, Rv, Cv], [(.sl none n (fl f))]]) ++ [c] ++ B) ++ [fl y] := (List.append_assoc _ _ _).symm
    have hb9 : (H ++ [[aD x l, .int .i64 off, .int .i64 (n : Int), .int .i64 (n : Int), .int .i64 ld, aD q la, .int .i64 ao, .int .i64 (n : Int), .int .i64 (n : Int), .int .i64 al, aI q' p, Rv, Cv], [(.sl none n (fl f))]]).length + 1 + B.length = ((H ++ [[aD x l, .int .i64 off, .int .i64 (n : Int), .int .i64 (n : Int), .int .i64 ld, aD q la, .int .i64 ao, .int .i64 (n : Int), .int .i64 (n : Int), .int .i64 al, aI q' p, Rv, Cv], [(.sl none n (fl f))]]) ++ [c] ++ B).length := by simp; omega
    have hbx : ∀ (i : Nat) (c' : List AV), i < (H ++ [[aD x l, .int .i64 off, .int .i64 (n : Int), .int .i64 (n : Int), .int .i64 ld, aD q la, .int .i64 ao, .int .i64 (n : Int), .int .i64 (n : Int), .int .i64 al, aI q' p, Rv, Cv], [(.sl none n (fl f))]]).length → (((H ++ [[aD x l, .int .i64 off, .int .i64 (n : Int), .int .i64 (n : Int), .int .i64 ld, aD q la, .int .i64 ao, .int .i64 (n : Int), .int .i64 (n : Int), .int .i64 al, aI q' p, Rv, Cv], [(.sl none n (fl f))]]) ++ [c] ++ B ++ [fl y]).set ((H ++ [[aD x l, .int .i64 off, .int .i64 (n : Int), .int .i64 (n : Int), .int .i64 ld, aD q la, .int .i64 ao, .int .i64 (n : Int), .int .i64 (n : Int), .int .i64 al, aI q' p, Rv, Cv], [(.sl none n (fl f))]]).length + 1 + B.length) c')[i]? = (H ++ [[aD x l, .int .i64 off, .int .i64 (n : Int), .int .i64 (n : Int), .int .i64 ld, aD q la, .int .i64 ao, .int .i64 (n : Int), .int .i64 (n : Int), .int .i64 al, aI q' p, Rv, Cv], [(.sl none n (fl f))]])[i]? := fun i c' hi => by
      rw [List.append_assoc, List.append_assoc]; exact bx2 _ _ i hi _ (by omega) c'
    refine z9k ((H ++ [[aD x l, .int .i64 off, .int .i64 (n : Int), .int .i64 (n : Int), .int .i64 ld, aD q la, .int .i64 ao, .int .i64 (n : Int), .int .i64 (n : Int), .int .i64 al, aI q' p, Rv, Cv], [(.sl none n (fl f))]]) ++ [c] ++ B ++ [fl y]) x l off ld n hI hG q la ao al hJ hGa q' p hpl hpv Rv rl hRl Cv cl hCl hrl hcl hn1 hn hz ((H ++ [[aD x l, .int .i64 off, .int .i64 (n : Int), .int .i64 (n : Int), .int .i64 ld, aD q la, .int .i64 ao, .int .i64 (n : Int), .int .i64 (n : Int), .int .i64 al, aI q' p, Rv, Cv], [(.sl none n (fl f))]]).length + 1 + B.length) (by simp; omega) y hy (by simp; omega) (by simp; omega) f hf (H.length + 0) (H.length + 1) (fun c' => by rw [hbx _ _ (by simp)]; exact za9 rfl rfl) (fun c' => by rw [hbx _ _ (by simp)]; exact za9 rfl rfl) _ _ ?_ ?_
    · rw [zky _ _ hb9, hGG]
    · rw [zky _ _ hb9]; exact (List.append_assoc _ _ _)
  · have hGG : (H ++ [[aD x l, .int .i64 off, .int .i64 (n : Int), .int .i64 (n : Int), .int .i64 ld, aD q la, .int .i64 ao, .int .i64 (n : Int), .int .i64 (n : Int), .int .i64 al, aI q' p, Rv, Cv], [(.sl none n (fl f))]]) ++ [c] ++ (B ++ [fl y]) = ((H ++ [[aD x l, .int .i64 off, .int .i64 (n : Int), .int .i64 (n : Int), .int .i64 ld, aD q la, .int .i64 ao, .int .i64 (n : Int), .int .i64 (n : Int), .int .i64 al, aI q' p, Rv, Cv], [(.sl none n (fl f))]]) ++ [c] ++ B) ++ [fl y] := (List.append_assoc _ _ _).symm
    have hb9 : (H ++ [[aD x l, .int .i64 off, .int .i64 (n : Int), .int .i64 (n : Int), .int .i64 ld, aD q la, .int .i64 ao, .int .i64 (n : Int), .int .i64 (n : Int), .int .i64 al, aI q' p, Rv, Cv], [(.sl none n (fl f))]]).length + 1 + B.length = ((H ++ [[aD x l, .int .i64 off, .int .i64 (n : Int), .int .i64 (n : Int), .int .i64 ld, aD q la, .int .i64 ao, .int .i64 (n : Int), .int .i64 (n : Int), .int .i64 al, aI q' p, Rv, Cv], [(.sl none n (fl f))]]) ++ [c] ++ B).length := by simp; omega
    have hbx : ∀ (i : Nat) (c' : List AV), i < (H ++ [[aD x l, .int .i64 off, .int .i64 (n : Int), .int .i64 (n : Int), .int .i64 ld, aD q la, .int .i64 ao, .int .i64 (n : Int), .int .i64 (n : Int), .int .i64 al, aI q' p, Rv, Cv], [(.sl none n (fl f))]]).length → (((H ++ [[aD x l, .int .i64 off, .int .i64 (n : Int), .int .i64 (n : Int), .int .i64 ld, aD q la, .int .i64 ao, .int .i64 (n : Int), .int .i64 (n : Int), .int .i64 al, aI q' p, Rv, Cv], [(.sl none n (fl f))]]) ++ [c] ++ B ++ [fl y]).set ((H ++ [[aD x l, .int .i64 off, .int .i64 (n : Int), .int .i64 (n : Int), .int .i64 ld, aD q la, .int .i64 ao, .int .i64 (n : Int), .int .i64 (n : Int), .int .i64 al, aI q' p, Rv, Cv], [(.sl none n (fl f))]]).length + 1 + B.length) c')[i]? = (H ++ [[aD x l, .int .i64 off, .int .i64 (n : Int), .int .i64 (n : Int), .int .i64 ld, aD q la, .int .i64 ao, .int .i64 (n : Int), .int .i64 (n : Int), .int .i64 al, aI q' p, Rv, Cv], [(.sl none n (fl f))]])[i]? := fun i c' hi => by
      rw [List.append_assoc, List.append_assoc]; exact bx2 _ _ i hi _ (by omega) c'
    refine z9l ((H ++ [[aD x l, .int .i64 off, .int .i64 (n : Int), .int .i64 (n : Int), .int .i64 ld, aD q la, .int .i64 ao, .int .i64 (n : Int), .int .i64 (n : Int), .int .i64 al, aI q' p, Rv, Cv], [(.sl none n (fl f))]]) ++ [c] ++ B ++ [fl y]) x l off ld n hI hG q la ao al hJ hGa q' p hpl hpv Rv rl hRl Cv cl hCl hrl hcl hn1 hn hz ((H ++ [[aD x l, .int .i64 off, .int .i64 (n : Int), .int .i64 (n : Int), .int .i64 ld, aD q la, .int .i64 ao, .int .i64 (n : Int), .int .i64 (n : Int), .int .i64 al, aI q' p, Rv, Cv], [(.sl none n (fl f))]]).length + 1 + B.length) (by simp; omega) y hy (by simp; omega) (by simp; omega) f hf (H.length + 0) (H.length + 1) (fun c' => by rw [hbx _ _ (by simp)]; exact za9 rfl rfl) (fun c' => by rw [hbx _ _ (by simp)]; exact za9 rfl rfl) _ _ ?_ ?_
    · rw [zky _ _ hb9, hGG]
    · rw [zky _ _ hb9]; exact (List.append_assoc _ _ _)
attribute [local irreducible] Ex za3 exD opX opE zca zd3 zd4 Spec zaa Fr zb9 zbb zba ckK zb8 zb6 zbu faK zb4 zd1 gK fK rK zeq lpX prK
theorem zkt :
    (∀ (H : List (List AV)) (c0 c1 c2 c3 c4 c5 c6 c7 c8 c9 c10 Rv Cv : AV) (hRc : AV.cells Rv = some [Rv]) (hCc : AV.cells Cv = some [Cv]) (X Bv : AV) (e : Int) (he : e ≠ 0) (hck : ∀ N, zaa Tryz.prog 64 [.agg [c0, c1, c2, c3, c4, c5, c6, c7, c8, c9, c10, Rv, Cv], X, Bv] (H ++ N) (.int .i64 e) (H ++ N)), zaa Tryz.prog 21 [.agg [c0, c1, c2, c3, c4, c5, c6, c7, c8, c9, c10, Rv, Cv], X, Bv] H (.tup [.flt 0, .int .i64 e]) H) ∧
    (∀ (H : List (List AV)) (x : Nat × Nat) (l : List Nat) (off ld : Int) (n : Nat) (hI : MI l.length off n n ld) (hG : zaz l.length off n n ld) (q : Nat × Nat) (la : List Nat) (ao al : Int) (hJ : MI la.length ao n n al) (hGa : zaz la.length ao n n al) (q' : Nat × Nat) (p : List Int) (hpl : p.length = n) (hpv : zdx p) (Rv : AV) (rl : List Int) (hRl : ∀ H, IL H Rv rl) (Cv : AV) (cl : List Int) (hCl : ∀ H, IL H Cv cl) (hrl : rl.length = n) (hcl : cl.length = n) (hn1 : 1 ≤ n) (hn : n ≤ 64) (hz : ∀ k, k < n → feq ((mel la ao al) k k) 0 = false) (X : AV) (xl : List Nat) (hX : ∀ H', FL (H ++ H') X xl) (hxl : xl.length = n) (B : AV) (bl : List Nat) (hB : ∀ H', FL (H ++ H') B bl) (hbl : bl.length = n) (hRm : mx Rv ≤ H.length) (hCm : mx Cv ≤ H.length) (N : Nat) (hR : REnd (zcw (mel la ao al) p rl cl n (fbL (mel l off ld) xl bl n)) (zcx (mel la ao al) p rl cl n (fbL (mel l off ld) xl bl n)) (M0 n) N), zaa Tryz.prog 21 [(.agg [aD x l, .int .i64 off, .int .i64 (n : Int), .int .i64 (n : Int), .int .i64 ld, aD q la, .int .i64 ao, .int .i64 (n : Int), .int .i64 (n : Int), .int .i64 al, aI q' p, Rv, Cv]), X, B] H (.tup [.flt (runM (zcw (mel la ao al) p rl cl n (fbL (mel l off ld) xl bl n)) (zcx (mel la ao al) p rl cl n (fbL (mel l off ld) xl bl n)) (M0 n) N).1.est, .int .i64 0]) H) := by
  refine ⟨?_, ?_⟩
  (intro H c0 c1 c2 c3 c4 c5 c6 c7 c8 c9 c10 Rv Cv hRc hCc X Bv e he hck
   refine .go Tryz.call21 Tryz.func21 true [] dOk ?_
   simp only [za0, Nat.reduceAdd])
  rotate_left
  (intro H x l off ld n hI hG q la ao al hJ hGa q' p hpl hpv Rv rl hRl Cv cl hCl hrl hcl hn1 hn hz X xl hX hxl B bl hB hbl hRm hCm N hR
   refine .go Tryz.call21 Tryz.func21 true [] dOk ?_
   simp only [za0, Nat.reduceAdd])
  rotate_left
  all_goals (repeat' (first
 |(refine zav ?_; (first | refine zbd ?_ | refine zao ?_ | fail))
 |(refine zaw ?_; (first | refine m14 ?_ | (refine m17 ?_; first | refine m19 ?_ | refine m18 ?_) | (refine m07 ?_; (first | refine m15 ?_ | refine m16 ?_ | refine zus (by exact rfl) (by exact rfl) (by exact rfl) (by exact rfl) ?_ | refine zsp (by exact rfl) (by exact rfl) (by exact rfl) (by exact rfl) ?_ | fail)) | refine zex (by (conv => {lhs; whnf}); done) (by exact rfl) (by exact rfl) (by exact rfl) (by (conv => {lhs; whnf}); done) (by (conv => {lhs; simp only [List.nil_append, List.cons_append]}); done) ?_ | refine zjn ?_ | refine zki (by exact rfl) (by exact rfl) (by exact rfl) (by (conv => {lhs; whnf}); done) ?_ | refine zxg (by (conv => {lhs; whnf}); done) (by (conv => {lhs; whnf}); done) (by exact rfl) (by exact rfl) (by exact rfl) (by exact rfl) (by exact rfl) (by exact rfl) (by exact rfl) (by (conv => {lhs; simp only [List.set_cons_zero, List.set_cons_succ]}); done) ?_ | (refine m00 ?_; (first | refine m54 ?_ | refine m55 ?_ | refine zbx ?_ | refine m49 ?_ | refine m50 ?_ | refine v_k ?_ | refine m51 ?_ | fail)) | refine m42 ?_ | refine zab ?_ | refine zac ?_ | refine m08 ?_ | refine zaj ?_ | refine m23 ?_ | refine m25 ?_ | refine m01 ?_ | refine m24 ?_ | fail))
 |refine zat ?_ | refine zau ?_ | refine zas ?_
 |(refine zax ?_; (first | refine zar ?_ | refine zad ?_ | (refine m06 ?_; (first | refine c_T ?_ | refine c_F ?_ | refine c_P ?_ ?_ | refine c_B ?_ ?_ | fail)) | refine zaq ?_ | refine zah ?_ | refine zae ?_ | refine b_exit ?_ | fail))
 |refine m21 ?_
 |refine za4 ?_
 |(refine za5 ?_; (first | refine cA (hck _) ?_ | refine cA (z9n _ x l off ld n hI hG q la ao al hJ hGa q' p hpl hpv Rv rl hRl Cv cl hCl hrl hcl hn1 hn hz X n (by rw [(hX []).len, hxl]) B n (by rw [(hB []).len, hbl]) (by exact rfl) rfl) ?_ | refine cA (z5v _ (aD x l) l (zce _ x l) off ld n hI hG hn X xl (hX _) hxl B bl (hB _) hbl) ?_ | refine cA (zu7 _ n _ (zmf (mel l off ld) xl bl n) (FLz _ _ _ (zg6 _ _ _ _)) (zg6 _ _ _ _) _ (wtL (mel l off ld) xl bl n) (FLz _ _ _ (zlh _ _ _ _)) (zlh _ _ _ _) hn) ?_ | refine cA (z96 _ n hn1 hn _ (by (conv => {lhs; simp only [List.append_assoc, List.cons_append, List.nil_append]}); done) _ (by (conv => {lhs; simp only [List.length_append, List.length_cons, List.length_nil, List.length_set, Nat.reduceAdd, Nat.zero_add]}); done)) ?_ | refine cA (zzr H x l off ld n hI hG q la ao al hJ hGa q' p hpl hpv Rv rl hRl Cv cl hCl hrl hcl hn1 hn hz hRm hCm (fbL (mel l off ld) xl bl n) (zlo _ _ _) N hR) ?_ | refine cA (z9d _ (H.length + 2) _ _ _ _ _ _ _ (za9 (j := 2) (by exact rfl) rfl)) ?_ | fail))
 |refine m44 ?_
 |refine m40 ?_
 |(refine zbc (by (conv => {lhs; simp only [List.nil_append, List.cons_append]}); done) ?_; first | refine ⟨by exact rfl, ?_⟩ | skip)
 |refine zbt ?_
 |(intro N' hN'; simp only [List.nil_append, List.cons_append] at hN'; subst hN')
 |refine m05 ?_
 |refine m04 ?_ | refine m02 ?_ | refine m03 ?_ | refine zai ?_
 |intro _))
  all_goals first
    | (exfalso; contradiction)
    | (exfalso; omega)
    | (exfalso; simp_all; done)
    | (refine zal rfl (by first | (simp [mx, mxL, zaf, aOf, zbn]; done) | fail) ?_; exact rfl)
    | (refine zal rfl (by first | (simp [mx, mxL, zak, zaf]; done) | fail) ?_; exact rfl)
theorem zjs : type_of% @zkt.1 := @zkt.1
theorem zvi : type_of% @zkt.2 := @zkt.2
theorem z5w (H : List (List AV)) (A1 A2 Pv Rv Cv : AV) (hPc : AV.cells Pv = some [Pv]) (hRc : AV.cells Rv = some [Rv]) (hCc : AV.cells Cv = some [Cv]) (hA1c : AV.cells A1 = some [A1]) (hA2c : AV.cells A2 = some [A2]) (n : Nat) (X Bv RLv WLv Fv : AV) (yV : Nat → AV) (kd : Nat → Int) (Mc : Nat → List AV) (T1 T2 Z1 Z2 : Nat → AV) (N : Nat) (hrest : ∀ N, zaa Tryz.prog 25 [mM A1 n n, X, Bv] (H ++ N) (.tup [RLv, WLv]) (H ++ N)) (hbnd : ∀ N, zaa Tryz.prog 26 [RLv, WLv] (H ++ N) Fv (H ++ N)) (h0 : zaa Tryz.prog 57 [mP (H.length + 1), .slnil] (H ++ [[.int .i64 (n : Int), .int .i64 (n : Int), A1, .int .i64 (n : Int), .int .i64 (n : Int), A2, Pv, Rv, Cv], (mDc (n : Int) 0 0 .slnil .slnil 0 0)]) (.tup [yV 0, .int .i64 (kd 0)]) (H ++ [[.int .i64 (n : Int), .int .i64 (n : Int), A1, .int .i64 (n : Int), .int .i64 (n : Int), A2, Pv, Rv, Cv], Mc 0])) (hpos : ∀ k, k < N → 0 < kd k) (hz : kd N = 0) (hst : ∀ k, k < N → zaa Tryz.prog 77 [.agg [.int .i64 (n : Int), .int .i64 (n : Int), A1, .int .i64 (n : Int), .int .i64 (n : Int), A2, Pv, Rv, Cv], yV k] (H ++ [[.int .i64 (n : Int), .int .i64 (n : Int), A1, .int .i64 (n : Int), .int .i64 (n : Int), A2, Pv, Rv, Cv], Mc k]) (T1 k) (H ++ [[.int .i64 (n : Int), .int .i64 (n : Int), A1, .int .i64 (n : Int), .int .i64 (n : Int), A2, Pv, Rv, Cv], Mc k])) (ht1 : ∀ k, k < N → zaa Tryz.prog 76 [T1 k, Fv] (H ++ [[.int .i64 (n : Int), .int .i64 (n : Int), A1, .int .i64 (n : Int), .int .i64 (n : Int), A2, Pv, Rv, Cv], Mc k]) (Z1 k) (H ++ [[.int .i64 (n : Int), .int .i64 (n : Int), A1, .int .i64 (n : Int), .int .i64 (n : Int), A2, Pv, Rv, Cv], Mc k])) (ht2 : ∀ k, k < N → kd k = 2 → zaa Tryz.prog 76 [yV k, Fv] (H ++ [[.int .i64 (n : Int), .int .i64 (n : Int), A1, .int .i64 (n : Int), .int .i64 (n : Int), A2, Pv, Rv, Cv], Mc k]) (T2 k) (H ++ [[.int .i64 (n : Int), .int .i64 (n : Int), A1, .int .i64 (n : Int), .int .i64 (n : Int), A2, Pv, Rv, Cv], Mc k])) (hsv : ∀ k, k < N → kd k = 2 → zaa Tryz.prog 78 [.agg [.int .i64 (n : Int), .int .i64 (n : Int), A1, .int .i64 (n : Int), .int .i64 (n : Int), A2, Pv, Rv, Cv], T2 k] (H ++ [[.int .i64 (n : Int), .int .i64 (n : Int), A1, .int .i64 (n : Int), .int .i64 (n : Int), A2, Pv, Rv, Cv], Mc k]) (Z2 k) (H ++ [[.int .i64 (n : Int), .int .i64 (n : Int), A1, .int .i64 (n : Int), .int .i64 (n : Int), A2, Pv, Rv, Cv], Mc k])) (hn1 : ∀ k, k < N → kd k ≠ 2 → zaa Tryz.prog 57 [mP (H.length + 1), Z1 k] (H ++ [[.int .i64 (n : Int), .int .i64 (n : Int), A1, .int .i64 (n : Int), .int .i64 (n : Int), A2, Pv, Rv, Cv], Mc k]) (.tup [yV (k + 1), .int .i64 (kd (k + 1))]) (H ++ [[.int .i64 (n : Int), .int .i64 (n : Int), A1, .int .i64 (n : Int), .int .i64 (n : Int), A2, Pv, Rv, Cv], Mc (k + 1)])) (hn2 : ∀ k, k < N → kd k = 2 → zaa Tryz.prog 57 [mP (H.length + 1), Z2 k] (H ++ [[.int .i64 (n : Int), .int .i64 (n : Int), A1, .int .i64 (n : Int), .int .i64 (n : Int), A2, Pv, Rv, Cv], Mc k]) (.tup [yV (k + 1), .int .i64 (kd (k + 1))]) (H ++ [[.int .i64 (n : Int), .int .i64 (n : Int), A1, .int .i64 (n : Int), .int .i64 (n : Int), A2, Pv, Rv, Cv], Mc (k + 1)])) (n9 st : Int) (est : Nat) (V S9 : AV) (j9 ct9 : Int) (hfin : Mc N = mDc n9 st est V S9 j9 ct9) :
    zaa Tryz.prog 23 [.agg [.int .i64 (n : Int), .int .i64 (n : Int), A1, .int .i64 (n : Int), .int .i64 (n : Int), A2, Pv, Rv, Cv], X, Bv] H (.flt est) H := by
  refine .go Tryz.call23 Tryz.func23 true [] dOk ?_
  simp only [za0, Nat.reduceAdd]
  repeat' (first
 |(refine zav ?_; (first | refine zbd ?_ | refine zao ?_ | fail))
 |(refine zaw ?_; (first | refine m14 ?_ | (refine m17 ?_; first | refine m19 ?_ | refine m18 ?_) | (refine m07 ?_; (first | refine m15 ?_ | refine m16 ?_ | refine zus (by exact rfl) (by exact rfl) (by exact rfl) (by exact rfl) ?_ | refine zsp (by exact rfl) (by exact rfl) (by exact rfl) (by exact rfl) ?_ | refine zsp (j := 1) (cs := mDc n9 st est V S9 j9 ct9) (by exact rfl) (by rw [← hfin]; rfl) (by exact rfl) (by exact rfl) ?_ | fail)) | refine zc3 (by (conv => {lhs; whnf}); done) ?_ | refine zex (by (conv => {lhs; whnf}); done) (by exact rfl) (by exact rfl) (by exact rfl) (by (conv => {lhs; whnf}); done) (by (conv => {lhs; simp only [List.nil_append, List.cons_append]}); done) ?_ | refine zjn ?_ | (refine m45 ?_; (first | refine v_T (by have := hpos k hk; omega) ?_ | refine zb3 (by exact rfl) ?_ | refine v_k ?_ | fail)) | (refine m00 ?_; (first | refine v_T (by have := hpos k hk; omega) ?_ | refine m52 ?_ | refine m53 ?_ | refine zc7 ?_ | refine m47 ?_ | refine m48 ?_ | refine m49 ?_ | refine m50 ?_ | refine v_k ?_ | refine m51 ?_ | fail)) | refine m42 ?_ | refine zab ?_ | refine zac ?_ | refine m08 ?_ | refine zaj ?_ | refine m23 ?_ | refine m01 ?_ | refine zc9 ?_ | fail))
 |(refine zch ?_; (first | refine m36 ?_ | refine zcf ?_ | fail))
 |(refine zcg ?_; (first | refine zev ?_ | refine zfv ?_ | refine zfw (by (conv => {lhs; whnf}); done) ?_ | refine zfx ?_ | refine zfu (by exact rfl) (by exact rfl) ?_ | refine m34 ?_ | refine m35 ?_ | refine m33 ?_ | refine zew ?_ | refine m56 ?_ | refine zci ?_ | refine zc1 (by exact rfl) ?_ | fail))
 |refine zat ?_ | refine zau ?_ | refine zas ?_
 |(refine zax ?_; (first | refine zar ?_ | refine zad ?_ | (refine m06 ?_; (first | refine c_T ?_ | refine c_F ?_ | refine c_P ?_ ?_ | refine c_B ?_ ?_ | fail)) | refine zaq ?_ | refine zah ?_ | refine zae ?_ | refine b_exit ?_ | refine zan (id := 8) [] [] [(0, .ld true), (1, .lt), (2, .lt), (3, .mn true), (4, .mn true), (5, .lt)] (by kernel_rfl) ?_ | (refine za1 [3, 9, 10, 11, 12] N (fun k => ⟨[(3, .val (.eptr (.slm (H.length + 0) 9 0 1 9) 0)), (9, .val Fv), (10, .val (mP (H.length + 1))), (11, .val (yV k)), (12, .val (.int .i64 (kd k)))], [], H ++ [[.int .i64 (n : Int), .int .i64 (n : Int), A1, .int .i64 (n : Int), .int .i64 (n : Int), A2, Pv, Rv, Cv], Mc k]⟩) (by exact rfl) ?_ ?_ <;> (first | intro k hk K hK | intro K) <;> (try dsimp only at *)) | fail))
 |refine m43 ?_
 |refine zbv ?_
 |refine m21 ?_
 |refine za4 ?_
 |(refine za5 ?_; (first | refine cA (hrest _) ?_ | refine cA (hbnd _) ?_ | refine c_call h0 (zbk.app (by simp)) ?_ | refine cA (hst k hk) ?_ | refine cA (ht1 k hk) ?_ | refine cA (ht2 k hk (by omega)) ?_ | refine cA (hsv k hk (by omega)) ?_ | refine cA (hn1 k hk (by omega)) ?_ | refine cA (hn2 k hk (by omega)) ?_ | fail))
 |refine m58 ?_
 |refine zd8 ?_
 |refine zbh ?_ | refine zbi ?_ | refine zbg ?_ | refine m57 ?_
 |refine zdp ?_ | refine zdq ?_ | refine zdo ?_
 |(refine zdr (by exact rfl) ?_; first | exact hK | fail | (exfalso; first | omega | (simp_all; done) | (simp_all; omega)))
 |refine m05 ?_
 |refine m04 ?_ | refine m02 ?_ | refine m03 ?_ | refine zai ?_
 |intro _)
  all_goals first
    | (exfalso; have := hpos k hk; omega)
    | (exfalso; omega)
    | (refine zal rfl (by simp [mx, mxL, zaf]) ?_; exact rfl)
end Go.Sx
set_option linter.unusedVariables false
set_option linter.unusedSimpArgs false
set_option maxRecDepth 20000
namespace Go.Sx
open Go.Proofs
theorem zo0 (H : List (List AV)) (x : Nat × Nat) (l : List Nat) (off ld : Int) (n : Nat) (hI : MI l.length off n n ld) (hG : zaz l.length off n n ld) (q : Nat × Nat) (la : List Nat) (ao al : Int) (hJ : MI la.length ao n n al) (hGa : zaz la.length ao n n al) (q' : Nat × Nat) (p : List Int) (hpl : p.length = n) (hpv : zdx p) (Rv : AV) (rl : List Int) (hRl : ∀ H, IL H Rv rl) (Cv : AV) (cl : List Int) (hCl : ∀ H, IL H Cv cl) (hrl : rl.length = n) (hcl : cl.length = n) (hn1 : 1 ≤ n) (hn : n ≤ 64) (hz : ∀ k, k < n → feq ((mel la ao al) k k) 0 = false) (hRc : AV.cells Rv = some [Rv]) (hCc : AV.cells Cv = some [Cv]) (X : AV) (xl : List Nat) (hX : ∀ H', FL (H ++ H') X xl) (hxl : xl.length = n) (B : AV) (bl : List Nat) (hB : ∀ H', FL (H ++ H') B bl) (hbl : bl.length = n) (N : Nat) (hR : REnd (zcw (mel la ao al) p rl cl n (fbL (mel l off ld) xl bl n)) (zcx (mel la ao al) p rl cl n (fbL (mel l off ld) xl bl n)) (M0 n) N) : zaa Tryz.prog 23 [(.agg [.int .i64 (n : Int), .int .i64 (n : Int), .sl none (n * n) (fl (rmA (mel l off ld) n n)), .int .i64 (n : Int), .int .i64 (n : Int), .sl none (n * n) (fl (rmA (mel la ao al) n n)), aI q' p, Rv, Cv]), X, B] H (.flt (runM (zcw (mel la ao al) p rl cl n (fbL (mel l off ld) xl bl n)) (zcx (mel la ao al) p rl cl n (fbL (mel l off ld) xl bl n)) (M0 n) N).1.est) H := by
  have hf1 : ∀ y : List Nat, y.length = n → ((zcw (mel la ao al) p rl cl n (fbL (mel l off ld) xl bl n)) y).length = n := fun y _ => by simp
  have hf2 : ∀ y : List Nat, y.length = n → ((zcx (mel la ao al) p rl cl n (fbL (mel l off ld) xl bl n)) y).length = n := fun y _ => by simp
  have hne : ∀ k, k < N → (runM (zcw (mel la ao al) p rl cl n (fbL (mel l off ld) xl bl n)) (zcx (mel la ao al) p rl cl n (fbL (mel l off ld) xl bl n)) (M0 n) k).2.2 ≠ 0 := fun k hk => by
    obtain ⟨b1, _⟩ := hR.st k hk; omega
  have hfb : (fbL (mel l off ld) xl bl n).length = n := zlo _ _ _
  refine z5w H (.sl none (n * n) (fl (rmA (mel l off ld) n n))) (.sl none (n * n) (fl (rmA (mel la ao al) n n))) (aI q' p) Rv Cv (by unfold aI; split <;> rfl) hRc hCc rfl rfl n X B (.sl none n (fl (zmf (mel l off ld) xl bl n))) (.sl none n (fl (wtL (mel l off ld) xl bl n))) (.sl none n (fl (fbL (mel l off ld) xl bl n))) (fun k => if (runM (zcw (mel la ao al) p rl cl n (fbL (mel l off ld) xl bl n)) (zcx (mel la ao al) p rl cl n (fbL (mel l off ld) xl bl n)) (M0 n) k).2.2 = 0 then .slnil else .sl none n (fl (runM (zcw (mel la ao al) p rl cl n (fbL (mel l off ld) xl bl n)) (zcx (mel la ao al) p rl cl n (fbL (mel l off ld) xl bl n)) (M0 n) k).2.1)) (fun k => (runM (zcw (mel la ao al) p rl cl n (fbL (mel l off ld) xl bl n)) (zcx (mel la ao al) p rl cl n (fbL (mel l off ld) xl bl n)) (M0 n) k).2.2) (fun k => mCe (runM (zcw (mel la ao al) p rl cl n (fbL (mel l off ld) xl bl n)) (zcx (mel la ao al) p rl cl n (fbL (mel l off ld) xl bl n)) (M0 n) k).1) (fun k => .sl none n (fl (zww (mel la ao al) p rl cl n (runM (zcw (mel la ao al) p rl cl n (fbL (mel l off ld) xl bl n)) (zcx (mel la ao al) p rl cl n (fbL (mel l off ld) xl bl n)) (M0 n) k).2.1))) (fun k => .sl none n (fl (mulL (runM (zcw (mel la ao al) p rl cl n (fbL (mel l off ld) xl bl n)) (zcx (mel la ao al) p rl cl n (fbL (mel l off ld) xl bl n)) (M0 n) k).2.1 (fbL (mel l off ld) xl bl n) n))) (fun k => .sl none n (fl ((zcw (mel la ao al) p rl cl n (fbL (mel l off ld) xl bl n)) (runM (zcw (mel la ao al) p rl cl n (fbL (mel l off ld) xl bl n)) (zcx (mel la ao al) p rl cl n (fbL (mel l off ld) xl bl n)) (M0 n) k).2.1))) (fun k => .sl none n (fl ((zcx (mel la ao al) p rl cl n (fbL (mel l off ld) xl bl n)) (runM (zcw (mel la ao al) p rl cl n (fbL (mel l off ld) xl bl n)) (zcx (mel la ao al) p rl cl n (fbL (mel l off ld) xl bl n)) (M0 n) k).2.1))) N ?_ ?_ ?_ ?_ hR.z ?_ ?_ ?_ ?_ ?_ ?_ _ _ _ _ _ _ _ (zl0 hn1 hf1 hf2 hR)
  · intro M9
    exact z04 _ _ (mel l off ld) n (FLz _ _ _ (by simp)) hn1 hn X xl (hX _) hxl B bl (hB _) hbl
  · intro M9
    exact ztq _ n _ (zmf (mel l off ld) xl bl n) (FLz _ _ _ (zg6 _ _ _ _)) (zg6 _ _ _ _) _ (wtL (mel l off ld) xl bl n) (FLz _ _ _ (zlh _ _ _ _)) (zlh _ _ _ _) hn
  · have h := z03 (H ++ [[.int .i64 (n : Int), .int .i64 (n : Int), .sl none (n * n) (fl (rmA (mel l off ld) n n)), .int .i64 (n : Int), .int .i64 (n : Int), .sl none (n * n) (fl (rmA (mel la ao al) n n)), aI q' p, Rv, Cv], (mDc (n : Int) 0 0 .slnil .slnil 0 0)]) (H.length + 1) (by simp) (M0 n) hn1 hn rfl _ _ (zhn H _ _ _) rfl
    rw [zhn] at h
    show zaa Tryz.prog 57 [mP (H.length + 1), .slnil] _ (.tup [if (nxt (M0 n) []).2.2 = 0 then .slnil else .sl none n (fl (nxt (M0 n) []).2.1), .int .i64 (nxt (M0 n) []).2.2]) (H ++ [[.int .i64 (n : Int), .int .i64 (n : Int), .sl none (n * n) (fl (rmA (mel l off ld) n n)), .int .i64 (n : Int), .int .i64 (n : Int), .sl none (n * n) (fl (rmA (mel la ao al) n n)), aI q' p, Rv, Cv], mCe (nxt (M0 n) []).1])
    have hne0 : (nxt (M0 n) []).2.2 ≠ 0 := hne 0 hR.pos
    rw [if_neg hne0]
    exact h
  · intro k hk
    obtain ⟨b1, _⟩ := hR.st k hk
    show 0 < (runM (zcw (mel la ao al) p rl cl n (fbL (mel l off ld) xl bl n)) (zcx (mel la ao al) p rl cl n (fbL (mel l off ld) xl bl n)) (M0 n) k).2.2
    omega
  · intro k hk
    obtain ⟨_, b2, _⟩ := hR.st k hk
    show zaa Tryz.prog 77 [(.agg [.int .i64 (n : Int), .int .i64 (n : Int), .sl none (n * n) (fl (rmA (mel l off ld) n n)), .int .i64 (n : Int), .int .i64 (n : Int), .sl none (n * n) (fl (rmA (mel la ao al) n n)), aI q' p, Rv, Cv]), if (runM (zcw (mel la ao al) p rl cl n (fbL (mel l off ld) xl bl n)) (zcx (mel la ao al) p rl cl n (fbL (mel l off ld) xl bl n)) (M0 n) k).2.2 = 0 then .slnil else .sl none n (fl (runM (zcw (mel la ao al) p rl cl n (fbL (mel l off ld) xl bl n)) (zcx (mel la ao al) p rl cl n (fbL (mel l off ld) xl bl n)) (M0 n) k).2.1)] _ _ _
    rw [if_neg (hne k hk)]
    exact qaj _ x l off ld n hI hG q la ao al hJ hGa q' p hpl hpv Rv rl hRl Cv cl hCl hrl hcl hn1 hn hz _ (runM (zcw (mel la ao al) p rl cl n (fbL (mel l off ld) xl bl n)) (zcx (mel la ao al) p rl cl n (fbL (mel l off ld) xl bl n)) (M0 n) k).2.1 (fun H9 => FLz _ _ _ b2) b2
  · intro k hk
    exact zo5 _ _ n hn (zww (mel la ao al) p rl cl n (runM (zcw (mel la ao al) p rl cl n (fbL (mel l off ld) xl bl n)) (zcx (mel la ao al) p rl cl n (fbL (mel l off ld) xl bl n)) (M0 n) k).2.1) (zlc _ _ _ _ _ _) (FLz _ _ _ (zlc _ _ _ _ _ _)) _ (fbL (mel l off ld) xl bl n) hfb (FLz _ _ _ hfb)
  · intro k hk _
    obtain ⟨_, b2, _⟩ := hR.st k hk
    show zaa Tryz.prog 76 [if (runM (zcw (mel la ao al) p rl cl n (fbL (mel l off ld) xl bl n)) (zcx (mel la ao al) p rl cl n (fbL (mel l off ld) xl bl n)) (M0 n) k).2.2 = 0 then .slnil else .sl none n (fl (runM (zcw (mel la ao al) p rl cl n (fbL (mel l off ld) xl bl n)) (zcx (mel la ao al) p rl cl n (fbL (mel l off ld) xl bl n)) (M0 n) k).2.1), _] _ _ _
    rw [if_neg (hne k hk)]
    exact zo5 _ _ n hn (runM (zcw (mel la ao al) p rl cl n (fbL (mel l off ld) xl bl n)) (zcx (mel la ao al) p rl cl n (fbL (mel l off ld) xl bl n)) (M0 n) k).2.1 b2 (FLz _ _ _ b2) _ (fbL (mel l off ld) xl bl n) hfb (FLz _ _ _ hfb)
  · intro k hk _
    exact qak _ x l off ld n hI hG q la ao al hJ hGa q' p hpl hpv Rv rl hRl Cv cl hCl hrl hcl hn1 hn hz _ (mulL (runM (zcw (mel la ao al) p rl cl n (fbL (mel l off ld) xl bl n)) (zcx (mel la ao al) p rl cl n (fbL (mel l off ld) xl bl n)) (M0 n) k).2.1 (fbL (mel l off ld) xl bl n) n) (fun H9 => FLz _ _ _ (zf7 _ _ _)) (zf7 _ _ _)
  · intro k hk h2
    obtain ⟨b1, b2, b3, b4, b5, b6⟩ := hR.st k hk
    have hp : prM (zcw (mel la ao al) p rl cl n (fbL (mel l off ld) xl bl n)) (zcx (mel la ao al) p rl cl n (fbL (mel l off ld) xl bl n)) (runM (zcw (mel la ao al) p rl cl n (fbL (mel l off ld) xl bl n)) (zcx (mel la ao al) p rl cl n (fbL (mel l off ld) xl bl n)) (M0 n) k) = (zcw (mel la ao al) p rl cl n (fbL (mel l off ld) xl bl n)) (runM (zcw (mel la ao al) p rl cl n (fbL (mel l off ld) xl bl n)) (zcx (mel la ao al) p rl cl n (fbL (mel l off ld) xl bl n)) (M0 n) k).2.1 := if_neg h2
    have h := ztw (H ++ [[.int .i64 (n : Int), .int .i64 (n : Int), .sl none (n * n) (fl (rmA (mel l off ld) n n)), .int .i64 (n : Int), .int .i64 (n : Int), .sl none (n * n) (fl (rmA (mel la ao al) n n)), aI q' p, Rv, Cv], mCe (runM (zcw (mel la ao al) p rl cl n (fbL (mel l off ld) xl bl n)) (zcx (mel la ao al) p rl cl n (fbL (mel l off ld) xl bl n)) (M0 n) k).1]) (H.length + 1) (by simp) (runM (zcw (mel la ao al) p rl cl n (fbL (mel l off ld) xl bl n)) (zcx (mel la ao al) p rl cl n (fbL (mel l off ld) xl bl n)) (M0 n) k).1 b4 b6 b5 (by have := b4.sl; have := b4.n64; omega) (.sl none n (fl ((zcw (mel la ao al) p rl cl n (fbL (mel l off ld) xl bl n)) (runM (zcw (mel la ao al) p rl cl n (fbL (mel l off ld) xl bl n)) (zcx (mel la ao al) p rl cl n (fbL (mel l off ld) xl bl n)) (M0 n) k).2.1))) ((zcw (mel la ao al) p rl cl n (fbL (mel l off ld) xl bl n)) (runM (zcw (mel la ao al) p rl cl n (fbL (mel l off ld) xl bl n)) (zcx (mel la ao al) p rl cl n (fbL (mel l off ld) xl bl n)) (M0 n) k).2.1) (fun H' => FLz _ _ _ (by simp)) (by rw [b3]; simp; rfl) _ _ (zhn H _ _ _) rfl
    have er : nxt (runM (zcw (mel la ao al) p rl cl n (fbL (mel l off ld) xl bl n)) (zcx (mel la ao al) p rl cl n (fbL (mel l off ld) xl bl n)) (M0 n) k).1 ((zcw (mel la ao al) p rl cl n (fbL (mel l off ld) xl bl n)) (runM (zcw (mel la ao al) p rl cl n (fbL (mel l off ld) xl bl n)) (zcx (mel la ao al) p rl cl n (fbL (mel l off ld) xl bl n)) (M0 n) k).2.1) = (runM (zcw (mel la ao al) p rl cl n (fbL (mel l off ld) xl bl n)) (zcx (mel la ao al) p rl cl n (fbL (mel l off ld) xl bl n)) (M0 n) (k + 1)) := by rw [← hp]; rfl
    rw [er, zhn, show (runM (zcw (mel la ao al) p rl cl n (fbL (mel l off ld) xl bl n)) (zcx (mel la ao al) p rl cl n (fbL (mel l off ld) xl bl n)) (M0 n) k).1.n = n from b3] at h
    show zaa Tryz.prog 57 [mP (H.length + 1), .sl none n (fl ((zcw (mel la ao al) p rl cl n (fbL (mel l off ld) xl bl n)) (runM (zcw (mel la ao al) p rl cl n (fbL (mel l off ld) xl bl n)) (zcx (mel la ao al) p rl cl n (fbL (mel l off ld) xl bl n)) (M0 n) k).2.1))] _ (.tup [if (runM (zcw (mel la ao al) p rl cl n (fbL (mel l off ld) xl bl n)) (zcx (mel la ao al) p rl cl n (fbL (mel l off ld) xl bl n)) (M0 n) (k + 1)).2.2 = 0 then .slnil else .sl none n (fl (runM (zcw (mel la ao al) p rl cl n (fbL (mel l off ld) xl bl n)) (zcx (mel la ao al) p rl cl n (fbL (mel l off ld) xl bl n)) (M0 n) (k + 1)).2.1), .int .i64 (runM (zcw (mel la ao al) p rl cl n (fbL (mel l off ld) xl bl n)) (zcx (mel la ao al) p rl cl n (fbL (mel l off ld) xl bl n)) (M0 n) (k + 1)).2.2]) (H ++ [[.int .i64 (n : Int), .int .i64 (n : Int), .sl none (n * n) (fl (rmA (mel l off ld) n n)), .int .i64 (n : Int), .int .i64 (n : Int), .sl none (n * n) (fl (rmA (mel la ao al) n n)), aI q' p, Rv, Cv], mCe (runM (zcw (mel la ao al) p rl cl n (fbL (mel l off ld) xl bl n)) (zcx (mel la ao al) p rl cl n (fbL (mel l off ld) xl bl n)) (M0 n) (k + 1)).1])
    by_cases hk0 : (runM (zcw (mel la ao al) p rl cl n (fbL (mel l off ld) xl bl n)) (zcx (mel la ao al) p rl cl n (fbL (mel l off ld) xl bl n)) (M0 n) (k + 1)).2.2 = 0
    · rw [if_pos hk0, hk0]; exact h.2 hk0
    · rw [if_neg hk0]; exact h.1 hk0
  · intro k hk h2
    obtain ⟨b1, b2, b3, b4, b5, b6⟩ := hR.st k hk
    have hp : prM (zcw (mel la ao al) p rl cl n (fbL (mel l off ld) xl bl n)) (zcx (mel la ao al) p rl cl n (fbL (mel l off ld) xl bl n)) (runM (zcw (mel la ao al) p rl cl n (fbL (mel l off ld) xl bl n)) (zcx (mel la ao al) p rl cl n (fbL (mel l off ld) xl bl n)) (M0 n) k) = (zcx (mel la ao al) p rl cl n (fbL (mel l off ld) xl bl n)) (runM (zcw (mel la ao al) p rl cl n (fbL (mel l off ld) xl bl n)) (zcx (mel la ao al) p rl cl n (fbL (mel l off ld) xl bl n)) (M0 n) k).2.1 := if_pos h2
    have h := ztw (H ++ [[.int .i64 (n : Int), .int .i64 (n : Int), .sl none (n * n) (fl (rmA (mel l off ld) n n)), .int .i64 (n : Int), .int .i64 (n : Int), .sl none (n * n) (fl (rmA (mel la ao al) n n)), aI q' p, Rv, Cv], mCe (runM (zcw (mel la ao al) p rl cl n (fbL (mel l off ld) xl bl n)) (zcx (mel la ao al) p rl cl n (fbL (mel l off ld) xl bl n)) (M0 n) k).1]) (H.length + 1) (by simp) (runM (zcw (mel la ao al) p rl cl n (fbL (mel l off ld) xl bl n)) (zcx (mel la ao al) p rl cl n (fbL (mel l off ld) xl bl n)) (M0 n) k).1 b4 b6 b5 (by have := b4.sl; have := b4.n64; omega) (.sl none n (fl ((zcx (mel la ao al) p rl cl n (fbL (mel l off ld) xl bl n)) (runM (zcw (mel la ao al) p rl cl n (fbL (mel l off ld) xl bl n)) (zcx (mel la ao al) p rl cl n (fbL (mel l off ld) xl bl n)) (M0 n) k).2.1))) ((zcx (mel la ao al) p rl cl n (fbL (mel l off ld) xl bl n)) (runM (zcw (mel la ao al) p rl cl n (fbL (mel l off ld) xl bl n)) (zcx (mel la ao al) p rl cl n (fbL (mel l off ld) xl bl n)) (M0 n) k).2.1) (fun H' => FLz _ _ _ (by simp)) (by rw [b3]; simp; rfl) _ _ (zhn H _ _ _) rfl
    have er : nxt (runM (zcw (mel la ao al) p rl cl n (fbL (mel l off ld) xl bl n)) (zcx (mel la ao al) p rl cl n (fbL (mel l off ld) xl bl n)) (M0 n) k).1 ((zcx (mel la ao al) p rl cl n (fbL (mel l off ld) xl bl n)) (runM (zcw (mel la ao al) p rl cl n (fbL (mel l off ld) xl bl n)) (zcx (mel la ao al) p rl cl n (fbL (mel l off ld) xl bl n)) (M0 n) k).2.1) = (runM (zcw (mel la ao al) p rl cl n (fbL (mel l off ld) xl bl n)) (zcx (mel la ao al) p rl cl n (fbL (mel l off ld) xl bl n)) (M0 n) (k + 1)) := by rw [← hp]; rfl
    rw [er, zhn, show (runM (zcw (mel la ao al) p rl cl n (fbL (mel l off ld) xl bl n)) (zcx (mel la ao al) p rl cl n (fbL (mel l off ld) xl bl n)) (M0 n) k).1.n = n from b3] at h
    show zaa Tryz.prog 57 [mP (H.length + 1), .sl none n (fl ((zcx (mel la ao al) p rl cl n (fbL (mel l off ld) xl bl n)) (runM (zcw (mel la ao al) p rl cl n (fbL (mel l off ld) xl bl n)) (zcx (mel la ao al) p rl cl n (fbL (mel l off ld) xl bl n)) (M0 n) k).2.1))] _ (.tup [if (runM (zcw (mel la ao al) p rl cl n (fbL (mel l off ld) xl bl n)) (zcx (mel la ao al) p rl cl n (fbL (mel l off ld) xl bl n)) (M0 n) (k + 1)).2.2 = 0 then .slnil else .sl none n (fl (runM (zcw (mel la ao al) p rl cl n (fbL (mel l off ld) xl bl n)) (zcx (mel la ao al) p rl cl n (fbL (mel l off ld) xl bl n)) (M0 n) (k + 1)).2.1), .int .i64 (runM (zcw (mel la ao al) p rl cl n (fbL (mel l off ld) xl bl n)) (zcx (mel la ao al) p rl cl n (fbL (mel l off ld) xl bl n)) (M0 n) (k + 1)).2.2]) (H ++ [[.int .i64 (n : Int), .int .i64 (n : Int), .sl none (n * n) (fl (rmA (mel l off ld) n n)), .int .i64 (n : Int), .int .i64 (n : Int), .sl none (n * n) (fl (rmA (mel la ao al) n n)), aI q' p, Rv, Cv], mCe (runM (zcw (mel la ao al) p rl cl n (fbL (mel l off ld) xl bl n)) (zcx (mel la ao al) p rl cl n (fbL (mel l off ld) xl bl n)) (M0 n) (k + 1)).1])
    by_cases hk0 : (runM (zcw (mel la ao al) p rl cl n (fbL (mel l off ld) xl bl n)) (zcx (mel la ao al) p rl cl n (fbL (mel l off ld) xl bl n)) (M0 n) (k + 1)).2.2 = 0
    · rw [if_pos hk0, hk0]; exact h.2 hk0
    · rw [if_neg hk0]; exact h.1 hk0
end Go.Sx
set_option linter.unusedVariables false
set_option linter.unusedSimpArgs false
set_option maxRecDepth 20000
namespace Go.Sx
open Ieee
theorem zzo (x : Nat) : Toward.even.cut false x 1 = x / 2 + (if x % 4 = 3 then 1 else 0) := by
  rw [zn5]
  have e1 : hfB x 1 = decide (x % 2 = 1) := by simp [hfB]
  have e2 : loB x 1 = false := by simp [loB, hfB]
  rw [e1, e2, Nat.pow_one]
  congr 1
  by_cases h : x % 4 = 3
  · have c1 : decide (x % 2 = 1) = true ∧ (false = true ∨ x / 2 % 2 = 1) := ⟨decide_eq_true (by omega), .inr (by omega)⟩
    rw [if_pos h, if_pos c1]
  · have c1 : ¬ (decide (x % 2 = 1) = true ∧ (false = true ∨ x / 2 % 2 = 1)) := by
      rintro ⟨a1, a2 | a2⟩
      · cases a2
      · have := of_decide_eq_true a1; omega
    rw [if_neg h, if_neg c1]
theorem z4f {m x : Nat} (hm : m ≤ zf3) (hx : x < 2 ^ 64) (h : flt m x = true) : x ≤ zf3 := by
  rcases Nat.lt_or_ge zf3 x with h9 | h9
  · exfalso
    have hm' : (∃ a e, Ieee.double.read m = .number false a e) ∨ Ieee.double.read m = .infinity false := by
      rcases Nat.lt_or_ge m zf3 with h1 | h1
      · obtain ⟨a, e, h2, _⟩ := zil h1; exact .inl ⟨_, _, h2⟩
      · have : m = zf3 := by omega
        subst this; exact .inr zik
    have e1 : Ieee.double.signWeight = 9223372036854775808 := by decide
    have e2 : Ieee.double.binade = 4503599627370496 := by decide
    have e3 : Ieee.double.infRung = 9218868437227405312 := by decide
    have hx' : (∃ a e, Ieee.double.read x = .number true a e) ∨ Ieee.double.read x = .infinity true ∨ ∃ s t, Ieee.double.read x = .nan s t := by
      unfold zf3 at h9
      unfold Ieee.Format.read
      simp only [e1, e2, e3]
      rcases Nat.lt_or_ge x 9223372036854775808 with h1 | h1
      · rw [Nat.mod_eq_of_lt h1, if_neg (by omega), if_neg (by omega), if_neg (by omega)]; exact .inr (.inr ⟨_, _, rfl⟩)
      · have hs : (x / 9223372036854775808 % 2 == 1) = true := by simp; omega
        rw [hs]
        split
        · exact .inl ⟨_, _, rfl⟩
        · split
          · exact .inl ⟨_, _, rfl⟩
          · split
            · exact .inr (.inl rfl)
            · exact .inr (.inr ⟨_, _, rfl⟩)
    unfold flt Ieee.Format.order at h
    rcases hm' with ⟨a, e, hm'⟩ | hm' <;> rcases hx' with ⟨b, g, hx'⟩ | hx' | ⟨s, t, hx'⟩ <;> rw [hm', hx'] at h <;> simp only [Ieee.Datum.order, Ieee.signed, beq_iff_eq, Option.some.injEq, reduceCtorEq] at h
    · have h1 := Int.compare_eq_lt.1 h
      simp only [Bool.false_eq_true, if_false, if_true] at h1
      have g1 : (0 : Int) ≤ ((a <<< (e - min e g).toNat : Nat) : Int) := Int.natCast_nonneg _
      have g2 : (0 : Int) ≤ ((b <<< (g - min e g).toNat : Nat) : Int) := Int.natCast_nonneg _
      exact absurd h1 (by generalize ((a <<< (e - min e g).toNat : Nat) : Int) = A at *; generalize ((b <<< (g - min e g).toNat : Nat) : Int) = B at *; omega)
    · simp at h
    all_goals first | (exact absurd h (by decide)) | (simp at h; done)
  · exact h9
theorem ze8 {x : Nat} (h64 : x < 2 ^ 64) (hk : pK x = 0) : ∃ r : Nat, r < 9218868437227405312 ∧ x = (if zeb x = true then 9223372036854775808 else 0) + r ∧ (r : Int) = (pE x + 1074) * 4503599627370496 + pM x ∧ (pM x ≠ 0 → 4503599627370496 ≤ pM x ∨ pE x = -1074) ∧ 0 ≤ pM x ∧ pM x < 9007199254740992 ∧ -1074 ≤ pE x ∧ pE x ≤ 971 ∧ (4503599627370496 ≤ pM x ∨ pE x = -1074) := by
  have hs : zeb x = decide (9223372036854775808 ≤ x) := by
    unfold zeb
    rcases Nat.lt_or_ge x 9223372036854775808 with h | h
    · rw [Nat.div_eq_of_lt h]; simp; omega
    · rw [show x / 9223372036854775808 = 1 by omega]; simp [h]
  have hE : pE₀ x ≠ 2047 := by
    intro he
    unfold pK at hk
    by_cases hm : pM₀ x = 0
    · rw [if_pos ⟨he, hm⟩] at hk; cases hk
    · rw [if_neg (fun h => hm h.2), if_pos he] at hk; cases hk
  obtain ⟨m1, m2⟩ := zgk (x := x)
  obtain ⟨e1, e2⟩ := zhz (x := x)
  have key : ((x % 9223372036854775808 : Nat) : Int) = (pE x + 1074) * 4503599627370496 + pM x ∧ (4503599627370496 ≤ pM x ∨ pE x = -1074) := by
    unfold pE pM
    rw [if_neg hE, if_neg hE]
    unfold pE₀ pM₀ at *
    by_cases h0 : (x : Int) / 4503599627370496 % 2048 = 0
    · rw [if_pos h0, if_pos h0]; omega
    · rw [if_neg h0, if_neg h0]; omega
  refine ⟨x % 9223372036854775808, ?_, ?_, key.1, fun _ => key.2, m1, m2, e1, e2, key.2⟩
  · unfold pE₀ at hE; omega
  · rw [hs]
    by_cases h : 9223372036854775808 ≤ x
    · simp only [h, decide_true, if_true]; omega
    · simp only [h, decide_false, Bool.false_eq_true, if_false]; omega
theorem zje {m : Nat} {e : Int} (h0 : m ≠ 0) (hm : m < 9007199254740992) (hn : 4503599627370496 ≤ m ∨ e = -1074) (h1 : -1074 ≤ e) (h2 : e ≤ 971) : (zbs m e : Int) = (e + 1074) * 4503599627370496 + m := by
  have h := zg8 (m := m) (a := 0) (b := 0) (e := e) h0 (.inl rfl) (by rw [Nat.pow_zero, Nat.mul_one, Nat.div_one]; exact hm) (by omega) (by rw [Nat.pow_zero, Nat.mul_one, Nat.div_one]; rcases hn with h | h; exact .inl h; exact .inr (by omega))
  rw [h, Nat.pow_zero, Nat.mul_one, zef]
  obtain ⟨k, hk⟩ : ∃ k : Nat, e + 1074 = k := ⟨(e + 1074).toNat, by omega⟩
  rw [show (e - ((0 : Nat) : Int) + ((0 : Nat) : Int) + 1074).toNat = k by omega, hk]
  omega
theorem zwl {e : Int} (h1 : -1074 ≤ e) (h2 : e ≤ 971) : (zbs 9007199254740992 e : Int) = (e + 1074) * 4503599627370496 + 9007199254740992 := by
  have h := zg8 (m := 9007199254740992) (a := 0) (b := 1) (e := e) (by omega) (.inl rfl) (by rw [Nat.pow_zero, Nat.mul_one, Nat.pow_one]; omega) (by omega) (.inl (by rw [Nat.pow_zero, Nat.mul_one, Nat.pow_one]; omega))
  have hc : Toward.even.cut false (9007199254740992 * 2 ^ 0) 1 = 4503599627370496 := by rw [Nat.pow_zero, Nat.mul_one, zzo, if_neg (by omega)]
  rw [hc] at h
  obtain ⟨k, hk⟩ : ∃ k : Nat, e + 1074 = k := ⟨(e + 1074).toNat, by omega⟩
  rw [show (e - ((0 : Nat) : Int) + ((1 : Nat) : Int) + 1074).toNat = k + 1 by omega] at h
  rw [h, hk]
  omega
theorem zuo (r : Nat) : Ieee.double.word true r = 9223372036854775808 + r := rfl
theorem zyp (r : Nat) : Ieee.double.word false r = r := rfl
theorem z7h {x : Nat} (h64 : x < 2 ^ 64) (hk : pK x = 0) (hm : pM x ≠ 0) (hs : zeb x = false) : Ieee.double.word false (zbs (pM x + 1).toNat (pE x)) = x + 1 := by
  obtain ⟨r, a1, a2, a3, a4, a5, a6, a7, a8, a9⟩ := ze8 h64 hk
  rw [hs] at a2
  simp only [Bool.false_eq_true, if_false, Nat.zero_add] at a2
  subst a2
  rw [zyp]
  obtain ⟨m, hmm⟩ : ∃ m : Nat, pM x = m := ⟨(pM x).toNat, by omega⟩
  rw [hmm] at a3 a5 a6 a9 hm ⊢
  rw [show ((m : Int) + 1).toNat = m + 1 by omega]
  have : (zbs (m + 1) (pE x) : Int) = (pE x + 1074) * 4503599627370496 + ((m + 1 : Nat) : Int) := by
    rcases Nat.lt_or_ge (m + 1) 9007199254740992 with h | h
    · exact zje (by omega) h (by rcases a9 with h9 | h9; exact .inl (by omega); exact .inr h9) a7 a8
    · rw [show m + 1 = 9007199254740992 by omega]; exact zwl a7 a8
  omega
theorem z1z {x : Nat} (h64 : x < 2 ^ 64) (hk : pK x = 0) (hm : pM x ≠ 0) (hs : zeb x = true) (hc : ¬ (pM x = 4503599627370496 ∧ -1074 < pE x)) : Ieee.double.word true (zbs (pM x - 1).toNat (pE x)) = x - 1 := by
  obtain ⟨r, a1, a2, a3, a4, a5, a6, a7, a8, a9⟩ := ze8 h64 hk
  rw [hs] at a2
  simp only [if_true] at a2
  rw [zuo]
  obtain ⟨m, hmm⟩ : ∃ m : Nat, pM x = m := ⟨(pM x).toNat, by omega⟩
  rw [hmm] at a3 a5 a6 a9 hm hc ⊢
  rw [show ((m : Int) - 1).toNat = m - 1 by omega]
  by_cases h1 : m = 1
  · subst h1
    have : pE x = -1074 := by omega
    rw [show zbs (1 - 1) (pE x) = 0 from rfl]
    omega
  · have := zje (m := m - 1) (e := pE x) (by omega) (by omega) (by omega) a7 a8
    omega
theorem z14 {x : Nat} (h64 : x < 2 ^ 64) (hk : pK x = 0) (hs : zeb x = true) (hc : pM x = 4503599627370496 ∧ -1074 < pE x) : Ieee.double.word true (zbs 9007199254740991 (pE x - 1)) = x - 1 := by
  obtain ⟨r, a1, a2, a3, a4, a5, a6, a7, a8, a9⟩ := ze8 h64 hk
  rw [hs] at a2
  simp only [if_true] at a2
  rw [zuo]
  have := zje (m := 9007199254740991) (e := pE x - 1) (by omega) (by omega) (.inl (by omega)) (by omega) (by omega)
  omega
theorem z15 : Ieee.double.word true (zbs 9007199254740991 971) = 18442240474082181119 := by
  rw [zuo]
  have := zje (m := 9007199254740991) (e := 971) (by omega) (by omega) (.inl (by omega)) (by omega) (by omega)
  omega
theorem z16 : Ieee.double.word false (zbs 1 (-1074)) = 1 := by
  rw [zyp]
  have := zje (m := 1) (e := -1074) (by omega) (by omega) (.inr rfl) (by omega) (by omega)
  omega
theorem zmt {x : Nat} (hk : pK x = 0) : feq x 9218868437227405312 = false := by
  have hi : Ieee.double.read 9218868437227405312 = .infinity false := by decide
  unfold feq Ieee.Format.order
  rw [zem hk, hi]; rfl
theorem zro {x : Nat} (h64 : x < 2 ^ 64) (hk : pK x = 0) (hm : pM x ≠ 0) : flt 0 x = !zeb x := by
  obtain ⟨r, a1, a2, a3, a4, a5, a6, a7, a8, a9⟩ := ze8 h64 hk
  by_cases hs : zeb x = true
  · rw [hs] at a2 ⊢
    simp only [if_true] at a2
    cases h : flt 0 x with
    | false => rfl
    | true =>
      have := z4f (m := 0) (by decide) h64 h
      unfold zf3 at this; omega
  · simp only [Bool.not_eq_true] at hs
    rw [hs] at a2 ⊢
    simp only [Bool.false_eq_true, if_false, Nat.zero_add] at a2
    rw [zkp (by decide) (by unfold zf3; omega)]
    have : 0 < x := by
      rcases Nat.eq_zero_or_pos x with e | e
      · exfalso; subst a2; omega
      · exact e
    simp [this]
end Go.Sx
set_option linter.unusedVariables false
set_option linter.unusedSimpArgs false
set_option maxRecDepth 20000
namespace Go.Sx
open Go.Proofs
def upF (x : Nat) : Nat := if pK x = 0 then (if pM x = 0 then 1 else if zeb x = true then x - 1 else x + 1) else if x = 18442240474082181120 then 18442240474082181119 else x
theorem zrp {x : Nat} (h : x ≤ 9218868437227405312) : cn x = x := zhp (s := false) h
theorem z3o {x r : Nat} (h : r ≤ 9218868437227405312) (hx : x = 9223372036854775808 + r) : cn x = x := by subst hx; exact zhp (s := true) h
theorem zz3 (H : List (List AV)) : zaa Tryz.prog 75 [.int .i64 1] H (.flt 9218868437227405312) H := zx7 H
attribute [local irreducible] Ex za3 exD opX opE zca zd3 zd4 Spec zaa Fr zb9 zbb zba ckK zb8 zb6 zbu faK zb4 zd1 gK fK rK zeq lpX prK
theorem zj0 :
    (∀ (H : List (List AV)) (x : Nat) (h64 : x < 2 ^ 64) (hxc : cn x = x) (hk : pK x = 0) (hm : pM x = 0), zaa Tryz.prog 74 [.flt x] H (.flt 1) H) ∧
    (∀ (H : List (List AV)) (x : Nat) (h64 : x < 2 ^ 64) (hxc : cn x = x) (hk : pK x = 0) (hm : pM x ≠ 0) (hs : zeb x = false), zaa Tryz.prog 74 [.flt x] H (.flt (x + 1)) H) ∧
    (∀ (H : List (List AV)) (x : Nat) (h64 : x < 2 ^ 64) (hxc : cn x = x) (hk : pK x = 0) (hm : pM x ≠ 0) (hs : zeb x = true), zaa Tryz.prog 74 [.flt x] H (.flt (x - 1)) H) := by
  refine ⟨?_, ?_, ?_⟩
  (intro H x h64 hxc hk hm
   refine .mk (fun args w => Tryz.call74 args w) (Spec.raw1 (fun b hb hbx => ?_))
   have hbe : b = x := zgu hk hbx
   subst hbe
   have q1 : feq (cn b) (cn b) = true := by rw [hbx]; exact zid hk
   have q2 : feq (cn b) 9218868437227405312 = false := by rw [hbx]; exact zmt hk
   have q3 : feq (cn b) (cn 0) = true := by rw [hbx, zkj, zmw hk]; simp [hm]
   refine Spec.intro' (fn := Tryz.f74) Tryz.func74 rfl (by kernel_rfl) (by simp) false [] (draw := zds Tryz.prog ⟨false, _, []⟩) dOk ?_
   simp only [za0, Nat.reduceAdd])
  rotate_left
  (intro H x h64 hxc hk hm hs
   refine .mk (fun args w => Tryz.call74 args w) (Spec.raw1 (fun b hb hbx => ?_))
   have hbe : b = x := zgu hk hbx
   subst hbe
   have q1 : feq (cn b) (cn b) = true := by rw [hbx]; exact zid hk
   have q2 : feq (cn b) 9218868437227405312 = false := by rw [hbx]; exact zmt hk
   have q3 : feq (cn b) (cn 0) = false := by rw [hbx, zkj, zmw hk]; simp [hm]
   have q4 : flt (cn 0) (cn b) = true := by rw [hbx, zkj, zro h64 hk hm, hs]; rfl
   obtain ⟨r9, z1, z2, _⟩ := ze8 h64 hk
   rw [hs] at z2
   simp only [Bool.false_eq_true, if_false, Nat.zero_add] at z2
   have hb9 : b + 1 ≤ 9218868437227405312 := by omega
   refine Spec.intro' (fn := Tryz.f74) Tryz.func74 rfl (by kernel_rfl) (by simp) false [] (draw := zds Tryz.prog ⟨false, _, []⟩) dOk ?_
   simp only [za0, Nat.reduceAdd])
  rotate_left
  (intro H x h64 hxc hk hm hs
   refine .mk (fun args w => Tryz.call74 args w) (Spec.raw1 (fun b hb hbx => ?_))
   have hbe : b = x := zgu hk hbx
   subst hbe
   have q1 : feq (cn b) (cn b) = true := by rw [hbx]; exact zid hk
   have q2 : feq (cn b) 9218868437227405312 = false := by rw [hbx]; exact zmt hk
   have q3 : feq (cn b) (cn 0) = false := by rw [hbx, zkj, zmw hk]; simp [hm]
   have q4 : flt (cn 0) (cn b) = false := by rw [hbx, zkj, zro h64 hk hm, hs]; rfl
   obtain ⟨r9, z1, z2, z3, z4, z5, z6, z7, z8, z9⟩ := ze8 h64 hk
   rw [hs] at z2
   simp only [if_true] at z2
   have hr9 : 1 ≤ r9 := by omega
   refine Spec.intro' (fn := Tryz.f74) Tryz.func74 rfl (by kernel_rfl) (by simp) false [] (draw := zds Tryz.prog ⟨false, _, []⟩) dOk ?_
   simp only [za0, Nat.reduceAdd])
  rotate_left
  all_goals (repeat' (first
 |(refine zav ?_; (first | refine zbd ?_ | refine zao ?_ | refine m13 ?_ | refine m12 ?_ | refine m11 ?_ | (refine m10 ?_; (first | refine zcv ?_ | refine zcq ?_ | refine zcu ?_ | refine zcr ?_ | refine zct ?_ ?_ | refine zcs ?_ ?_ | refine zcp ?_ ?_ | refine zco ?_ ?_ | fail)) | (refine m09 ?_; (first | refine zcv ?_ | refine zcq ?_ | refine zcu ?_ | refine zcr ?_ | refine zct ?_ ?_ | refine zcs ?_ ?_ | refine zcp ?_ ?_ | refine zco ?_ ?_ | fail)) | refine m38 ?_ | fail))
 |(refine zaw ?_; (first | refine m14 ?_ | (refine m45 ?_; (first | refine zb3 (by exact rfl) ?_ | refine v_k ?_ | fail)) | (refine m00 ?_; (first | refine m52 ?_ | refine m53 ?_ | refine zc7 ?_ | refine m54 ?_ | refine m55 ?_ | refine zbx ?_ | refine m47 ?_ | refine m48 ?_ | refine m49 ?_ | refine m50 ?_ | refine v_k ?_ | refine m51 ?_ | fail)) | (refine m22 ?_; (first | refine m26 ?_ | refine m27 ?_ | fail)) | refine m42 ?_ | refine zab ?_ | refine zac ?_ | refine m08 ?_ | refine zaj ?_ | fail))
 |refine zat ?_ | refine zau ?_ | refine zas ?_
 |(refine zax ?_; (first | refine zar ?_ | refine zad ?_ | (refine m06 ?_; (first | refine c_T ?_ | refine c_F ?_ | refine c_P ?_ ?_ | refine c_B ?_ ?_ | fail)) | refine zaq ?_ | refine zah ?_ | refine zae ?_ | refine b_exit ?_ | fail))
 |refine m43 ?_
 |refine zbv ?_
 |refine m21 ?_
 |refine za4 ?_
 |(refine za5 ?_; (first | refine cA (zjx _ _) ?_ | refine cA (zz3 _) ?_ | refine cA (zb7 _ _ (by omega)) ?_ | fail))
 |refine zbh ?_ | refine zbi ?_ | refine zbg ?_ | refine m57 ?_
 |refine m05 ?_
 |refine m04 ?_ | refine m02 ?_ | refine m03 ?_ | refine zai ?_
 |intro _))
  all_goals first
    | (exfalso; simp_all; done)
    | (refine zb5 rfl ?_; have h9 := Fr.raw (n₀ := H.length) (keep := []) (H := H ++ []) 1; rw [show cn 1 = 1 from zrp (by omega)] at h9; exact h9)
    | (have e9 : ((b : Int) + 1).toNat = b + 1 := (by omega); rw [e9]; have h9 := Fr.raw (n₀ := H.length) (keep := []) (H := H ++ []) (b + 1); rw [zrp hb9] at h9; refine zb5 rfl ?_; exact h9)
    | (have e9 : ((b : Int) - 1).toNat = b - 1 := (by omega); rw [e9]; have h9 := Fr.raw (n₀ := H.length) (keep := []) (H := H ++ []) (b - 1); rw [z3o (r := r9 - 1) (by omega) (by omega)] at h9; refine zb5 rfl ?_; exact h9)
theorem qdi : type_of% @zj0.1 := @zj0.1
theorem qdj : type_of% @zj0.2.1 := @zj0.2.1
theorem qdk : type_of% @zj0.2.2 := @zj0.2.2
theorem zf6 :
    (∀ (H : List (List AV)), zaa Tryz.prog 74 [.flt 9218868437227405312] H (.flt 9218868437227405312) H) ∧
    (∀ (H : List (List AV)), zaa Tryz.prog 74 [.flt qn] H (.flt qn) H) ∧
    (∀ (H : List (List AV)), zaa Tryz.prog 74 [.flt 18442240474082181120] H (.flt 18442240474082181119) H) := by
  refine ⟨?_, ?_, ?_⟩
  (intro H
   refine .mk (fun args w => Tryz.call74 args w) (Spec.raw1 (fun b hb hbx => ?_))
   have hbe : b = 9218868437227405312 := by
     rcases zb1 b with ⟨_, h⟩ | ⟨_, h⟩
     · rw [h] at hbx; exact absurd hbx (by decide)
     · rw [h] at hbx; exact hbx
   subst hbe
   have hcx : cn 9218868437227405312 = 9218868437227405312 := hbx
   have q1 : feq (cn 9218868437227405312) (cn 9218868437227405312) = true := by decide
   have q2 : feq (cn 9218868437227405312) 9218868437227405312 = true := by decide
   refine Spec.intro' (fn := Tryz.f74) Tryz.func74 rfl (by kernel_rfl) (by simp) false [] (draw := zds Tryz.prog ⟨false, _, []⟩) dOk ?_
   simp only [za0, Nat.reduceAdd])
  rotate_left
  (intro H
   refine .mk (fun args w => Tryz.call74 args w) (Spec.raw1 (fun b hb hbx => ?_))
   have hcx : cn b = qn := hbx
   have q1 : feq (cn b) (cn b) = false := by rw [hbx]; exact zr5
   refine Spec.intro' (fn := Tryz.f74) Tryz.func74 rfl (by kernel_rfl) (by simp) false [] (draw := zds Tryz.prog ⟨false, _, []⟩) dOk ?_
   simp only [za0, Nat.reduceAdd])
  rotate_left
  (intro H
   refine .mk (fun args w => Tryz.call74 args w) (Spec.raw1 (fun b hb hbx => ?_))
   have hbe : b = 18442240474082181120 := by
     rcases zb1 b with ⟨_, h⟩ | ⟨_, h⟩
     · rw [h] at hbx; exact absurd hbx (by decide)
     · rw [h] at hbx; exact hbx
   subst hbe
   have hcx : cn 18442240474082181120 = 18442240474082181120 := hbx
   have q1 : feq (cn 18442240474082181120) (cn 18442240474082181120) = true := by decide
   have q2 : feq (cn 18442240474082181120) 9218868437227405312 = false := by decide
   have q3 : feq (cn 18442240474082181120) (cn 0) = false := by decide
   have q4 : flt (cn 0) (cn 18442240474082181120) = false := by decide
   have hcm : cn 18442240474082181119 = 18442240474082181119 := by decide
   refine Spec.intro' (fn := Tryz.f74) Tryz.func74 rfl (by kernel_rfl) (by simp) false [] (draw := zds Tryz.prog ⟨false, _, []⟩) dOk ?_
   simp only [za0, Nat.reduceAdd])
  rotate_left
  all_goals (repeat' (first
 |(refine zav ?_; (first | refine zbd ?_ | refine zao ?_ | refine m13 ?_ | refine m12 ?_ | refine m11 ?_ | (refine m10 ?_; (first | refine zcv ?_ | refine zcq ?_ | refine zcu ?_ | refine zcr ?_ | refine zct ?_ ?_ | refine zcs ?_ ?_ | refine zcp ?_ ?_ | refine zco ?_ ?_ | fail)) | (refine m09 ?_; (first | refine zcv ?_ | refine zcq ?_ | refine zcu ?_ | refine zcr ?_ | refine zct ?_ ?_ | refine zcs ?_ ?_ | refine zcp ?_ ?_ | refine zco ?_ ?_ | fail)) | refine m38 ?_ | fail))
 |(refine zaw ?_; (first | refine m14 ?_ | (refine m45 ?_; (first | refine zb3 (by exact rfl) ?_ | refine v_k ?_ | fail)) | (refine m00 ?_; (first | refine m52 ?_ | refine m53 ?_ | refine zc7 ?_ | refine m54 ?_ | refine m55 ?_ | refine zbx ?_ | refine m47 ?_ | refine m48 ?_ | refine m49 ?_ | refine m50 ?_ | refine v_k ?_ | refine m51 ?_ | fail)) | (refine m22 ?_; (first | refine m26 ?_ | refine m27 ?_ | fail)) | refine m42 ?_ | refine zab ?_ | refine zac ?_ | refine m08 ?_ | refine zaj ?_ | fail))
 |refine zat ?_ | refine zau ?_ | refine zas ?_
 |(refine zax ?_; (first | refine zar ?_ | refine zad ?_ | (refine m06 ?_; (first | refine c_T ?_ | refine c_F ?_ | refine c_P ?_ ?_ | refine c_B ?_ ?_ | fail)) | refine zaq ?_ | refine zah ?_ | refine zae ?_ | refine b_exit ?_ | fail))
 |refine m43 ?_
 |refine zbv ?_
 |refine m21 ?_
 |refine za4 ?_
 |(refine za5 ?_; (first | refine cA (zjx _ _) ?_ | refine cA (zz3 _) ?_ | refine cA (zb7 _ _ (by omega)) ?_ | fail))
 |refine zbh ?_ | refine zbi ?_ | refine zbg ?_ | refine m57 ?_
 |refine m05 ?_
 |refine m04 ?_ | refine m02 ?_ | refine m03 ?_ | refine zai ?_
 |intro _))
  all_goals first
    | (exfalso; simp_all; done)
    | (have h9 := Fr.raw (n₀ := H.length) (keep := []) (H := H ++ []) 9218868437227405312; rw [hcx] at h9; refine zb5 rfl ?_; exact h9)
    | (have h9 := Fr.raw (n₀ := H.length) (keep := []) (H := H ++ []) b; rw [hcx] at h9; refine zb5 rfl ?_; exact h9)
    | (have h9 := Fr.raw (n₀ := H.length) (keep := []) (H := H ++ []) 18442240474082181119; rw [hcm] at h9; refine zb5 rfl ?_; exact h9)
theorem z7e : type_of% @zf6.1 := @zf6.1
theorem z7f : type_of% @zf6.2.1 := @zf6.2.1
theorem z7g : type_of% @zf6.2.2 := @zf6.2.2
theorem qdl (H : List (List AV)) (x : Nat) (h64 : x < 2 ^ 64) (hxc : cn x = x) : zaa Tryz.prog 74 [.flt x] H (.flt (upF x)) H := by
  unfold upF
  by_cases hk : pK x = 0
  · rw [if_pos hk]
    by_cases hm : pM x = 0
    · rw [if_pos hm]; exact qdi H x h64 hxc hk hm
    · rw [if_neg hm]
      by_cases hs : zeb x = true
      · rw [if_pos hs]; exact qdk H x h64 hxc hk hm hs
      · rw [if_neg hs]; exact qdj H x h64 hxc hk hm (by simpa using hs)
  · rw [if_neg hk]
    rcases zi4 hk h64 hxc with e | e | e
    · subst e; rw [if_neg (by omega)]; exact z7e H
    · subst e; rw [if_pos rfl]; exact z7g H
    · subst e; rw [if_neg (by decide)]; exact z7f H
theorem zdh :
    (∀ (H : List (List AV)) (x : Nat) (h64 : x < 2 ^ 64) (hk : pK x = 0) (hm : pM x = 0), zaa Tryz.prog 79 [.flt x] H (.flt 1) H) ∧
    (∀ (H : List (List AV)) (x : Nat) (h64 : x < 2 ^ 64) (hk : pK x = 0) (hm : pM x ≠ 0) (hs : zeb x = false), zaa Tryz.prog 79 [.flt x] H (.flt (x + 1)) H) ∧
    (∀ (H : List (List AV)) (x : Nat) (h64 : x < 2 ^ 64) (hk : pK x = 0) (hm : pM x ≠ 0) (hs : zeb x = true) (hc : ¬ (pM x = 4503599627370496 ∧ -1074 < pE x)), zaa Tryz.prog 79 [.flt x] H (.flt (x - 1)) H) ∧
    (∀ (H : List (List AV)) (x : Nat) (h64 : x < 2 ^ 64) (hk : pK x = 0) (hm : pM x ≠ 0) (hs : zeb x = true) (hc : pM x = 4503599627370496 ∧ -1074 < pE x), zaa Tryz.prog 79 [.flt x] H (.flt (x - 1)) H) ∧
    (∀ (H : List (List AV)), zaa Tryz.prog 79 [.flt 9218868437227405312] H (.flt 9218868437227405312) H) ∧
    (∀ (H : List (List AV)), zaa Tryz.prog 79 [.flt qn] H (.flt qn) H) ∧
    (∀ (H : List (List AV)), zaa Tryz.prog 79 [.flt 18442240474082181120] H (.flt 18442240474082181119) H) := by
  refine ⟨?_, ?_, ?_, ?_, ?_, ?_, ?_⟩
  (intro H x h64 hk hm
   refine .mk (fun args w => Tryz.call79 args w) (Spec.raw1 (fun b hb hbx => ?_))
   have hbe : b = x := zgu hk hbx
   subst hbe
   obtain ⟨m1, m2⟩ := zgk (x := b)
   obtain ⟨e1, e2⟩ := zhz (x := b)
   have hparts : ∀ H, zaa Tryz.prog 60 [.fraw b] H (.tup [.bool (ztj b), .int .u64 0, .int .i64 (pE b), .int .i64 0]) H := fun H => by have h := zet H b (by first | exact hb | decide); rwa [hk, hm] at h
   have hmk : ∀ H, zaa Tryz.prog 134 [.bool false, .int .u64 1, .int .i64 (-1074)] H (.flt 1) H := fun H => by have h := zj6 H false 1 (by omega) (-1074) (by omega); rwa [z16] at h
   refine Spec.intro' (fn := Tryz.f79) Tryz.func79 rfl (by kernel_rfl) (by simp) false [] (draw := zds Tryz.prog ⟨false, _, []⟩) dOk ?_
   simp only [za0, Nat.reduceAdd])
  rotate_left
  (intro H x h64 hk hm hs
   refine .mk (fun args w => Tryz.call79 args w) (Spec.raw1 (fun b hb hbx => ?_))
   have hbe : b = x := zgu hk hbx
   subst hbe
   obtain ⟨m1, m2⟩ := zgk (x := b)
   obtain ⟨e1, e2⟩ := zhz (x := b)
   have hn : ztj b = false := (zo7 h64).trans hs
   have hparts : ∀ H, zaa Tryz.prog 60 [.fraw b] H (.tup [.bool false, .int .u64 (pM b), .int .i64 (pE b), .int .i64 0]) H := fun H => by have h := zet H b (by first | exact hb | decide); rwa [hn, hk] at h
   have hmk : ∀ H, zaa Tryz.prog 134 [.bool false, .int .u64 (pM b + 1), .int .i64 (pE b)] H (.flt (b + 1)) H := fun H => by
     have h := zj6 H false (pM b + 1).toNat (by omega) (pE b) (by omega)
     rw [show (((pM b + 1).toNat : Nat) : Int) = pM b + 1 by omega, z7h h64 hk hm hs] at h
     exact h
   refine Spec.intro' (fn := Tryz.f79) Tryz.func79 rfl (by kernel_rfl) (by simp) false [] (draw := zds Tryz.prog ⟨false, _, []⟩) dOk ?_
   simp only [za0, Nat.reduceAdd])
  rotate_left
  (intro H x h64 hk hm hs hc
   refine .mk (fun args w => Tryz.call79 args w) (Spec.raw1 (fun b hb hbx => ?_))
   have hbe : b = x := zgu hk hbx
   subst hbe
   obtain ⟨m1, m2⟩ := zgk (x := b)
   obtain ⟨e1, e2⟩ := zhz (x := b)
   have hn : ztj b = true := (zo7 h64).trans hs
   have hparts : ∀ H, zaa Tryz.prog 60 [.fraw b] H (.tup [.bool true, .int .u64 (pM b), .int .i64 (pE b), .int .i64 0]) H := fun H => by have h := zet H b (by first | exact hb | decide); rwa [hn, hk] at h
   have hmk : ∀ H, zaa Tryz.prog 134 [.bool true, .int .u64 (pM b - 1), .int .i64 (pE b)] H (.flt (b - 1)) H := fun H => by
     have h := zj6 H true (pM b - 1).toNat (by omega) (pE b) (by omega)
     rw [show (((pM b - 1).toNat : Nat) : Int) = pM b - 1 by omega, z1z h64 hk hm hs hc] at h
     exact h
   refine Spec.intro' (fn := Tryz.f79) Tryz.func79 rfl (by kernel_rfl) (by simp) false [] (draw := zds Tryz.prog ⟨false, _, []⟩) dOk ?_
   simp only [za0, Nat.reduceAdd])
  rotate_left
  (intro H x h64 hk hm hs hc
   refine .mk (fun args w => Tryz.call79 args w) (Spec.raw1 (fun b hb hbx => ?_))
   have hbe : b = x := zgu hk hbx
   subst hbe
   obtain ⟨m1, m2⟩ := zgk (x := b)
   obtain ⟨e1, e2⟩ := zhz (x := b)
   have hn : ztj b = true := (zo7 h64).trans hs
   have hparts : ∀ H, zaa Tryz.prog 60 [.fraw b] H (.tup [.bool true, .int .u64 (pM b), .int .i64 (pE b), .int .i64 0]) H := fun H => by have h := zet H b (by first | exact hb | decide); rwa [hn, hk] at h
   have hmk : ∀ H, zaa Tryz.prog 134 [.bool true, .int .u64 9007199254740991, .int .i64 (pE b - 1)] H (.flt (b - 1)) H := fun H => by
     have h := zj6 H true 9007199254740991 (by omega) (pE b - 1) (by omega)
     rw [z14 h64 hk hs hc] at h
     exact h
   refine Spec.intro' (fn := Tryz.f79) Tryz.func79 rfl (by kernel_rfl) (by simp) false [] (draw := zds Tryz.prog ⟨false, _, []⟩) dOk ?_
   simp only [za0, Nat.reduceAdd])
  rotate_left
  (intro H
   refine .mk (fun args w => Tryz.call79 args w) (Spec.raw1 (fun b hb hbx => ?_))
   have hbe : b = 9218868437227405312 := by
     rcases zb1 b with ⟨_, h⟩ | ⟨_, h⟩
     · rw [h] at hbx; exact absurd hbx (by decide)
     · rw [h] at hbx; exact hbx
   subst hbe
   have hcx : cn 9218868437227405312 = 9218868437227405312 := hbx
   have hparts : ∀ H, zaa Tryz.prog 60 [.fraw 9218868437227405312] H (.tup [.bool false, .int .u64 0, .int .i64 0, .int .i64 1]) H := fun H => by have h := zet H 9218868437227405312 (by first | exact hb | decide); rwa [show ztj 9218868437227405312 = false by decide, show pM 9218868437227405312 = 0 by decide, show pE 9218868437227405312 = 0 by decide, show pK 9218868437227405312 = 1 by decide] at h
   refine Spec.intro' (fn := Tryz.f79) Tryz.func79 rfl (by kernel_rfl) (by simp) false [] (draw := zds Tryz.prog ⟨false, _, []⟩) dOk ?_
   simp only [za0, Nat.reduceAdd])
  rotate_left
  (intro H
   refine .mk (fun args w => Tryz.call79 args w) (Spec.raw1 (fun b hb hbx => ?_))
   have hcx : cn b = qn := hbx
   have hk2 : pK b = 2 := by have h := (z5m (b := b)).2.2; rw [hbx] at h; rw [← h]; decide
   have hparts : ∀ H, zaa Tryz.prog 60 [.fraw b] H (.tup [.bool (ztj b), .int .u64 (pM b), .int .i64 (pE b), .int .i64 2]) H := fun H => by have h := zet H b (by first | exact hb | decide); rwa [hk2] at h
   refine Spec.intro' (fn := Tryz.f79) Tryz.func79 rfl (by kernel_rfl) (by simp) false [] (draw := zds Tryz.prog ⟨false, _, []⟩) dOk ?_
   simp only [za0, Nat.reduceAdd])
  rotate_left
  (intro H
   refine .mk (fun args w => Tryz.call79 args w) (Spec.raw1 (fun b hb hbx => ?_))
   have hbe : b = 18442240474082181120 := by
     rcases zb1 b with ⟨_, h⟩ | ⟨_, h⟩
     · rw [h] at hbx; exact absurd hbx (by decide)
     · rw [h] at hbx; exact hbx
   subst hbe
   have hcx : cn 18442240474082181120 = 18442240474082181120 := hbx
   have hparts : ∀ H, zaa Tryz.prog 60 [.fraw 18442240474082181120] H (.tup [.bool true, .int .u64 0, .int .i64 0, .int .i64 1]) H := fun H => by have h := zet H 18442240474082181120 (by first | exact hb | decide); rwa [show ztj 18442240474082181120 = true by decide, show pM 18442240474082181120 = 0 by decide, show pE 18442240474082181120 = 0 by decide, show pK 18442240474082181120 = 1 by decide] at h
   have hmk : ∀ H, zaa Tryz.prog 134 [.bool true, .int .u64 9007199254740991, .int .i64 971] H (.flt 18442240474082181119) H := fun H => by have h := zj6 H true 9007199254740991 (by omega) 971 (by omega); rwa [z15] at h
   refine Spec.intro' (fn := Tryz.f79) Tryz.func79 rfl (by kernel_rfl) (by simp) false [] (draw := zds Tryz.prog ⟨false, _, []⟩) dOk ?_
   simp only [za0, Nat.reduceAdd])
  rotate_left
  all_goals (repeat' (first
 |(refine zav ?_; (first | refine zbd ?_ | refine zao ?_ | refine m13 ?_ | refine m12 ?_ | refine m11 ?_ | (refine m10 ?_; (first | refine zcv ?_ | refine zcq ?_ | refine zcu ?_ | refine zcr ?_ | refine zct ?_ ?_ | refine zcs ?_ ?_ | refine zcp ?_ ?_ | refine zco ?_ ?_ | fail)) | (refine m09 ?_; (first | refine zcv ?_ | refine zcq ?_ | refine zcu ?_ | refine zcr ?_ | refine zct ?_ ?_ | refine zcs ?_ ?_ | refine zcp ?_ ?_ | refine zco ?_ ?_ | fail)) | refine m38 ?_ | fail))
 |(refine zaw ?_; (first | refine m14 ?_ | (refine m45 ?_; (first | refine zb3 (by exact rfl) ?_ | refine v_k ?_ | fail)) | (refine m00 ?_; (first | refine m52 ?_ | refine m53 ?_ | refine zc7 ?_ | refine m47 ?_ | refine m48 ?_ | refine m49 ?_ | refine m50 ?_ | refine zfn ?_ | refine zfl ?_ | refine zfm ?_ | refine v_k ?_ | refine m51 ?_ | fail)) | (refine m22 ?_; (first | refine m26 ?_ | refine m27 ?_ | fail)) | refine m42 ?_ | refine zab ?_ | refine zac ?_ | refine m08 ?_ | (refine m20 ?_; (first | refine m52 ?_ | refine m53 ?_ | refine zc7 ?_ | refine m47 ?_ | refine m48 ?_ | refine m49 ?_ | refine m50 ?_ | refine zfn ?_ | refine zfl ?_ | refine zfm ?_ | refine v_k ?_ | refine m51 ?_ | fail)) | refine zaj ?_ | refine m23 ?_ | fail))
 |refine zat ?_ | refine zau ?_ | refine zas ?_
 |(refine zax ?_; (first | refine zar ?_ | refine zad ?_ | (refine m06 ?_; (first | refine c_T ?_ | refine c_F ?_ | refine c_P ?_ ?_ | refine c_B ?_ ?_ | fail)) | refine zaq ?_ | refine zah ?_ | refine zae ?_ | refine b_exit ?_ | fail))
 |refine m43 ?_
 |refine zbv ?_
 |refine m21 ?_
 |refine za4 ?_
 |(refine za5 ?_; (first | refine cA (hparts _) ?_ | refine cA (hmk _) ?_ | fail))
 |refine m05 ?_
 |refine m04 ?_ | refine m02 ?_ | refine m03 ?_ | refine zai ?_
 |intro _))
  all_goals first
    | (exfalso; omega)
    | (exfalso; simp_all; done)
    | (refine zal rfl (by simp [mx, mxL, zaf]) ?_; exact rfl)
    | (have h9 := Fr.raw (n₀ := H.length) (keep := []) (H := H ++ []) 9218868437227405312; rw [hcx] at h9; refine zb5 rfl ?_; exact h9)
    | (have h9 := Fr.raw (n₀ := H.length) (keep := []) (H := H ++ []) b; rw [hcx] at h9; refine zb5 rfl ?_; exact h9)
theorem qam : type_of% @zdh.1 := @zdh.1
theorem qan : type_of% @zdh.2.1 := @zdh.2.1
theorem z6h : type_of% @zdh.2.2.1 := @zdh.2.2.1
theorem z6i : type_of% @zdh.2.2.2.1 := @zdh.2.2.2.1
theorem z1c : type_of% @zdh.2.2.2.2.1 := @zdh.2.2.2.2.1
theorem z1d : type_of% @zdh.2.2.2.2.2.1 := @zdh.2.2.2.2.2.1
theorem z1e : type_of% @zdh.2.2.2.2.2.2 := @zdh.2.2.2.2.2.2
theorem z1f (H : List (List AV)) (x : Nat) (h64 : x < 2 ^ 64) (hxc : cn x = x) : zaa Tryz.prog 79 [.flt x] H (.flt (upF x)) H := by
  unfold upF
  by_cases hk : pK x = 0
  · rw [if_pos hk]
    by_cases hm : pM x = 0
    · rw [if_pos hm]; exact qam H x h64 hk hm
    · rw [if_neg hm]
      by_cases hs : zeb x = true
      · rw [if_pos hs]
        by_cases hc : pM x = 4503599627370496 ∧ -1074 < pE x
        · exact z6i H x h64 hk hm hs hc
        · exact z6h H x h64 hk hm hs hc
      · rw [if_neg hs]; exact qan H x h64 hk hm (by simpa using hs)
  · rw [if_neg hk]
    rcases zi4 hk h64 hxc with e | e | e
    · subst e; rw [if_neg (by omega)]; exact z1c H
    · subst e; rw [if_pos rfl]; exact z1e H
    · subst e; rw [if_neg (by decide)]; exact z1d H
end Go.Sx
set_option linter.unusedVariables false
set_option linter.unusedSimpArgs false
set_option linter.unusedSectionVars false
set_option maxRecDepth 20000
namespace Go.Sx
open Go.Proofs
section
attribute [local irreducible] Ex za3 exD opX opE zca zd3 zd4 Spec zaa Fr zb9 zbb zba ckK zb8 zb6 zbu faK zb4 zd1 gK fK rK zeq lpX prK
theorem znj (H : List (List AV)) (D : AV) (l : List Nat) (hF : FL H D l) (hB : l.length ≤ 2 ^ 30) :
    zaa Tryz.prog 36 [D] H (.flt (zbp (l.map zbm))) H := by
  refine .go Tryz.call36 Tryz.func36 false [17] dOk ?_
  simp only [za0, Nat.reduceAdd]
  repeat' (first
 |(refine zav ?_; (first | refine zbd ?_ | refine zao ?_ | fail))
 |(refine zaw ?_; (first | refine m14 ?_ | (refine m07 ?_; (first | refine m15 ?_ | refine m16 ?_ | refine zdy (FL.app hF _) (by omega) ?_ | fail)) | refine zbz (by (conv => {lhs; whnf}); done) (by (conv => {lhs; whnf}); done) (by exact hF.len) (by omega) ?_ | refine zam (by (conv => {lhs; whnf}); done) (by exact hF.len) ?_ | refine zee (i := 0) (N₀ := []) (by (conv => {lhs; whnf}); done) (by (conv => {lhs; whnf}); done) (by exact rfl) (by exact rfl) (by rw [zd9, zs7 (by omega)]) (by omega) (by exact rfl) (by exact rfl) (l' := fl (mpl zbm l (k + 1))) (by (rw [zoo (by omega)]; simp [fl])) ?_ | (refine m00 ?_; (first | refine m47 ?_ | refine m48 ?_ | refine m49 ?_ | refine m50 ?_ | refine v_k ?_ | refine m51 ?_ | fail)) | refine m42 ?_ | refine zab ?_ | refine zac ?_ | refine m08 ?_ | refine zaj ?_ | refine zam (by (conv => {lhs; whnf}); done) (by first | rfl | assumption) ?_ | refine zc2 (by exact rfl) (by exact rfl) (by decide) ?_ | fail))
 |refine zat ?_ | refine zau ?_ | refine zas ?_
 |(refine zax ?_; (first | refine zar ?_ | refine zad ?_ | (refine m06 ?_; (first | refine c_T ?_ | refine c_F ?_ | refine c_P ?_ ?_ | refine c_B ?_ ?_ | fail)) | refine zaq ?_ | refine zah ?_ | refine zae ?_ | refine b_exit ?_ | (refine za1 [4, 0, 3, 2] l.length (fun k => ⟨[(4, .val (.int .i64 (k : Int))), (0, .val D), (3, .val (gV H.length 0 k)), (2, .val (.flt 0))], [], H ++ ([] ++ gN (fl (mpl zbm l k)))⟩) (by exact rfl) ?_ ?_ <;> (first | intro k hk K hK | intro K) <;> (try dsimp only at *) <;> (try simp only [Int.natCast_add, Int.natCast_one] at *)) | fail))
 |refine m21 ?_
 |refine za4 ?_
 |(refine za5 ?_; (first | refine cA (zj9 _ _) ?_ | refine cA (zwd _ _ (l.map zbm) (by rw [zs6]; have := @z9t H.length 0 (l.map zbm) H [] (by exact rfl) rfl; simpa using this) (by simpa using hB)) ?_ | fail))
 |refine m44 ?_
 |refine m40 ?_
 |(refine zbc (by (conv => {lhs; simp only [List.nil_append, List.cons_append]}); done) ?_; refine ⟨by exact rfl, ?_⟩)
 |refine zbt ?_
 |(intro N' hN'; simp only [List.nil_append, List.cons_append] at hN'; subst hN')
 |refine zbh ?_ | refine zbi ?_ | refine zbg ?_ | refine m57 ?_
 |refine zdp ?_ | refine zdq ?_ | refine zdo ?_
 |(refine zdr (by exact rfl) ?_; first | exact hK | fail | (exfalso; first | omega | (simp_all; done) | (simp_all; omega)))
 |refine m05 ?_
 |refine m04 ?_ | refine m02 ?_ | refine m03 ?_ | refine zai ?_
 |intro _)
  all_goals first | refine zal rfl (by simp [mx, mxL, aOf, zbn, zaf]) ?_ | (trace_state; fail)
  all_goals exact rfl
end
end Go.Sx
set_option linter.unusedVariables false
set_option linter.unusedSimpArgs false
set_option maxRecDepth 20000
namespace Go.Sx
open Go.Proofs
theorem zeh (x y : Nat) : cn (fdiv x y) = fdiv x y ∧ fdiv x y < 2 ^ 64 := by
  unfold fdiv fop
  split
  · rename_i r hr
    exact ⟨zxh _, z3n (Ieee.Format.div_lt _ hr)⟩
  · exact ⟨by decide, by decide⟩
theorem zw7 {x : Nat} (h : feq x 0 = true) : zbm x = 0 := by
  have hk : pK x = 0 := by
    rcases Classical.em (pK x = 0) with h1 | h1
    · exact h1
    · exfalso
      unfold feq Ieee.Format.order at h
      rcases z0j h1 with ⟨s, h2⟩ | ⟨s, t, h2⟩ <;> rw [h2, ztr] at h <;> cases s <;> simp [Ieee.Datum.order] at h
  rw [zmw hk] at h
  have hm : pM x = 0 := by simpa using h
  unfold zbm
  have : x % 9223372036854775808 = 0 := by
    unfold pM at hm
    unfold pK at hk
    split at hm
    · rename_i h1; rw [if_pos h1] at hk; split at hk <;> cases hk
    · split at hm
      · rename_i h2; unfold pE₀ pM₀ at *; omega
      · unfold pM₀ at hm; omega
  rw [this]; decide
theorem abs_zero {x : Nat} (h : zbm x = 0) : feq x 0 = true := by
  have hx : x % 9223372036854775808 = 0 := by
    unfold zbm at h
    rcases zb1 (x % 9223372036854775808) with ⟨_, h2⟩ | ⟨_, h2⟩
    · rw [h2] at h; exact absurd h (by decide)
    · omega
  have hE : pE₀ x = 0 := by unfold pE₀; omega
  have hM : pM₀ x = 0 := by unfold pM₀; omega
  have hk : pK x = 0 := by unfold pK; rw [if_neg (fun h => by rw [hE] at h; exact absurd h.1 (by decide)), if_neg (by rw [hE]; decide)]
  rw [zmw hk]
  have : pM x = 0 := by unfold pM; rw [if_neg (by rw [hE]; decide), if_pos hE, hM]
  simp [this]
theorem zp4 {l : List Nat} (h : ∀ k, k < l.length → feq (l.getD k 0) 0 = true) : zbp (l.map zbm) = 0 := by
  have hz : ∀ x ∈ l.map zbm, x = 0 := by
    intro x hx
    obtain ⟨y, hy, rfl⟩ := List.mem_map.1 hx
    obtain ⟨k, hk, rfl⟩ := List.mem_iff_getElem.1 hy
    have := h k hk
    rw [List.getD_eq_getElem?_getD, List.getElem?_eq_getElem hk] at this
    exact zw7 this
  rw [zl2 _ (fun x hx => .inr (by rw [hz x hx]; decide))]
  rw [if_neg (fun hq => absurd (hz _ hq) (by decide))]
  have := (zoq (l.map zbm) 0 0).2 ⟨Nat.le_refl _, fun y hy => by rw [hz y hy]; exact Nat.le_refl _⟩
  unfold mxN; omega
theorem zvq {l : List Nat} {z : Nat} (hzl : z < l.length) (h : feq (l.getD z 0) 0 = false) : feq (zbp (l.map zbm)) 0 = false := by
  have hall : ∀ x ∈ l.map zbm, x = qn ∨ x ≤ zf3 := by
    intro x hx
    obtain ⟨y, _, rfl⟩ := List.mem_map.1 hx
    exact zpm y
  rw [zl2 _ hall]
  by_cases hq : qn ∈ l.map zbm
  · rw [if_pos hq]; decide
  · rw [if_neg hq]
    have hm : zbm (l.getD z 0) ∈ l.map zbm := List.mem_map.2 ⟨l.getD z 0, by rw [List.getD_eq_getElem?_getD, List.getElem?_eq_getElem hzl]; exact List.getElem_mem hzl, rfl⟩
    have h1 := ((zoq (l.map zbm) 0 (mxN (l.map zbm))).1 (Nat.le_refl _)).2 _ hm
    have h2 : zbm (l.getD z 0) ≠ 0 := fun e => by rw [abs_zero e] at h; cases h
    have h3 : mxN (l.map zbm) ≤ zf3 := (zoq (l.map zbm) 0 zf3).2 ⟨by decide, fun y hy => by
      rcases hall y hy with e | e
      · exact absurd (e ▸ hy) hq
      · exact e⟩
    unfold feq
    rw [zi9 h3 (by decide)]
    rw [Nat.compare_eq_gt.2 (by omega)]; rfl
theorem ztt (H : List (List AV)) : zaa Tryz.prog 80 [.int .u64 9218868437227405312] H (.fraw 9218868437227405312) H := zb7 H 9218868437227405312 (by decide)
theorem zpg (H : List (List AV)) (D : AV) (l : List Nat) (hF : FL H D l) (hB : l.length ≤ 2 ^ 30) : zaa Tryz.prog 73 [D] H (.tup [.flt (zbe l), .flt (zbp (l.map zbm))]) H := zlg H D l hF hB
attribute [local irreducible] Ex za3 exD opX opE zca zd3 zd4 Spec zaa Fr zb9 zbb zba ckK zb8 zb6 zbu faK zb4 zd1 gK fK rK zeq lpX prK
theorem zej :
    (∀ (H : List (List AV)) (c0 c1 c2 c3 c4 c5 c6 c7 c8 c9 c10 Rv Cv : AV) (hRc : AV.cells Rv = some [Rv]) (hCc : AV.cells Cv = some [Cv]) (X Bv : AV) (e : Int) (he : e ≠ 0) (hfar : ∀ N, zaa Tryz.prog 21 [.agg [c0, c1, c2, c3, c4, c5, c6, c7, c8, c9, c10, Rv, Cv], X, Bv] (H ++ N) (.tup [.flt 0, .int .i64 e]) (H ++ N)), zaa Tryz.prog 22 [.agg [c0, c1, c2, c3, c4, c5, c6, c7, c8, c9, c10, Rv, Cv], X, Bv] H (.tup [.flt 0, .int .i64 e]) H) ∧
    (∀ (H : List (List AV)) (c0 c1 c2 c3 c4 c5 c6 c7 c8 c9 c10 Rv Cv : AV) (hRc : AV.cells Rv = some [Rv]) (hCc : AV.cells Cv = some [Cv]) (X Bv : AV) (xl bl : List Nat) (hX : ∀ H', FL (H ++ H') X xl) (hB : ∀ H', FL (H ++ H') Bv bl) (hxn : xl.length ≤ 64) (hbn : bl.length ≤ 64) (est : Nat) (hfar : ∀ N, zaa Tryz.prog 21 [.agg [c0, c1, c2, c3, c4, c5, c6, c7, c8, c9, c10, Rv, Cv], X, Bv] (H ++ N) (.tup [.flt est, .int .i64 0]) (H ++ N)) (hm : feq (zbp (xl.map zbm)) 0 = false), zaa Tryz.prog 22 [.agg [c0, c1, c2, c3, c4, c5, c6, c7, c8, c9, c10, Rv, Cv], X, Bv] H (.tup [.flt (upF (fdiv est (zbp (xl.map zbm)))), .int .i64 0]) H) ∧
    (∀ (H : List (List AV)) (c0 c1 c2 c3 c4 c5 c6 c7 c8 c9 c10 Rv Cv : AV) (hRc : AV.cells Rv = some [Rv]) (hCc : AV.cells Cv = some [Cv]) (X Bv : AV) (xl bl : List Nat) (hX : ∀ H', FL (H ++ H') X xl) (hB : ∀ H', FL (H ++ H') Bv bl) (hxn : xl.length ≤ 64) (hbn : bl.length ≤ 64) (est : Nat) (hfar : ∀ N, zaa Tryz.prog 21 [.agg [c0, c1, c2, c3, c4, c5, c6, c7, c8, c9, c10, Rv, Cv], X, Bv] (H ++ N) (.tup [.flt est, .int .i64 0]) (H ++ N)) (hm : feq (zbp (xl.map zbm)) 0 = true) (hr : feq (zbp (bl.map zbm)) 0 = true), zaa Tryz.prog 22 [.agg [c0, c1, c2, c3, c4, c5, c6, c7, c8, c9, c10, Rv, Cv], X, Bv] H (.tup [.flt 0, .int .i64 0]) H) ∧
    (∀ (H : List (List AV)) (c0 c1 c2 c3 c4 c5 c6 c7 c8 c9 c10 Rv Cv : AV) (hRc : AV.cells Rv = some [Rv]) (hCc : AV.cells Cv = some [Cv]) (X Bv : AV) (xl bl : List Nat) (hX : ∀ H', FL (H ++ H') X xl) (hB : ∀ H', FL (H ++ H') Bv bl) (hxn : xl.length ≤ 64) (hbn : bl.length ≤ 64) (est : Nat) (hfar : ∀ N, zaa Tryz.prog 21 [.agg [c0, c1, c2, c3, c4, c5, c6, c7, c8, c9, c10, Rv, Cv], X, Bv] (H ++ N) (.tup [.flt est, .int .i64 0]) (H ++ N)) (hm : feq (zbp (xl.map zbm)) 0 = true) (hr : feq (zbp (bl.map zbm)) 0 = false), zaa Tryz.prog 22 [.agg [c0, c1, c2, c3, c4, c5, c6, c7, c8, c9, c10, Rv, Cv], X, Bv] H (.tup [.flt 9218868437227405312, .int .i64 0]) H) := by
  refine ⟨?_, ?_, ?_, ?_⟩
  (intro H c0 c1 c2 c3 c4 c5 c6 c7 c8 c9 c10 Rv Cv hRc hCc X Bv e he hfar
   refine .go Tryz.call22 Tryz.func22 false [] dOk ?_
   simp only [za0, Nat.reduceAdd])
  rotate_left
  (intro H c0 c1 c2 c3 c4 c5 c6 c7 c8 c9 c10 Rv Cv hRc hCc X Bv xl bl hX hB hxn hbn est hfar hm
   have q1 : feq (zbp (xl.map zbm)) (cn 0) = false := by rw [zkj]; exact hm
   refine .go Tryz.call22 Tryz.func22 false [] dOk ?_
   simp only [za0, Nat.reduceAdd])
  rotate_left
  (intro H c0 c1 c2 c3 c4 c5 c6 c7 c8 c9 c10 Rv Cv hRc hCc X Bv xl bl hX hB hxn hbn est hfar hm hr
   have q1 : feq (zbp (xl.map zbm)) (cn 0) = true := by rw [zkj]; exact hm
   have q2 : feq (zbp (bl.map zbm)) (cn 0) = true := by rw [zkj]; exact hr
   refine .go Tryz.call22 Tryz.func22 false [] dOk ?_
   simp only [za0, Nat.reduceAdd])
  rotate_left
  (intro H c0 c1 c2 c3 c4 c5 c6 c7 c8 c9 c10 Rv Cv hRc hCc X Bv xl bl hX hB hxn hbn est hfar hm hr
   have q1 : feq (zbp (xl.map zbm)) (cn 0) = true := by rw [zkj]; exact hm
   have q2 : feq (zbp (bl.map zbm)) (cn 0) = false := by rw [zkj]; exact hr
   refine .go Tryz.call22 Tryz.func22 false [] dOk ?_
   simp only [za0, Nat.reduceAdd])
  rotate_left
  all_goals (repeat' (first
 |(refine zav ?_; (first | refine zbd ?_ | refine zao ?_ | fail))
 |(refine zaw ?_; (first | refine m14 ?_ | (refine m07 ?_; (first | refine m15 ?_ | refine m16 ?_ | fail)) | (refine m45 ?_; (first | refine zb3 (by exact rfl) ?_ | refine v_k ?_ | fail)) | (refine m00 ?_; (first | refine m52 ?_ | refine m53 ?_ | refine zc7 ?_ | refine m54 ?_ | refine m55 ?_ | refine zbx ?_ | refine m49 ?_ | refine m50 ?_ | refine zh7 (by omega) (by omega) ?_ | refine v_k ?_ | refine m51 ?_ | fail)) | refine m42 ?_ | refine zab ?_ | refine zac ?_ | refine m08 ?_ | refine zaj ?_ | refine m23 ?_ | refine m01 ?_ | fail))
 |refine zat ?_ | refine zau ?_ | refine zas ?_
 |(refine zax ?_; (first | refine zar ?_ | refine zad ?_ | (refine m06 ?_; (first | refine c_T ?_ | refine c_F ?_ | refine c_P ?_ ?_ | refine c_B ?_ ?_ | fail)) | refine zaq ?_ | refine zah ?_ | refine zae ?_ | refine b_exit ?_ | fail))
 |refine m43 ?_
 |refine zbv ?_
 |refine m21 ?_
 |refine za4 ?_
 |(refine za5 ?_; (first | refine cA (zpg _ X xl (hX _) (by omega)) ?_ | refine cA (zpg _ Bv bl (hB _) (by omega)) ?_ | refine cA (hfar _) ?_ | refine cA (qdl _ (fdiv est (zbp (xl.map zbm))) (zeh _ _).2 (zeh _ _).1) ?_ | refine cA (zz3 _) ?_ | fail))
 |refine zbh ?_ | refine zbi ?_ | refine zbg ?_ | refine m57 ?_
 |refine m05 ?_
 |refine m04 ?_ | refine m02 ?_ | refine m03 ?_ | refine zai ?_
 |intro _))
  all_goals first
    | (exfalso; contradiction)
    | (exfalso; omega)
    | (exfalso; simp_all; done)
    | (refine zal rfl (by simp [mx, mxL, zaf, aOf, zbn]) ?_; exact rfl)
theorem zlw : type_of% @zej.1 := @zej.1
theorem z3y : type_of% @zej.2.1 := @zej.2.1
theorem z3z : type_of% @zej.2.2.1 := @zej.2.2.1
theorem z3x : type_of% @zej.2.2.2 := @zej.2.2.2
theorem z0z (H : List (List AV)) (c0 c1 c2 c3 c4 c5 c6 Rv Cv : AV) (hRc : AV.cells Rv = some [Rv]) (hCc : AV.cells Cv = some [Cv]) (X Bv : AV) (xl bl : List Nat) (hX : ∀ H', FL (H ++ H') X xl) (hB : ∀ H', FL (H ++ H') Bv bl) (hxn : xl.length ≤ 64) (hbn : bl.length ≤ 64) (est : Nat) (hfar : ∀ N, zaa Tryz.prog 23 [.agg [c0, c1, c2, c3, c4, c5, c6, Rv, Cv], X, Bv] (H ++ N) (.flt est) (H ++ N)) (hm : feq (zbp (xl.map zbm)) 0 = false) :
    zaa Tryz.prog 24 [.agg [c0, c1, c2, c3, c4, c5, c6, Rv, Cv], X, Bv] H (.flt (upF (fdiv est (zbp (xl.map zbm))))) H := by
  have q1 : feq (zbp (xl.map zbm)) (cn 0) = false := by rw [zkj]; exact hm
  refine .go Tryz.call24 Tryz.func24 false [] dOk ?_
  simp only [za0, Nat.reduceAdd]
  repeat' (first
 |(refine zav ?_; (first | refine zbd ?_ | refine zao ?_ | fail))
 |(refine zaw ?_; (first | refine m14 ?_ | (refine m07 ?_; (first | refine m15 ?_ | refine m16 ?_ | refine zdy (hB _) (by omega) ?_ | fail)) | refine zam (by (conv => {lhs; whnf}); done) (by exact (hB []).len) ?_ | refine zbz (by (conv => {lhs; whnf}); done) (by (conv => {lhs; whnf}); done) (by exact (hB []).len) (by omega) ?_ | (refine m00 ?_; (first | refine zbo ((k + 1 : Nat) : Int) (by omega) (by omega) ?_ | refine m54 ?_ | refine m55 ?_ | refine zbx ?_ | refine m47 ?_ | refine m48 ?_ | refine m49 ?_ | refine m50 ?_ | refine v_k ?_ | refine m51 ?_ | fail)) | refine m42 ?_ | refine zab ?_ | refine zac ?_ | refine m08 ?_ | refine zaj ?_ | refine zam (by (conv => {lhs; whnf}); done) (by first | rfl | assumption) ?_ | refine m01 ?_ | fail))
 |refine zat ?_ | refine zau ?_ | refine zas ?_
 |(refine zax ?_; (first | refine zar ?_ | refine zad ?_ | (refine m06 ?_; (first | refine c_T ?_ | refine c_F ?_ | refine c_P ?_ ?_ | refine c_B ?_ ?_ | fail)) | refine zaq ?_ | refine zah ?_ | refine zae ?_ | refine b_exit ?_ | (refine za1 [2, 8] bl.length (fun k => ⟨[(2, .val Bv), (8, .val (.int .i64 ((k : Nat) : Int)))], [], H ++ []⟩) (by exact rfl) ?_ ?_ <;> (first | intro k hk K hK | intro K) <;> (try dsimp only at *)) | fail))
 |refine m43 ?_
 |refine zbv ?_
 |refine m21 ?_
 |refine za4 ?_
 |(refine za5 ?_; (first | refine cA (znj _ X xl (hX _) (by omega)) ?_ | refine cA (hfar _) ?_ | refine cA (zea _ _ _) ?_ | refine cA (z1f _ (fdiv est (zbp (xl.map zbm))) (zeh _ _).2 (zeh _ _).1) ?_ | refine cA (ztt _) ?_ | fail))
 |refine zbh ?_ | refine zbi ?_ | refine zbg ?_ | refine m57 ?_
 |refine zdp ?_ | refine zdq ?_ | refine zdo ?_
 |(refine zdr (by exact rfl) ?_; first | exact hK | fail | (exfalso; first | omega | (simp_all; done) | (simp_all; omega)))
 |refine m05 ?_
 |refine m04 ?_ | refine m02 ?_ | refine m03 ?_ | refine zai ?_
 |intro _)
  all_goals first
    | (have h9 := Fr.raw (n₀ := H.length) (keep := []) (H := H ++ []) 9218868437227405312; rw [zrp (Nat.le_refl _)] at h9; refine zb5 rfl ?_; exact h9)
    | (exfalso; contradiction)
    | (exfalso; omega)
    | (exfalso; have h8 := hr k (by omega); rw [← zkj] at h8; simp_all; done)
    | (exfalso; simp_all; done)
    | (refine zal rfl (by simp [mx, mxL, zaf, aOf, zbn]) ?_; exact rfl)
theorem z00 (H : List (List AV)) (c0 c1 c2 c3 c4 c5 c6 Rv Cv : AV) (hRc : AV.cells Rv = some [Rv]) (hCc : AV.cells Cv = some [Cv]) (X Bv : AV) (xl bl : List Nat) (hX : ∀ H', FL (H ++ H') X xl) (hB : ∀ H', FL (H ++ H') Bv bl) (hxn : xl.length ≤ 64) (hbn : bl.length ≤ 64) (est : Nat) (hfar : ∀ N, zaa Tryz.prog 23 [.agg [c0, c1, c2, c3, c4, c5, c6, Rv, Cv], X, Bv] (H ++ N) (.flt est) (H ++ N)) (hm : feq (zbp (xl.map zbm)) 0 = true) (hr : ∀ k, k < bl.length → feq (bl.getD k 0) 0 = true) :
    zaa Tryz.prog 24 [.agg [c0, c1, c2, c3, c4, c5, c6, Rv, Cv], X, Bv] H (.flt 0) H := by
  have q1 : feq (zbp (xl.map zbm)) (cn 0) = true := by rw [zkj]; exact hm
  refine .go Tryz.call24 Tryz.func24 false [] dOk ?_
  simp only [za0, Nat.reduceAdd]
  repeat' (first
 |(refine zav ?_; (first | refine zbd ?_ | refine zao ?_ | fail))
 |(refine zaw ?_; (first | refine m14 ?_ | (refine m07 ?_; (first | refine m15 ?_ | refine m16 ?_ | refine zdy (hB _) (by omega) ?_ | fail)) | refine zam (by (conv => {lhs; whnf}); done) (by exact (hB []).len) ?_ | refine zbz (by (conv => {lhs; whnf}); done) (by (conv => {lhs; whnf}); done) (by exact (hB []).len) (by omega) ?_ | (refine m00 ?_; (first | refine zbo ((k + 1 : Nat) : Int) (by omega) (by omega) ?_ | refine m54 ?_ | refine m55 ?_ | refine zbx ?_ | refine m47 ?_ | refine m48 ?_ | refine m49 ?_ | refine m50 ?_ | refine v_k ?_ | refine m51 ?_ | fail)) | refine m42 ?_ | refine zab ?_ | refine zac ?_ | refine m08 ?_ | refine zaj ?_ | refine zam (by (conv => {lhs; whnf}); done) (by first | rfl | assumption) ?_ | refine m01 ?_ | fail))
 |refine zat ?_ | refine zau ?_ | refine zas ?_
 |(refine zax ?_; (first | refine zar ?_ | refine zad ?_ | (refine m06 ?_; (first | refine c_T ?_ | refine c_F ?_ | refine c_P ?_ ?_ | refine c_B ?_ ?_ | fail)) | refine zaq ?_ | refine zah ?_ | refine zae ?_ | refine b_exit ?_ | (refine za1 [2, 8] bl.length (fun k => ⟨[(2, .val Bv), (8, .val (.int .i64 ((k : Nat) : Int)))], [], H ++ []⟩) (by exact rfl) ?_ ?_ <;> (first | intro k hk K hK | intro K) <;> (try dsimp only at *)) | fail))
 |refine m43 ?_
 |refine zbv ?_
 |refine m21 ?_
 |refine za4 ?_
 |(refine za5 ?_; (first | refine cA (znj _ X xl (hX _) (by omega)) ?_ | refine cA (hfar _) ?_ | refine cA (zea _ _ _) ?_ | refine cA (z1f _ (fdiv est (zbp (xl.map zbm))) (zeh _ _).2 (zeh _ _).1) ?_ | refine cA (ztt _) ?_ | fail))
 |refine zbh ?_ | refine zbi ?_ | refine zbg ?_ | refine m57 ?_
 |refine zdp ?_ | refine zdq ?_ | refine zdo ?_
 |(refine zdr (by exact rfl) ?_; first | exact hK | (exfalso; have h8 := hr k (by omega); rw [← zkj] at h8; simp_all; done) | (exfalso; first | omega | (simp_all; done) | (simp_all; omega)))
 |refine m05 ?_
 |refine m04 ?_ | refine m02 ?_ | refine m03 ?_ | refine zai ?_
 |intro _)
  all_goals first
    | (have h9 := Fr.raw (n₀ := H.length) (keep := []) (H := H ++ []) 9218868437227405312; rw [zrp (Nat.le_refl _)] at h9; refine zb5 rfl ?_; exact h9)
    | (exfalso; contradiction)
    | (exfalso; omega)
    | (exfalso; have h8 := hr k (by omega); rw [← zkj] at h8; simp_all; done)
    | (exfalso; simp_all; done)
    | (refine zal rfl (by simp [mx, mxL, zaf, aOf, zbn]) ?_; exact rfl)
theorem z0y (H : List (List AV)) (c0 c1 c2 c3 c4 c5 c6 Rv Cv : AV) (hRc : AV.cells Rv = some [Rv]) (hCc : AV.cells Cv = some [Cv]) (X Bv : AV) (xl bl : List Nat) (hX : ∀ H', FL (H ++ H') X xl) (hB : ∀ H', FL (H ++ H') Bv bl) (hxn : xl.length ≤ 64) (hbn : bl.length ≤ 64) (est : Nat) (hfar : ∀ N, zaa Tryz.prog 23 [.agg [c0, c1, c2, c3, c4, c5, c6, Rv, Cv], X, Bv] (H ++ N) (.flt est) (H ++ N)) (hm : feq (zbp (xl.map zbm)) 0 = true) (z : Nat) (hzl : z < bl.length) (hr : ∀ k, k < z → feq (bl.getD k 0) 0 = true) (hz : feq (bl.getD z 0) 0 = false) :
    zaa Tryz.prog 24 [.agg [c0, c1, c2, c3, c4, c5, c6, Rv, Cv], X, Bv] H (.flt 9218868437227405312) H := by
  have q1 : feq (zbp (xl.map zbm)) (cn 0) = true := by rw [zkj]; exact hm
  have q2 : feq (bl.getD z 0) (cn 0) = false := by rw [zkj]; exact hz
  refine .go Tryz.call24 Tryz.func24 false [] dOk ?_
  simp only [za0, Nat.reduceAdd]
  repeat' (first
 |(refine zav ?_; (first | refine zbd ?_ | refine zao ?_ | fail))
 |(refine zaw ?_; (first | refine m14 ?_ | (refine m07 ?_; (first | refine m15 ?_ | refine m16 ?_ | refine zdy (hB _) (by omega) ?_ | fail)) | refine zam (by (conv => {lhs; whnf}); done) (by exact (hB []).len) ?_ | refine zbz (by (conv => {lhs; whnf}); done) (by (conv => {lhs; whnf}); done) (by exact (hB []).len) (by omega) ?_ | (refine m00 ?_; (first | refine zbo ((k + 1 : Nat) : Int) (by omega) (by omega) ?_ | refine m54 ?_ | refine m55 ?_ | refine zbx ?_ | refine m47 ?_ | refine m48 ?_ | refine m49 ?_ | refine m50 ?_ | refine v_k ?_ | refine m51 ?_ | fail)) | refine m42 ?_ | refine zab ?_ | refine zac ?_ | refine m08 ?_ | refine zaj ?_ | refine zam (by (conv => {lhs; whnf}); done) (by first | rfl | assumption) ?_ | refine m01 ?_ | fail))
 |refine zat ?_ | refine zau ?_ | refine zas ?_
 |(refine zax ?_; (first | refine zar ?_ | refine zad ?_ | (refine m06 ?_; (first | refine c_T ?_ | refine c_F ?_ | refine c_P ?_ ?_ | refine c_B ?_ ?_ | fail)) | refine zaq ?_ | refine zah ?_ | refine zae ?_ | refine b_exit ?_ | (refine za1 [2, 8] z (fun k => ⟨[(2, .val Bv), (8, .val (.int .i64 ((k : Nat) : Int)))], [], H ++ []⟩) (by exact rfl) ?_ ?_ <;> (first | intro k hk K hK | intro K) <;> (try dsimp only at *)) | fail))
 |refine m43 ?_
 |refine zbv ?_
 |refine m21 ?_
 |refine za4 ?_
 |(refine za5 ?_; (first | refine cA (znj _ X xl (hX _) (by omega)) ?_ | refine cA (hfar _) ?_ | refine cA (zea _ _ _) ?_ | refine cA (z1f _ (fdiv est (zbp (xl.map zbm))) (zeh _ _).2 (zeh _ _).1) ?_ | refine cA (ztt _) ?_ | fail))
 |refine zbh ?_ | refine zbi ?_ | refine zbg ?_ | refine m57 ?_
 |refine zdp ?_ | refine zdq ?_ | refine zdo ?_
 |(refine zdr (by exact rfl) ?_; first | exact hK | (exfalso; have h8 := hr k (by omega); rw [← zkj] at h8; simp_all; done) | (exfalso; first | omega | (simp_all; done) | (simp_all; omega)))
 |refine m05 ?_
 |refine m04 ?_ | refine m02 ?_ | refine m03 ?_ | refine zai ?_
 |intro _)
  all_goals first
    | (have h9 := Fr.raw (n₀ := H.length) (keep := []) (H := H ++ []) 9218868437227405312; rw [zrp (Nat.le_refl _)] at h9; refine zb5 rfl ?_; exact h9)
    | (exfalso; contradiction)
    | (exfalso; omega)
    | (exfalso; have h8 := hr k (by omega); rw [← zkj] at h8; simp_all; done)
    | (exfalso; simp_all; done)
    | (refine zal rfl (by simp [mx, mxL, zaf, aOf, zbn]) ?_; exact rfl)
end Go.Sx
set_option linter.unusedVariables false
set_option linter.unusedSimpArgs false
namespace Go.Sx
def zpx (op : BinOp) (b : Int) : Bool :=
  match op with
  | .quo | .rem => !(b == 0)
  | .shl | .shr => decide (0 ≤ b)
  | _ => true
def qa5 (op : BinOp) (x y : AV) : Bool :=
  match op, x, y with
  | .add, .str a, .str b => decide (a.size + b.size ≤ 9223372036854775807)
  | _, _, _ => true
def zrr (op : BinOp) (x y : EV) : Bool :=
  match x, y with
  | .val (.int _ _), .val (.int _ b) => zpx op b
  | .val x, .val y => qa5 op x y
  | _, _ => true
def zpz (P : Program) (n : Nat) (l : Int) (h : Option Int) : Bool :=
  match h with
  | some h => decide (0 ≤ l) && decide (l ≤ h) && decide (h ≤ (n : Int))
  | none => false
def z7p (P : Program) (t : TypeId) (n : Int) : Bool :=
  match qa9 P t with
  | some (len, _) => decide (0 ≤ n) && decide (n < (len : Int))
  | none => false
def zpy (P : Program) (ρ : Operand → EV) : Op → Bool
  | .binOp op t x y _ => zrr op (ρ x) (ρ y)
  | .indexAddr t x i =>
    match ρ x, zmm (ρ i) with
    | .val s, some n => match slen s with
      | some len => decide (0 ≤ n) && decide (n < (len : Int))
      | none => z7p P t n
    | _, some n => z7p P t n
    | _, _ => false
  | .slice t x lo hi none =>
    match ρ x, zib ρ 0 lo with
    | .val v, some l => (match v with
      | .str s => zpz P s.size l (zib ρ s.size hi)
      | v => match slen v with
        | some n => zpz P n l (zib ρ n hi)
        | none => false)
    | _, _ => false
  | .index t x i =>
    match ρ x, zmm (ρ i) with
    | .val (.str s), some n => decide (0 ≤ n) && decide (n < s.size)
    | _, _ => false
  | _ => true
theorem zra {op : BinOp} {k : IntKind} {a b : Int} {c : Prop} {v : AV} (h : z3i op k a b = some (c, v)) (hc : zpx op b = true) : c := by
  cases op <;> simp only [z3i, Option.some.injEq, Prod.mk.injEq, reduceCtorEq] at h <;> (try exact h.elim) <;> obtain ⟨rfl, _⟩ := h <;> first | trivial | (simpa [zpx] using hc)
theorem zwu {op : BinOp} {k : IntKind} {a b : Int} {c : Prop} {v : AV} (h : shI op k a b = some (c, v)) (hc : zpx op b = true) : c := by
  cases op <;> simp only [shI, Option.some.injEq, Prod.mk.injEq, reduceCtorEq] at h <;> (try exact h.elim) <;> obtain ⟨rfl, _⟩ := h <;> first | trivial | (simpa [zpx] using hc)
theorem zq9 {op : BinOp} {a b : Nat} {c : Prop} {v : AV} (h : z3h op a b = some (c, v)) : c := by
  cases op <;> simp only [z3h, Option.some.injEq, Prod.mk.injEq, reduceCtorEq] at h <;> (try exact h.elim) <;> obtain ⟨rfl, _⟩ := h <;> trivial
theorem zti {P : Program} {op : BinOp} {t : TypeId} {x y : AV} {c : Prop} {v : AV} (h : z0r P op t x y = some (c, v)) (hc : qa5 op x y = true) : c := by
  unfold z0r at h
  split at h
  · cases op <;> simp only [qa6, Option.some.injEq, Prod.mk.injEq, reduceCtorEq] at h <;> (try exact h.elim) <;> obtain ⟨rfl, _⟩ := h <;> first | trivial | (simpa [qa5] using hc)
  · split at h
    · simp only [Option.map_eq_some_iff, Prod.mk.injEq] at h
      obtain ⟨_, _, rfl, _⟩ := h; trivial
    · simp only [Option.map_eq_some_iff, Prod.mk.injEq] at h
      obtain ⟨_, _, rfl, _⟩ := h; trivial
    · cases h
  · split at h
    · simp only [Option.map_eq_some_iff, Prod.mk.injEq] at h
      obtain ⟨_, _, rfl, _⟩ := h; trivial
    · simp only [Option.map_eq_some_iff, Prod.mk.injEq] at h
      obtain ⟨_, _, rfl, _⟩ := h; trivial
    · cases h
theorem zrb {P : Program} {op : BinOp} {t : TypeId} {x y : EV} {c : Prop} {v : AV} (h : znw P op t x y = some (c, v)) (hc : zrr op x y = true) : c := by
  unfold znw at h
  split at h
  · rename_i k a k' b
    have hc' : zpx op b = true := hc
    cases op <;> first
      | exact zwu h hc'
      | (dsimp only at h; split at h; · exact zra h hc'
         · cases h)
  · split at h <;> first | (cases h; trivial) | cases h
  · rename_i x y hi _
    split at h
    · exact zq9 h
    · refine zti h ?_
      unfold zrr at hc
      split at hc
      · rename_i he1 he2; cases he1; cases he2; exact (hi _ _ _ _ rfl rfl).elim
      · rename_i he1 he2; cases he1; cases he2; exact hc
      · rename_i hne; exact (hne _ _ rfl rfl).elim
  · cases h
theorem zwz {op : UnOp} {x : EV} {c : Prop} {v : AV} (h : unV op x = some (c, v)) : c := by
  unfold unV at h
  split at h
  · cases h; trivial
  · cases h; trivial
  · cases h; trivial
  · simp only [Option.map_eq_some_iff, Prod.mk.injEq] at h
    obtain ⟨_, _, rfl, _⟩ := h; trivial
  · cases h
theorem zrq {P : Program} {t : TypeId} {x : EV} {c : Prop} {v : AV} (h : zu9 P t x = some (c, v)) : c := by
  unfold zu9 at h
  split at h
  · cases h; trivial
  · cases h; trivial
  · simp only [Option.map_eq_some_iff, Prod.mk.injEq] at h
    obtain ⟨_, _, rfl, _⟩ := h; trivial
  · cases h
theorem z0d {α β : Type} {o : Option (α)} {f : α → Prop × β} {c : Prop} {v : β} (h : o.map f = some (c, v)) : ∃ a, o = some a ∧ f a = (c, v) := by
  simpa [Option.map_eq_some_iff] using h
theorem zqg {P : Program} {ρ : Operand → EV} {lL : Nat → Option (List AV)} {H : List (List AV)} {op : Op} {c : Prop} {v : EV} (h : za2 P ρ lL H op = some (c, v)) (hc : zpy P ρ op = true) : c := by
  cases op
  case binOp op t x y t' =>
    simp only [za2] at h
    simp only [zpy] at hc
    split at h
    · rename_i he
      cases h
      exact zrb he hc
    · obtain ⟨a, _, hh⟩ := z0d h
      cases hh; trivial
  case unOp op t x =>
    simp only [za2] at h
    obtain ⟨⟨c', v'⟩, h1, hh⟩ := z0d h
    cases hh
    exact zwz h1
  case convert s d x =>
    simp only [za2] at h
    split at h
    · obtain ⟨⟨c', v'⟩, h1, hh⟩ := z0d h
      cases hh
      exact zrq h1
    · cases h
  case indexAddr t x i =>
    simp only [za2] at h
    simp only [zpy] at hc
    split at h
    · rename_i h1 h2 h3
      rw [h2, h3] at hc
      dsimp only at hc
      cases hs : slen _ with
      | none => rw [hs] at h; cases h
      | some len =>
        rw [hs] at h hc
        simp only [Option.bind_some, Option.map_eq_some_iff, Prod.mk.injEq] at h
        obtain ⟨_, _, rfl, _⟩ := h
        simpa using hc
    · rename_i x2 x3 n h1 h3
      rw [h3] at hc
      simp only [Option.bind_eq_some_iff] at h
      obtain ⟨⟨len, e⟩, ht, z, hz, h⟩ := h
      have hA : z7p P t n = true → 0 ≤ n ∧ n < (len : Int) := by
        intro hh
        unfold z7p at hh
        rw [ht] at hh
        simpa using hh
      dsimp only at h
      split at h
      · rename_i key off he
        rw [he] at hc
        simp only [Option.some.injEq, Prod.mk.injEq] at h
        obtain ⟨rfl, _⟩ := h
        exact hA hc
      · rename_i s off he
        rw [he] at hc
        simp only [Option.some.injEq, Prod.mk.injEq] at h
        obtain ⟨rfl, _⟩ := h
        exact hA hc
      · cases h
    · cases h
  case slice t x lo hi m =>
    cases m with
    | some m => simp [za2] at h
    | none =>
      simp only [za2] at h
      simp only [zpy] at hc
      obtain ⟨⟨c', v'⟩, h1, hh⟩ := z0d h
      cases hh
      unfold zkb at h1
      split at h1
      · rename_i s l hx hl
        rw [hx, hl] at hc
        split at h1
        · obtain ⟨a, h2, hh⟩ := z0d h1
          cases hh
          have h2' : zib ρ s.size hi = some a := h2
          have hc' : zpz P s.size l (zib ρ s.size hi) = true := hc
          rw [h2'] at hc'
          simp only [zpz, Bool.and_eq_true, decide_eq_true_eq] at hc'
          exact ⟨hc'.1.1, hc'.1.2, hc'.2⟩
        · cases h1
      · rename_i v₂ l hne hx hl
        rw [hx, hl] at hc
        simp only [Option.bind_eq_some_iff, Option.map_eq_some_iff, Prod.mk.injEq] at h1
        obtain ⟨e, h2, z, h3, n, h4, hh, h5, a, h6, rfl, _⟩ := h1
        have hc' : zpz P n l (zib ρ n hi) = true := by
          cases v₂ <;> first
            | (simp only [slen] at h4; cases h4; done)
            | (simp only [slen, Option.some.injEq] at h4; subst h4; exact hc)
            | skip
        rw [h5] at hc'
        simp only [zpz, Bool.and_eq_true, decide_eq_true_eq] at hc'
        exact ⟨hc'.1.1, hc'.1.2, hc'.2⟩
      · cases h1
  case index t x i =>
    simp only [za2] at h
    simp only [zpy] at hc
    obtain ⟨⟨c', v'⟩, h1, hh⟩ := z0d h
    cases hh
    unfold zsi at h1
    split at h1
    · rename_i s n h2 h3 h4
      rw [h3, h4] at hc
      simp only [Bool.and_eq_true, decide_eq_true_eq] at hc
      cases h1
      exact hc
    · cases h1
  case move => cases h; trivial
  case assign => cases h; trivial
  case pick a b d =>
    simp only [za2] at h
    obtain ⟨_, _, hh⟩ := z0d h
    cases hh; trivial
  case call c' =>
    obtain ⟨callee, args, ts⟩ := c'
    cases callee with
    | value f => simp [za2] at h
    | invoke r m => simp [za2] at h
    | builtin b =>
      cases b <;> simp only [za2, reduceCtorEq] at h
      all_goals (repeat' split at h) <;> first
        | (cases h; done)
        | (cases h; trivial)
        | (simp only [Option.map_eq_some_iff, Prod.mk.injEq] at h; obtain ⟨_, _, rfl, _⟩ := h; trivial)
  case makeFunc f first caps =>
    cases f <;> simp only [za2, reduceCtorEq] at h
    split at h <;> first
      | (cases h; done)
      | (cases h; trivial)
  all_goals first
    | (simp [za2] at h; done)
    | skip
  all_goals
    simp only [za2, Option.bind_eq_some_iff, Option.map_eq_some_iff, Prod.mk.injEq] at h
    first
    | (obtain ⟨_, _, rfl, _⟩ := h; trivial)
    | (repeat' split at h
       all_goals first
        | (cases h; done)
        | (cases h; trivial)
        | (simp only [Option.bind_eq_some_iff, Option.map_eq_some_iff, Prod.mk.injEq] at h; obtain ⟨_, _, _, _, rfl, _⟩ := h; trivial)
        | (simp only [Option.bind_eq_some_iff, Option.map_eq_some_iff, Prod.mk.injEq] at h; obtain ⟨_, _, _, _, _, _, rfl, _⟩ := h; trivial)
        | (simp only [Option.bind_eq_some_iff, Option.map_eq_some_iff, Prod.mk.injEq] at h; obtain ⟨_, _, _, _, _, _, _, _, rfl, _⟩ := h; trivial)
        | (simp only [Option.bind_eq_some_iff, Option.map_eq_some_iff, Prod.mk.injEq] at h; obtain ⟨_, _, rfl, _⟩ := h; trivial)
        | skip)
    | skip
  all_goals
    obtain ⟨_, _, h⟩ := h
    first
    | (cases h; done)
    | (split at h <;> first | (cases h; done) | (cases h; trivial))
structure EffR where
  v : Option EV
  l : Option (Nat × List AV)
  H : Option (List (List AV))
def EffR.eff (e : EffR) (H : List (List AV)) : Eff := ⟨e.v, e.l, e.H.getD H⟩
def newR (cfg : Cfg) (nl : Nat → Bool) (H : List (List AV)) (dst : Option Tmp) (cs : List AV) : Option EffR :=
  match dst with
  | none => none
  | some d =>
    if cfg.esc then some ⟨some (.val (.eptr (.slm H.length cs.length 0 1 cs.length) 0)), none, some (H ++ [cs])⟩
    else if nl d then some ⟨some (.loc d 0), some (d, cs), none⟩ else none
theorem zs8 {cfg : Cfg} {nl : Nat → Bool} {NL : Nat → Prop} (hnl : ∀ d, nl d = true → NL d) {H : List (List AV)} {dst : Option Tmp} {cs : List AV} {e : EffR} {K : Eff → Prop} (h : newR cfg nl H dst cs = some e) (hK : K (e.eff H)) : newX cfg NL H dst cs K := by
  unfold newR at h; unfold newX
  cases dst with
  | none => cases h
  | some d =>
    dsimp only at h ⊢
    split at h
    · rename_i he; cases h; rw [if_pos he]; exact hK
    · rename_i he
      rw [if_neg he]
      split at h
      · rename_i hn; cases h; exact ⟨hnl d hn, hK⟩
      · cases h
def zt6 (cfg : Cfg) (lL : Nat → Option (List AV)) (H : List (List AV)) (x : EV) (vs : List AV) : Option EffR :=
  match x with
  | .loc key off =>
    match lL key with
    | some cs => if off + vs.length ≤ cs.length then some ⟨none, some (key, sc cs off vs), none⟩ else none
    | none => none
  | .val (.eptr (.slm id gen o _ _) off) =>
    match H[id]? with
    | some cs => if cs.length = gen ∧ o + off + vs.length ≤ cs.length ∧ (cfg.n0 ≤ id ∨ mxL vs ≤ cfg.n0) then some ⟨none, none, some (H.set id (sc cs (o + off) vs))⟩ else none
    | none => none
  | _ => none
theorem zt7 {cfg : Cfg} {lL : Nat → Option (List AV)} {H : List (List AV)} {x : EV} {vs : List AV} {e : EffR} {K : Eff → Prop} (h : zt6 cfg lL H x vs = some e) (hK : K (e.eff H)) : zfa cfg lL H x vs K := by
  unfold zt6 at h; unfold zfa
  split at h
  · dsimp only
    split at h
    · rename_i hl
      rw [hl]; dsimp only
      split at h
      · rename_i hh; cases h; exact ⟨hh, hK⟩
      · cases h
    · cases h
  · dsimp only
    split at h
    · rename_i hl
      rw [hl]; dsimp only
      split at h
      · rename_i hh; cases h; exact ⟨hh.1, hh.2.1, hh.2.2, hK⟩
      · cases h
    · cases h
  · cases h
def z8j (cfg : Cfg) (sz : Nat) (H : List (List AV)) (s : AV) (n : Nat) (xs : List AV) : Option EffR :=
  match s with
  | .slnil => if n ≤ 4294967296 then (if n = 0 then some ⟨some (.val .slnil), none, none⟩ else some ⟨some (.val (.slm H.length xs.length 0 n sz)), none, some (H ++ [xs])⟩) else none
  | .slm id gen o len z =>
    match H[id]? with
    | some cs => if z = sz ∧ cs.length = gen ∧ o = 0 ∧ len * sz = gen ∧ len + n ≤ 4294967296 ∧ (cfg.n0 ≤ id ∨ mxL xs ≤ cfg.n0) then
        some ⟨some (.val (.slm id (cs.length + xs.length) 0 (len + n) sz)), none, some (H.set id (cs ++ xs))⟩ else none
    | none => none
  | _ => none
theorem zyw {cfg : Cfg} {sz : Nat} {H : List (List AV)} {s : AV} {n : Nat} {xs : List AV} {e : EffR} {K : Eff → Prop} (h : z8j cfg sz H s n xs = some e) (hK : K (e.eff H)) : zpo cfg sz H s n xs K := by
  unfold z8j at h; unfold zpo
  split at h
  · dsimp only
    split at h
    · rename_i hn
      split at h
      · rename_i h0; cases h; exact ⟨hn, fun _ => hK, fun hh => (hh h0).elim⟩
      · rename_i h0; cases h; exact ⟨hn, fun hh => (h0 hh).elim, fun _ => hK⟩
    · cases h
  · dsimp only
    split at h
    · rename_i hl
      rw [hl]; dsimp only
      split at h
      · rename_i hh; cases h; exact ⟨hh.1, hh.2.1, hh.2.2.1, hh.2.2.2.1, hh.2.2.2.2.1, hh.2.2.2.2.2, hK⟩
      · cases h
    · cases h
  · cases h
def z9a (cfg : Cfg) (sz : Nat) (H : List (List AV)) (d : AV) (n : Nat) (xs : List AV) : Option EffR :=
  match d with
  | .slm id gen o len z =>
    match H[id]? with
    | some cs => if z = sz ∧ cs.length = gen ∧ (cfg.n0 ≤ id ∨ mxL xs ≤ cfg.n0) ∧ o + len * sz ≤ cs.length then
        some ⟨some (.val (.int .i64 (min n len : Nat))), none, some (H.set id (sc cs o (xs.take (min n len * sz))))⟩ else none
    | none => none
  | _ => none
theorem zzi {cfg : Cfg} {sz : Nat} {H : List (List AV)} {s : AV} {n : Nat} {xs : List AV} {e : EffR} {K : Eff → Prop} (h : z9a cfg sz H s n xs = some e) (hK : K (e.eff H)) : zqw cfg sz H s n xs K := by
  unfold z9a at h; unfold zqw
  split at h
  · dsimp only
    split at h
    · rename_i hl
      rw [hl]; dsimp only
      split at h
      · rename_i hh; cases h; exact ⟨hh.1, hh.2.1, hh.2.2.1, hh.2.2.2, hK⟩
      · cases h
    · cases h
  · cases h
abbrev zpi := Nat → List AV → List (List AV) → Option (AV × List (List AV))
def z0v (P : Program) (ρ : Operand → EV) (lL : Nat → Option (List AV)) (H : List (List AV)) (op : Op) : Option EffR :=
  match za2 P ρ lL H op with
  | some (c, v) => if zpy P ρ op then some ⟨some v, none, none⟩ else none
  | none => none
def opR (P : Program) (cfg : Cfg) (call : zpi) (ρ : Operand → EV) (nl : Nat → Bool) (lL : Nat → Option (List AV)) (H : List (List AV)) (o : Oper) : Option EffR :=
  match o.op with
  | .alloc t =>
    match (zju P t).bind AV.cells with
    | some cs => newR cfg nl H o.dst cs
    | none => none
  | .box t x =>
    match ((ρ x).asV).bind AV.cells with
    | some cs => newR cfg nl H o.dst cs
    | none => none
  | .store t x v =>
    match ((ρ v).asV).bind AV.cells with
    | some vs => if tsz P t = some vs.length ∧ o.dst.isNone = true then zt6 cfg lL H (ρ x) vs else none
    | none => none
  | .buildSlice t len parts =>
    match zhf P t with
    | some (s, _, zc) =>
      match zed (fun i => some (i * s, s)) (zli len zc) (parts.toList.map fun (i, x) => (i, (ρ x).asV)) with
      | some cs => if zc.length = s ∧ 0 < s ∧ len * s ≤ 16777216 then
          (if o.dst.any cfg.fz.contains then some ⟨some (.val (.sl none len cs)), none, none⟩ else some ⟨some (.val (.slm H.length cs.length 0 len s)), none, some (H ++ [cs])⟩) else none
      | none => none
    | none => none
  | .makeSlice t l c =>
    match zhf P t, (ρ l).asI, (ρ c).asI with
    | some (s, by_, zc), some (_, n), some (_, m) =>
      if n = m ∧ 0 ≤ n ∧ n ≤ 4294967296 ∧ by_ ≤ 1024 ∧ zc.length = s ∧ 0 < s then
        some ⟨some (.val (.slm H.length (zli n.toNat zc).length 0 n.toNat s)), none, some (H ++ [zli n.toNat zc])⟩ else none
    | _, _, _ => none
  | .call { callee := .builtin .append, args := args, argTypes := ts } =>
    match args.toList.map (fun x => (ρ x).asV), ts.toList with
    | [some s, some x], [t, tx] =>
      match zhf P t, zfh P tx with
      | some (sz, by_, zc), some _ =>
        match zkc H sz x with
        | some (n, xs) => if by_ ≤ 1024 ∧ 0 < by_ ∧ zc.length = sz ∧ 0 < sz then z8j cfg sz H s n xs else none
        | none => none
      | _, _ => none
    | _, _ => none
  | .call { callee := .builtin .copy, args := args, argTypes := ts } =>
    match args.toList.map (fun x => (ρ x).asV), ts.toList with
    | [some d, some x], [t, tx] =>
      match (zfh P t).bind (tsz P), zfh P tx with
      | some sz, some _ =>
        match zkc H sz x with
        | some (n, xs) => if 0 < sz then z9a cfg sz H d n xs else none
        | none => none
      | _, _ => none
    | _, _ => none
  | .call { callee := .value f, args := args, .. } =>
    match ρ f, zga ρ args.toList with
    | .val (.func id first caps), some vs =>
      match call id (first ++ vs ++ caps) H with
      | some (r, H') => if (H'.take cfg.n0).all (fun cs => decide (mxL cs ≤ cfg.n0)) then some ⟨some (.val r), none, some H'⟩ else none
      | none => none
    | _, _ => none
  | op => z0v P ρ lL H op
theorem z5j {P : Program} {cfg : Cfg} {call : zpi} (hcall : ∀ f args H r H', call f args H = some (r, H') → zaa P f args H r H') {ρ : Operand → EV} {nl : Nat → Bool} {NL : Nat → Prop} (hnl : ∀ d, nl d = true → NL d)
    {lL : Nat → Option (List AV)} {H : List (List AV)} {o : Oper} {e : EffR} {K : Eff → Prop} (h : opR P cfg call ρ nl lL H o = some e) (hK : K (e.eff H)) : opE P cfg ρ NL lL H o K := by
  have pure : ∀ op, z0v P ρ lL H op = some e →
      (match za2 P ρ lL H op with | some (c, v) => c ∧ K ⟨some v, none, H⟩ | none => False) := by
    intro op h
    unfold z0v at h
    split at h
    · rename_i c v hv
      split at h
      · rename_i hc; cases h; exact ⟨zqg hv hc, hK⟩
      · cases h
    · cases h
  obtain ⟨d, op, ty, pos, aft, gd⟩ := o
  unfold opR at h; unfold opE
  cases op
  case alloc t =>
    dsimp only at h ⊢
    split at h
    · rename_i he; rw [he]; exact zs8 hnl h hK
    · cases h
  case box t x =>
    dsimp only at h ⊢
    split at h
    · rename_i he; rw [he]; exact zs8 hnl h hK
    · cases h
  case store t x v =>
    dsimp only at h ⊢
    split at h
    · rename_i he
      rw [he]; dsimp only
      split at h
      · rename_i hh; exact ⟨hh.1, by cases d <;> simp_all, zt7 h hK⟩
      · cases h
    · cases h
  case buildSlice t len parts =>
    dsimp only at h ⊢
    split at h
    · rename_i he
      rw [he]; dsimp only
      split at h
      · rename_i he'
        rw [he']; dsimp only
        split at h
        · rename_i hh
          refine ⟨hh.1, hh.2.1, hh.2.2, ?_⟩
          split at h
          · rename_i hz; cases h; rw [if_pos hz]; exact hK
          · rename_i hz; cases h; rw [if_neg hz]; exact hK
        · cases h
      · cases h
    · cases h
  case makeSlice t l c =>
    dsimp only at h ⊢
    split at h
    · rename_i he1 he2 he3
      rw [he1, he2, he3]; dsimp only
      split at h
      · rename_i hh; cases h; exact ⟨hh.1, hh.2.1, hh.2.2.1, hh.2.2.2.1, hh.2.2.2.2.1, hh.2.2.2.2.2, hK⟩
      · cases h
    · cases h
  case call c' =>
    obtain ⟨callee, args, ts⟩ := c'
    cases callee with
    | invoke r m => (dsimp only at h ⊢; exact pure _ h)
    | value f =>
      dsimp only at h ⊢
      split at h
      · rename_i he1 he2
        rw [he1, he2]; dsimp only
        split at h
        · rename_i r H' hc
          split at h
          · rename_i ho
            cases h
            refine ⟨_, _, hcall _ _ _ _ _ hc, fun id cs hid hcs => .inr ?_, hK⟩
            simp only [List.all_eq_true, decide_eq_true_eq] at ho
            exact ho cs (List.mem_of_getElem? (by rw [List.getElem?_take, if_pos hid]; exact hcs))
          · cases h
        · cases h
      · cases h
    | builtin b =>
      cases b
      case append =>
        dsimp only at h ⊢
        split at h
        · rename_i ha hb
          rw [ha, hb]; dsimp only
          split at h
          · rename_i h1 h2
            rw [h1, h2]; dsimp only
            split at h
            · rename_i h3
              rw [h3]; dsimp only
              split at h
              · rename_i hh
                exact ⟨hh.1, hh.2.1, hh.2.2.1, hh.2.2.2, zyw h hK⟩
              · cases h
            · cases h
          · cases h
        · cases h
      case copy =>
        dsimp only at h ⊢
        split at h
        · rename_i ha hb
          rw [ha, hb]; dsimp only
          split at h
          · rename_i h1 h2
            rw [h1, h2]; dsimp only
            split at h
            · rename_i h3
              rw [h3]; dsimp only
              split at h
              · rename_i hh
                exact ⟨hh, zzi h hK⟩
              · cases h
            · cases h
          · cases h
        · cases h
      all_goals (dsimp only at h ⊢; exact pure _ h)
  all_goals (dsimp only at h ⊢; exact pure _ h)
end Go.Sx
