/- A part of the proofs of this seat: YI. No condition is set. -/
import Derived.Test.YthjjpbcmimpjbaaGreatYE
import Derived.Test.YthjjpbcmimpjbaaGreatYF
import Derived.Test.YthjjpbcmimpjbaaGreatYG
import Derived.Test.YthjjpbcmimpjbaaGreatYH
set_option maxHeartbeats 16000000
set_option linter.unusedVariables false
set_option linter.unusedSimpArgs false
set_option linter.unusedSectionVars false
set_option maxRecDepth 20000
namespace Go.Sx
open Go.Proofs
theorem zrf (H : List (List AV)) (x : Nat) (hx : pK x = 0) : zaa Tryz.prog 61 [.flt x] H (.int .u64 (x : Int)) H := by
  refine .inr ⟨rfl, fun w g cargs h => ?_⟩
  simp only [zbq] at h
  obtain ⟨v, r, hv, h1, rfl⟩ := h
  simp only [zay] at h1
  obtain ⟨b, rfl, h2, h3⟩ := h1
  have : cargs = #[.float .f64 b] := Array.ext' hv
  subst this
  have hb := zgu hx h3
  subst hb
  exact ⟨_, znz b w, by simp [zay]⟩
theorem zfi {e : List (Nat × EV)} {L : List (Nat × List AV)} {H : List (List AV)} {K : St → Prop} {dd : Nat} {a : Int} (h : 0 ≤ a ∧ a ≤ 2047) (hk : K ⟨(dd, .val (.int .u64 (a * 4503599627370496))) :: e, L, H⟩) : zb8 dd K ⟨e, L, H⟩ (some (0 ≤ (52 : Int), .int .u64 (IntKind.u64.wrap (a * 2 ^ (min (52 : Int).toNat IntKind.u64.bits))))) := by
  have : (2 : Int) ^ (min (52 : Int).toNat IntKind.u64.bits) = 4503599627370496 := by decide
  rw [this, zqv (by omega)]
  exact ⟨by decide, hk⟩
theorem zjk {e : List (Nat × EV)} {L : List (Nat × List AV)} {H : List (List AV)} {K : St → Prop} {dd : Nat} {k : IntKind} {n m : Int} (h : n = m) (hk : K ⟨(dd, .val (.int k m)) :: e, L, H⟩) : zb8 dd K ⟨e, L, H⟩ (some (True, .int k n)) := by
  subst h; exact ⟨trivial, hk⟩
section
attribute [local irreducible] Ex za3 exD opX opE zca zd3 zd4 Spec zaa Fr zb9 zbb zba ckK zb8 zb6 zbu faK zb4 zd1 gK fK rK zeq lpX prK
theorem zsn (H : List (List AV)) (x : Nat) :
    zaa Tryz.prog 182 [.flt x, .int .i64 0] H (.bool (flt 9218868437227405311 (zbm x))) H := by
  refine .go Tryz.call182 Tryz.func182 false [] dOk ?_
  simp only [za0, Nat.reduceAdd]
  repeat' (first
 |(refine zav ?_; (first | refine zbd ?_ | refine zao ?_ | fail))
 |(refine zaw ?_; (first | refine m14 ?_ | (refine m45 ?_; (first | refine zb3 (by exact rfl) ?_ | refine v_k ?_ | fail)) | (refine m00 ?_; (first | refine m52 ?_ | refine m53 ?_ | refine zc7 ?_ | refine m47 ?_ | refine m48 ?_ | refine m49 ?_ | refine m50 ?_ | refine v_k ?_ | refine m51 ?_ | fail)) | refine m42 ?_ | refine zab ?_ | refine zac ?_ | refine m08 ?_ | (refine m20 ?_; (first | refine m52 ?_ | refine m53 ?_ | refine zc7 ?_ | refine m47 ?_ | refine m48 ?_ | refine m49 ?_ | refine m50 ?_ | refine v_k ?_ | refine m51 ?_ | fail)) | refine zaj ?_ | fail))
 |refine zat ?_ | refine zau ?_ | refine zas ?_
 |(refine zax ?_; (first | refine zar ?_ | refine zad ?_ | (refine m06 ?_; (first | refine c_T ?_ | refine c_F ?_ | refine c_P ?_ ?_ | refine c_B ?_ ?_ | fail)) | refine zaq ?_ | refine zah ?_ | refine zae ?_ | refine b_exit ?_ | fail))
 |refine m21 ?_
 |refine za4 ?_
 |(refine za5 ?_; (first | refine cA (zhy _ x) ?_ | fail))
 |refine m05 ?_
 |refine m04 ?_ | refine m02 ?_ | refine m03 ?_ | refine zai ?_
 |intro _)
  all_goals first
    | (exfalso; omega)
    | (refine zb5 rfl ?_; exact Fr.raw _)
    | (refine zal rfl (by simp [mx, mxL, zaf, aOf, zbn]) ?_; exact rfl)
    | (refine zal rfl (by simp [mx, mxL, zaf, aOf, zbn]) ?_; simp only [show cn 4841369599423283200 = 4841369599423283200 from by decide]; exact rfl)
theorem zso (H : List (List AV)) (x : Nat) :
    zaa Tryz.prog 183 [.flt x] H (.bool (!feq x x)) H := by
  refine .go Tryz.call183 Tryz.func183 false [] dOk ?_
  simp only [za0, Nat.reduceAdd]
  repeat' (first
 |(refine zav ?_; (first | refine zbd ?_ | refine zao ?_ | fail))
 |(refine zaw ?_; (first | refine m14 ?_ | (refine m00 ?_; (first | refine m54 ?_ | refine m55 ?_ | refine zbx ?_ | refine m49 ?_ | refine m50 ?_ | refine v_k ?_ | refine m51 ?_ | fail)) | refine m42 ?_ | refine zab ?_ | refine zac ?_ | refine m08 ?_ | fail))
 |refine zat ?_ | refine zau ?_ | refine zas ?_
 |(refine zax ?_; (first | refine zar ?_ | refine zad ?_ | (refine m06 ?_; (first | refine c_T ?_ | refine c_F ?_ | refine c_P ?_ ?_ | refine c_B ?_ ?_ | fail)) | refine zaq ?_ | refine zah ?_ | refine zae ?_ | refine b_exit ?_ | fail))
 |refine m05 ?_
 |refine m04 ?_ | refine m02 ?_ | refine m03 ?_ | refine zai ?_
 |intro _)
  all_goals first
    | (exfalso; omega)
    | (refine zb5 rfl ?_; exact Fr.raw _)
    | (refine zal rfl (by simp [mx, mxL, zaf, aOf, zbn]) ?_; exact rfl)
    | (refine zal rfl (by simp [mx, mxL, zaf, aOf, zbn]) ?_; simp only [show cn 4841369599423283200 = 4841369599423283200 from by decide]; exact rfl)
theorem zif :
    (∀ (H : List (List AV)), zaa Tryz.prog 75 [.int .i64 1] H (.flt 9218868437227405312) H) ∧
    (∀ (H : List (List AV)), zaa Tryz.prog 75 [.int .i64 (-1)] H (.flt 18442240474082181120) H) := by
  refine ⟨?_, ?_⟩
  (intro H
   refine .go Tryz.call75 Tryz.func75 false [] dOk ?_
   simp only [za0, Nat.reduceAdd])
  rotate_left
  (intro H
   refine .go Tryz.call75 Tryz.func75 false [] dOk ?_
   simp only [za0, Nat.reduceAdd])
  rotate_left
  all_goals (repeat' (first
 |(refine zav ?_; (first | refine zbd ?_ | refine zao ?_ | fail))
 |(refine zaw ?_; (first | refine m14 ?_ | (refine m00 ?_; (first | refine m47 ?_ | refine m48 ?_ | refine m49 ?_ | refine m50 ?_ | refine v_k ?_ | refine m51 ?_ | fail)) | refine m42 ?_ | refine zab ?_ | refine zac ?_ | refine m08 ?_ | refine zaj ?_ | fail))
 |refine zat ?_ | refine zau ?_ | refine zas ?_
 |(refine zax ?_; (first | refine zar ?_ | refine zad ?_ | (refine m06 ?_; (first | refine c_T ?_ | refine c_F ?_ | refine c_P ?_ ?_ | refine c_B ?_ ?_ | fail)) | refine zaq ?_ | refine zah ?_ | refine zae ?_ | refine b_exit ?_ | fail))
 |refine m21 ?_
 |refine za4 ?_
 |(refine za5 ?_; (first | refine cA (zb7 _ _ (by omega)) ?_ | fail))
 |refine m05 ?_
 |refine m04 ?_ | refine m02 ?_ | refine m03 ?_ | refine zai ?_
 |intro _))
  all_goals first
    | (exfalso; omega)
    | (refine zb5 rfl ?_; exact (show cn 9218868437227405312 = 9218868437227405312 by decide) ▸ Fr.raw 9218868437227405312)
    | (refine zb5 rfl ?_; exact (show cn 18442240474082181120 = 18442240474082181120 by decide) ▸ Fr.raw 18442240474082181120)
    | (refine zal rfl (by first | (simp [mx, mxL, zaf, aOf, zbn]; done) | fail) ?_; exact rfl)
    | (refine zal rfl (by first | (simp [mx, mxL, zaf, aOf, zbn]; done) | fail) ?_; simp only [show cn 4841369599423283200 = 4841369599423283200 from by decide]; exact rfl)
theorem zx7 : type_of% @zif.1 := @zif.1
theorem z4t : type_of% @zif.2 := @zif.2
theorem z3k (H : List (List AV)) : zaa Tryz.prog 61 [.flt 0] H (.int .u64 0) H := zrf H 0 (by decide)
theorem zva {x : Nat} (h64 : x < 2 ^ 64) : zd6 .or .u64 0 (zd6 .and .u64 (x : Int) 9223372036854775808) = ((Ieee.double.word (zeb x) 0 : Nat) : Int) := by
  rw [show (9223372036854775808 : Int) = ((9223372036854775808 : Nat) : Int) from rfl, zre h64 (by decide), z2u h64]
  have hw : x / 9223372036854775808 * 9223372036854775808 = Ieee.double.word (zeb x) 0 := by
    unfold Ieee.Format.word zeb
    rw [zkk]
    have : x / 9223372036854775808 = 0 ∨ x / 9223372036854775808 = 1 := by omega
    rcases this with h | h <;> rw [h] <;> rfl
  rw [hw]
  have hl : Ieee.double.word (zeb x) 0 < 2 ^ 64 := by cases zeb x <;> decide
  have := zny (x := 0) (y := Ieee.double.word (zeb x) 0) (by decide) hl
  rw [Nat.zero_or] at this
  exact this
theorem zzk (H : List (List AV)) (x : Nat) (hx : pK x = 0) (h64 : x < 2 ^ 64) :
    zaa Tryz.prog 185 [.flt 0, .flt x] H (.flt (Ieee.double.word (zeb x) 0)) H := by
  refine .go Tryz.call185 Tryz.func185 false [] dOk ?_
  simp only [za0, Nat.reduceAdd]
  repeat' (first
 |(refine zav ?_; (first | refine zbd ?_ | refine zao ?_ | fail))
 |(refine zaw ?_; (first | refine m14 ?_ | (refine m00 ?_; (first | refine zjk (show zd6 .andNot .u64 0 9223372036854775808 = 0 by decide) ?_ | refine zjk (zva h64) ?_ | refine m49 ?_ | refine m50 ?_ | refine v_k ?_ | refine m51 ?_ | fail)) | refine m42 ?_ | refine zab ?_ | refine zac ?_ | refine m08 ?_ | refine zaj ?_ | fail))
 |refine zat ?_ | refine zau ?_ | refine zas ?_
 |(refine zax ?_; (first | refine zar ?_ | refine zad ?_ | (refine m06 ?_; (first | refine c_T ?_ | refine c_F ?_ | refine c_P ?_ ?_ | refine c_B ?_ ?_ | fail)) | refine zaq ?_ | refine zah ?_ | refine zae ?_ | refine b_exit ?_ | fail))
 |refine m21 ?_
 |refine za4 ?_
 |(refine za5 ?_; (first | refine cA (z3k _) ?_ | refine cA (zrf _ x hx) ?_ | refine cA (zb7 _ _ (by have : Ieee.double.word (zeb x) 0 < 2 ^ 64 := (by cases zeb x <;> decide); omega)) ?_ | fail))
 |refine m05 ?_
 |refine m04 ?_ | refine m02 ?_ | refine m03 ?_ | refine zai ?_
 |intro _)
  all_goals first
    | (rw [Int.toNat_natCast]; refine zb5 rfl ?_; have hh := Fr.raw (n₀ := H.length) (keep := []) (H := H ++ []) (Ieee.double.word (zeb x) 0); rw [zhp (by decide)] at hh; exact hh)
theorem zih :
    (∀ (H : List (List AV)) (x : Nat) (hx : pK x = 0) (hs : zbm x < 4503599627370496), zaa Tryz.prog 184 [.flt x] H (.tup [.flt (zeu x 4841369599423283200), .int .i64 (-52)]) H) ∧
    (∀ (H : List (List AV)) (x : Nat) (hx : pK x = 0) (hs : ¬ zbm x < 4503599627370496), zaa Tryz.prog 184 [.flt x] H (.tup [.flt x, .int .i64 0]) H) := by
  refine ⟨?_, ?_⟩
  (intro H x hx hs
   refine .go Tryz.call184 Tryz.func184 false [] dOk ?_
   simp only [za0, Nat.reduceAdd])
  rotate_left
  (intro H x hx hs
   refine .go Tryz.call184 Tryz.func184 false [] dOk ?_
   simp only [za0, Nat.reduceAdd])
  rotate_left
  all_goals (repeat' (first
 |(refine zav ?_; (first | refine zbd ?_ | refine zao ?_ | fail))
 |(refine zaw ?_; (first | refine m14 ?_ | (refine m00 ?_; (first | refine z8e (by rw [show cn 4503599627370496 = 4503599627370496 from by decide, zr8 hx]; exact decide_eq_true hs) ?_ | refine zuu (by rw [show cn 4503599627370496 = 4503599627370496 from by decide, zr8 hx]; exact decide_eq_false hs) ?_ | refine m47 ?_ | refine m48 ?_ | refine m49 ?_ | refine m50 ?_ | refine v_k ?_ | refine m51 ?_ | fail)) | refine m42 ?_ | refine zab ?_ | refine zac ?_ | refine m08 ?_ | refine zaj ?_ | fail))
 |refine zat ?_ | refine zau ?_ | refine zas ?_
 |(refine zax ?_; (first | refine zar ?_ | refine zad ?_ | (refine m06 ?_; (first | refine c_T ?_ | refine c_F ?_ | refine c_P ?_ ?_ | refine c_B ?_ ?_ | fail)) | refine zaq ?_ | refine zah ?_ | refine zae ?_ | refine b_exit ?_ | fail))
 |refine m21 ?_
 |refine za4 ?_
 |(refine za5 ?_; (first | refine cA (zhy _ x) ?_ | fail))
 |refine m05 ?_
 |refine m04 ?_ | refine m02 ?_ | refine m03 ?_ | refine zai ?_
 |intro _))
  all_goals first
    | (exfalso; omega)
    | (refine zb5 rfl ?_; exact Fr.raw _)
    | (refine zal rfl (by first | (simp [mx, mxL, zaf, aOf, zbn]; done) | fail) ?_; exact rfl)
    | (refine zal rfl (by first | (simp [mx, mxL, zaf, aOf, zbn]; done) | fail) ?_; simp only [show cn 4841369599423283200 = 4841369599423283200 from by decide]; exact rfl)
theorem z5g : type_of% @zih.1 := @zih.1
theorem z5f : type_of% @zih.2 := @zih.2
theorem z5e (H : List (List AV)) (x : Nat) (hx : pK x = 0) (y : Nat) (en : Int) (hy : y = (if zbm x < 4503599627370496 then zeu x 4841369599423283200 else x)) (he : en = (if zbm x < 4503599627370496 then -52 else 0)) : zaa Tryz.prog 184 [.flt x] H (.tup [.flt y, .int .i64 en]) H := by
  by_cases hs : zbm x < 4503599627370496
  · rw [if_pos hs] at hy he; rw [hy, he]; exact z5g H x hx hs
  · rw [if_neg hs] at hy he; rw [hy, he]; exact z5f H x hx hs
theorem zg0 :
    (∀ (H : List (List AV)) (x : Nat) (h0 : feq x 0 = false) (hi : flt 9218868437227405311 (zbm x) = true ∨ feq x x = false) (k : Int) (hk1 : -5000 ≤ k) (hk2 : k ≤ 5000), zaa Tryz.prog 180 [.flt x, .int .i64 k] H (.flt x) H) ∧
    (∀ (H : List (List AV)) (x : Nat) (h0 : feq x 0 = true) (k : Int) (hk1 : -5000 ≤ k) (hk2 : k ≤ 5000), zaa Tryz.prog 180 [.flt x, .int .i64 k] H (.flt x) H) := by
  refine ⟨?_, ?_⟩
  (intro H x h0 hi k hk1 hk2
   refine .go Tryz.call180 Tryz.func180 false [] dOk ?_
   simp only [za0, Nat.reduceAdd])
  rotate_left
  (intro H x h0 k hk1 hk2
   refine .go Tryz.call180 Tryz.func180 false [] dOk ?_
   simp only [za0, Nat.reduceAdd])
  rotate_left
  all_goals (repeat' (first
 |(refine zav ?_; (first | refine zbd ?_ | refine zao ?_ | refine m13 ?_ | refine m12 ?_ | refine m11 ?_ | (refine m10 ?_; (first | refine zcv ?_ | refine zcq ?_ | refine zcu ?_ | refine zcr ?_ | refine zct ?_ ?_ | refine zcs ?_ ?_ | refine zcp ?_ ?_ | refine zco ?_ ?_ | fail)) | (refine m09 ?_; (first | refine zcv ?_ | refine zcq ?_ | refine zcu ?_ | refine zcr ?_ | refine zct ?_ ?_ | refine zcs ?_ ?_ | refine zcp ?_ ?_ | refine zco ?_ ?_ | fail)) | refine m38 ?_ | fail))
 |(refine zaw ?_; (first | refine m14 ?_ | (refine m45 ?_; (first | refine z8e (by rw [show cn 0 = 0 from by decide]; exact h0) ?_ | refine zb3 (by exact rfl) ?_ | refine v_k ?_ | fail)) | (refine m00 ?_; (first | refine z8e (by rw [show cn 0 = 0 from by decide]; exact h0) ?_ | refine m52 ?_ | refine m53 ?_ | refine zc7 ?_ | refine m47 ?_ | refine m48 ?_ | refine m49 ?_ | refine m50 ?_ | refine zqs (by omega) (by decide) (by (conv => {lhs; simp [IntKind.bits]}); done) ?_ | refine v_k ?_ | refine m51 ?_ | fail)) | (refine m22 ?_; (first | refine m26 ?_ | refine m27 ?_ | fail)) | refine m42 ?_ | refine zab ?_ | refine zac ?_ | refine m08 ?_ | refine zaj ?_ | refine m23 ?_ | (refine m46 ?_; (first | refine z8e (by rw [show cn 0 = 0 from by decide]; exact h0) ?_ | refine m52 ?_ | refine m53 ?_ | refine zc7 ?_ | refine m47 ?_ | refine m48 ?_ | refine m49 ?_ | refine m50 ?_ | refine zqs (by omega) (by decide) (by (conv => {lhs; simp [IntKind.bits]}); done) ?_ | refine v_k ?_ | refine m51 ?_ | fail)) | refine zey (by (conv => {lhs; whnf}); done) (by exact rfl) ?_ | refine zdn (by (conv => {lhs; whnf}); done) ?_ | fail))
 |refine zat ?_ | refine zau ?_ | refine zas ?_
 |(refine zax ?_; (first | refine zar ?_ | refine zad ?_ | (refine m06 ?_; (first | refine c_T ?_ | refine c_F ?_ | refine c_P ?_ ?_ | refine c_B ?_ ?_ | fail)) | refine zaq ?_ | refine zah ?_ | refine zae ?_ | refine b_exit ?_ | fail))
 |refine m43 ?_
 |refine zbv ?_
 |refine m21 ?_
 |refine za4 ?_
 |(refine za5 ?_; (first | refine cA (zsn _ x) ?_ | refine cA (zso _ x) ?_ | fail))
 |refine zbh ?_ | refine zbi ?_ | refine zbg ?_ | refine m57 ?_
 |refine m05 ?_
 |refine m04 ?_ | refine m02 ?_ | refine m03 ?_ | refine zai ?_
 |intro _))
  all_goals first
    | (refine zal rfl (by simp [mx, mxL, zaf, aOf, zbn]) ?_; exact rfl)
    | (exfalso; simp only [show cn 0 = 0 from by decide] at *; simp_all; done)
theorem zm3 : type_of% @zg0.1 := @zg0.1
theorem z0a : type_of% @zg0.2 := @zg0.2
theorem zz9 (H : List (List AV)) (x : Nat) (hx : pK x = 0) (h0 : pM x ≠ 0) (h64 : x < 2 ^ 64) (k : Int) (hk1 : -5000 ≤ k) (hk2 : k ≤ 5000) :
    zaa Tryz.prog 180 [.flt x, .int .i64 k] H (.flt (zcy x k)) H := by
  obtain ⟨y, E, F, en, hy, hen, hyv, hE1, hE2, hF, hyK, hsh⟩ := zv4 hx h0 h64
  have hen2 : en = -52 ∨ en = 0 := by rw [hen]; split; exact .inl rfl; exact .inr rfl
  obtain ⟨s, hs⟩ : ∃ s, zeb x = s := ⟨_, rfl⟩
  have hsc : zcy x k = Ieee.double.word s (zbs (4503599627370496 + F) ((E : Int) - 1075 + en + k)) := by unfold zcy; rw [if_pos hx, hsh, hs]
  rw [hs] at hyv
  obtain ⟨hy64, hycn, hyr⟩ := zg5 (s := s) hE1 (by omega) hF
  rw [← hyv] at hy64 hycn hyr
  have hys : zeb y = s := by have := zem hyK; rw [hyr] at this; injection this with a b c; exact a.symm
  have hyM : pM y ≠ 0 := by have := zem hyK; rw [hyr] at this; injection this with a b c; omega
  have hand : zd6 .and .i64 ((y : Int) / 4503599627370496) 2047 = (E : Int) := by
    have h1 := zrd (x := y / 4503599627370496) (by omega)
    have h2 : y / 4503599627370496 % 2048 = E := by rw [hyv]; cases s <;> simp <;> omega
    rw [h2] at h1; rw [← h1]; rfl
  have handn : zd6 .andNot .u64 (y : Int) 9218868437227405312 = (((if s then 1 else 0) * 9223372036854775808 + F : Nat) : Int) := by
    have h1 : y / 9223372036854775808 * 9223372036854775808 + y % 4503599627370496 = (if s then 1 else 0) * 9223372036854775808 + F := by rw [hyv]; cases s <;> simp <;> omega
    rw [zpt hy64, h1]
  have hor : ∀ a : Int, 1 ≤ a ∧ a ≤ 2046 → zd6 .or .u64 (((if s then 1 else 0) * 9223372036854775808 + F : Nat) : Int) (a * 4503599627370496) = (((if s then 9223372036854775808 else 0) + a.toNat * 4503599627370496 + F : Nat) : Int) := fun a ha => by
    have h1 : a * 4503599627370496 = ((a.toNat * 4503599627370496 : Nat) : Int) := by omega
    rw [h1, zny (by cases s <;> simp <;> omega) (by omega), z5l hF (by omega)]
    have h2 : (if s then 1 else 0) * 9223372036854775808 + a.toNat * 4503599627370496 + F = (if s then 9223372036854775808 else 0) + a.toNat * 4503599627370496 + F := by cases s <;> simp
    rw [h2]
  have hmul : ∀ (c : Nat) (d : Int) (a : Int), Ieee.double.read c = .number false 4503599627370496 d → 1 ≤ a ∧ a ≤ 2046 → zeu c ((if s then 9223372036854775808 else 0) + a.toNat * 4503599627370496 + F) = Ieee.double.word s (zbs (4503599627370496 + F) (d + (a - 1075) + 52)) := fun c d a hc ha => by
    obtain ⟨_, _, hr⟩ := zg5 (s := s) (a := a.toNat) (F := F) (by omega) (by omega) hF
    rw [zoa hc hr, Bool.false_xor]
    have h1 := zfg (4503599627370496 + F) 52 (d + ((a.toNat : Int) - 1075))
    have c52 : (2 : Nat) ^ 52 = 4503599627370496 := by decide
    rw [c52, Nat.mul_comm] at h1
    rw [h1]; congr 2; omega
  have hc1 : Ieee.double.read 4607182418800017408 = .number false 4503599627370496 (-52) := by decide
  have hc2 : Ieee.double.read 4368491638549381120 = .number false 4503599627370496 (-105) := by decide
  have hfl : flt y (cn 0) = s := by rw [show cn 0 = 0 from by decide, z9r hyK hyM, hys]
  have hcn : ∀ a : Int, 1 ≤ a ∧ a ≤ 2046 → cn ((if s then 9223372036854775808 else 0) + a.toNat * 4503599627370496 + F) = (if s then 9223372036854775808 else 0) + a.toNat * 4503599627370496 + F := fun a ha => (zg5 (s := s) (a := a.toNat) (F := F) (by omega) (by omega) hF).2.1
  have hlt : ∀ a : Int, 1 ≤ a ∧ a ≤ 2046 → (if s then 9223372036854775808 else 0) + a.toNat * 4503599627370496 + F < 2 ^ 64 := fun a ha => (zg5 (s := s) (a := a.toNat) (F := F) (by omega) (by omega) hF).1
  have hf0 : feq x (cn 0) = false := by rw [show cn 0 = 0 from by decide, zmw hx]; exact decide_eq_false h0
  have hfi := zzu hx
  have hfn : (!feq x x) = false := by rw [zid hx]; rfl
  have hnc := fun H => z5e H x hx y en hy hen
  clear hsh hy hen
  refine .go Tryz.call180 Tryz.func180 false [] dOk ?_
  simp only [za0, Nat.reduceAdd]
  repeat' (first
 |(refine zav ?_; (first | refine zbd ?_ | refine zao ?_ | refine m13 ?_ | refine m12 ?_ | refine m11 ?_ | (refine m10 ?_; (first | refine zcv ?_ | refine zcq ?_ | refine zcu ?_ | refine zcr ?_ | refine zct ?_ ?_ | refine zcs ?_ ?_ | refine zcp ?_ ?_ | refine zco ?_ ?_ | fail)) | (refine m09 ?_; (first | refine zcv ?_ | refine zcq ?_ | refine zcu ?_ | refine zcr ?_ | refine zct ?_ ?_ | refine zcs ?_ ?_ | refine zcp ?_ ?_ | refine zco ?_ ?_ | fail)) | refine m38 ?_ | fail))
 |(refine zaw ?_; (first | refine m14 ?_ | (refine m45 ?_; (first | refine zuu hf0 ?_ | refine zuu hfi ?_ | refine zuu hfn ?_ | refine zjk hand ?_ | refine zjk handn ?_ | refine zfi (by omega) ?_ | refine zjk (hor _ (by omega)) ?_ | refine zb3 (by exact rfl) ?_ | refine v_k ?_ | fail)) | (refine m00 ?_; (first | refine zuu hf0 ?_ | refine zuu hfi ?_ | refine zuu hfn ?_ | refine zjk hand ?_ | refine zjk handn ?_ | refine zfi (by omega) ?_ | refine zjk (hor _ (by omega)) ?_ | refine m52 ?_ | refine m53 ?_ | refine zc7 ?_ | refine m47 ?_ | refine m48 ?_ | refine m49 ?_ | refine m50 ?_ | refine zqs (by omega) (by decide) (by (conv => {lhs; simp [IntKind.bits]}); done) ?_ | refine v_k ?_ | refine m51 ?_ | fail)) | (refine m22 ?_; (first | refine m26 ?_ | refine m27 ?_ | fail)) | refine m42 ?_ | refine zab ?_ | refine zac ?_ | refine m08 ?_ | refine zaj ?_ | refine m23 ?_ | (refine m46 ?_; (first | refine zuu hf0 ?_ | refine zuu hfi ?_ | refine zuu hfn ?_ | refine zjk hand ?_ | refine zjk handn ?_ | refine zfi (by omega) ?_ | refine zjk (hor _ (by omega)) ?_ | refine m52 ?_ | refine m53 ?_ | refine zc7 ?_ | refine m47 ?_ | refine m48 ?_ | refine m49 ?_ | refine m50 ?_ | refine zqs (by omega) (by decide) (by (conv => {lhs; simp [IntKind.bits]}); done) ?_ | refine v_k ?_ | refine m51 ?_ | fail)) | refine zey (by (conv => {lhs; whnf}); done) (by exact rfl) ?_ | refine zdn (by (conv => {lhs; whnf}); done) ?_ | fail))
 |refine zat ?_ | refine zau ?_ | refine zas ?_
 |(refine zax ?_; (first | refine zar ?_ | refine zad ?_ | (refine m06 ?_; (first | refine c_T ?_ | refine c_F ?_ | refine c_P ?_ ?_ | refine c_B ?_ ?_ | fail)) | refine zaq ?_ | refine zah ?_ | refine zae ?_ | refine b_exit ?_ | fail))
 |refine m43 ?_
 |refine zbv ?_
 |refine m21 ?_
 |refine za4 ?_
 |(refine za5 ?_; (first | refine cA (zsn _ x) ?_ | refine cA (zso _ x) ?_ | refine cA (hnc _) ?_ | refine cA (zrf _ y hyK) ?_ | refine cA (zzk _ y hyK hy64) ?_ | refine cA (zx7 _) ?_ | refine cA (z4t _) ?_ | refine cA (zb7 _ _ (by have := hlt (k + en + ((E : Int) - 1023) + 1023) (by omega); omega)) ?_ | refine cA (zb7 _ _ (by have := hlt (k + en + ((E : Int) - 1023) + 53 + 1023) (by omega); omega)) ?_ | fail))
 |refine zbh ?_ | refine zbi ?_ | refine zbg ?_ | refine m57 ?_
 |refine m05 ?_
 |refine m04 ?_ | refine m02 ?_ | refine m03 ?_ | refine zai ?_
 |intro _)
  all_goals first
    | (rw [hys, hsc, zo6 (by rw [z0b hF]; omega)]; refine zal rfl (by simp [mx, mxL, zaf, aOf, zbn]) ?_; exact rfl)
    | (rw [Int.toNat_natCast, hcn _ (by omega)]; first | rw [hmul _ _ _ hc1 (by omega)] | rw [hmul _ _ _ hc2 (by omega)]
       rw [hsc]; refine zal rfl (by simp [mx, mxL, zaf, aOf, zbn]) ?_; simp only [zaf, List.nil_append]; refine congrArg (fun t => AV.flt (Ieee.double.word s (zbs (4503599627370496 + F) t))) ?_; omega)
    | (rw [hsc, ztx (by omega) (by omega)]; cases s <;> first | (refine zal rfl (by simp [mx, mxL, zaf, aOf, zbn]) ?_; exact rfl) | (exfalso; simp_all; done))
    | (exfalso; simp_all; done)
theorem zz8 (H : List (List AV)) (x : Nat) (k : Int) (hk1 : -5000 ≤ k) (hk2 : k ≤ 5000) : zaa Tryz.prog 180 [.flt x, .int .i64 k] H (.flt (zcy x k)) H := by
  refine .mk (fun args w => Tryz.call180 args w) (Spec.can fun h64 hc => zaa.spec (fun args w => Tryz.call180 args w) ?_)
  by_cases hx : pK x = 0
  · by_cases h0 : pM x = 0
    · rw [zql hx h0 h64]
      exact z0a H x (by rw [zmw hx]; exact decide_eq_true h0) k hk1 hk2
    · exact zz9 H x hx h0 h64 k hk1 hk2
  · rw [zka hx]
    rcases zi4 hx h64 hc with h | h | h <;> subst h
    · exact zm3 H _ (by decide) (.inl (by decide)) k hk1 hk2
    · exact zm3 H _ (by decide) (.inl (by decide)) k hk1 hk2
    · exact zm3 H _ (by decide) (.inr (by decide)) k hk1 hk2
theorem zyr (H : List (List AV)) (x : Nat) (k : Int) (hk1 : -5000 ≤ k) (hk2 : k ≤ 5000) :
    zaa Tryz.prog 165 [.flt x, .int .i64 k] H (.flt (zcy x k)) H := by
  refine .go Tryz.call165 Tryz.func165 false [] dOk ?_
  simp only [za0, Nat.reduceAdd]
  repeat' (first
 |(refine zav ?_; (first | refine zbd ?_ | refine zao ?_ | fail))
 |(refine zaw ?_; (first | refine m14 ?_ | refine m42 ?_ | refine zab ?_ | refine zac ?_ | refine m08 ?_ | refine zaj ?_ | fail))
 |refine zat ?_ | refine zau ?_ | refine zas ?_
 |(refine zax ?_; (first | refine zar ?_ | refine zad ?_ | (refine m06 ?_; (first | refine c_T ?_ | refine c_F ?_ | refine c_P ?_ ?_ | refine c_B ?_ ?_ | fail)) | refine zaq ?_ | refine zah ?_ | refine zae ?_ | refine b_exit ?_ | fail))
 |refine m21 ?_
 |refine za4 ?_
 |(refine za5 ?_; (first | refine cA (zz8 _ x k hk1 hk2) ?_ | fail))
 |refine m05 ?_
 |refine m04 ?_ | refine m02 ?_ | refine m03 ?_ | refine zai ?_
 |intro _)
  all_goals first
    | (refine zal rfl (by simp [mx, mxL, zaf, aOf, zbn]) ?_; exact rfl)
    | (exfalso; simp_all; done)
theorem ztz (H : List (List AV)) (x : Nat) (k : Int) :
    zaa Tryz.prog 128 [.flt x, .int .i64 k] H (.flt (zcy x (clK k))) H := by
  refine .go Tryz.call128 Tryz.func128 false [] dOk ?_
  simp only [za0, Nat.reduceAdd]
  repeat' (first
 |(refine zav ?_; (first | refine zbd ?_ | refine zao ?_ | fail))
 |(refine zaw ?_; (first | refine m14 ?_ | refine m42 ?_ | refine zab ?_ | refine zac ?_ | refine m08 ?_ | refine zaj ?_ | refine z3d (by first | (conv => {lhs; whnf}; done) | exact (by exact rfl) | fail) (by first | (conv => {lhs; whnf}; done) | exact (by exact rfl) | fail) (by first | assumption | exact rfl) ?_ | refine z3e (by first | (conv => {lhs; whnf}; done) | exact (by exact rfl) | fail) (by first | (conv => {lhs; whnf}; done) | exact (by exact rfl) | fail) (by first | assumption | exact rfl) ?_ | fail))
 |refine zat ?_ | refine zau ?_ | refine zas ?_
 |(refine zax ?_; (first | refine zar ?_ | refine zad ?_ | (refine m06 ?_; (first | refine c_T ?_ | refine c_F ?_ | refine c_P ?_ ?_ | refine c_B ?_ ?_ | fail)) | refine zaq ?_ | refine zah ?_ | refine zae ?_ | refine b_exit ?_ | fail))
 |refine m21 ?_
 |refine za4 ?_
 |(refine za5 ?_; (first | refine cA (zyr _ x (clK k) (by unfold clK; omega) (by unfold clK; omega)) ?_ | fail))
 |refine m05 ?_
 |refine m04 ?_ | refine m02 ?_ | refine m03 ?_ | refine zai ?_
 |intro _)
  all_goals first
    | (refine zal rfl (by simp [mx, mxL, zaf, aOf, zbn]) ?_; exact rfl)
    | (exfalso; simp_all; done)
theorem zhq {n₀ : Nat} {H : List (List AV)} {s : Bool} {k : Nat} (hk : k ≤ 9218868437227405312) {v : Nat} (hv : v = Ieee.double.word s k) : Fr n₀ [] H (.fraw v) (.flt (Ieee.double.word s k)) := by
  have hh := Fr.raw (n₀ := n₀) (keep := []) (H := H) v
  rw [hv, zhp hk] at hh
  rw [hv]; exact hh
theorem zie :
    (∀ (H : List (List AV)) (neg : Bool) (m : Nat) (hm : m < 4611686018427387904) (e : Int) (he : -100000 ≤ e ∧ e ≤ 100000) (h0 : m = 0 ∨ e < -1200), zaa Tryz.prog 134 [.bool neg, .int .u64 (m : Int), .int .i64 e] H (.flt (Ieee.double.word neg (zbs m e))) H) ∧
    (∀ (H : List (List AV)) (neg : Bool) (m : Nat) (hm : m < 4611686018427387904) (e : Int) (he : -100000 ≤ e ∧ e ≤ 100000) (h0 : 1 ≤ m) (h1 : 2000 < e), zaa Tryz.prog 134 [.bool neg, .int .u64 (m : Int), .int .i64 e] H (.flt (Ieee.double.word neg (zbs m e))) H) := by
  refine ⟨?_, ?_⟩
  (intro H neg m hm e he h0
   have hz : zbs m e = 0 := by
     rcases h0 with h | h
     · subst h; unfold zbs; rw [if_pos rfl]
     · have := z0c (m := m) (by omega); exact zo6 (by omega)
   refine .go Tryz.call134 Tryz.func134 false [] dOk ?_
   simp only [za0, Nat.reduceAdd])
  rotate_left
  (intro H neg m hm e he h0 h1
   refine .go Tryz.call134 Tryz.func134 false [] dOk ?_
   simp only [za0, Nat.reduceAdd])
  rotate_left
  all_goals (repeat' (first
 |(refine zav ?_; (first | refine zbd ?_ | refine zao ?_ | refine m13 ?_ | refine m12 ?_ | refine m11 ?_ | (refine m10 ?_; (first | refine zcv ?_ | refine zcq ?_ | refine zcu ?_ | refine zcr ?_ | refine zct ?_ ?_ | refine zcs ?_ ?_ | refine zcp ?_ ?_ | refine zco ?_ ?_ | fail)) | (refine m09 ?_; (first | refine zcv ?_ | refine zcq ?_ | refine zcu ?_ | refine zcr ?_ | refine zct ?_ ?_ | refine zcs ?_ ?_ | refine zcp ?_ ?_ | refine zco ?_ ?_ | fail)) | refine m38 ?_ | fail))
 |(refine zaw ?_; (first | refine m14 ?_ | (refine m45 ?_; (first | refine zb3 (by exact rfl) ?_ | refine v_k ?_ | fail)) | (refine m00 ?_; (first | refine m52 ?_ | refine m53 ?_ | refine zc7 ?_ | refine m47 ?_ | refine m48 ?_ | refine m49 ?_ | refine m50 ?_ | refine zgq (by omega) (by omega) ?_ | refine zh7 (by omega) (by omega) ?_ | refine v_k ?_ | refine m51 ?_ | fail)) | (refine m22 ?_; (first | refine m26 ?_ | refine m27 ?_ | fail)) | refine m42 ?_ | refine zab ?_ | refine zac ?_ | refine m08 ?_ | refine zaj ?_ | (refine m46 ?_; (first | refine m52 ?_ | refine m53 ?_ | refine zc7 ?_ | refine m47 ?_ | refine m48 ?_ | refine m49 ?_ | refine m50 ?_ | refine zgq (by omega) (by omega) ?_ | refine zh7 (by omega) (by omega) ?_ | refine v_k ?_ | refine m51 ?_ | fail)) | refine zey (by (conv => {lhs; whnf}); done) (by exact rfl) ?_ | refine zdn (by (conv => {lhs; whnf}); done) ?_ | fail))
 |refine zat ?_ | refine zau ?_ | refine zas ?_
 |(refine zax ?_; (first | refine zar ?_ | refine zad ?_ | (refine m06 ?_; (first | refine c_T ?_ | refine c_F ?_ | refine c_P ?_ ?_ | refine c_B ?_ ?_ | fail)) | refine zaq ?_ | refine zah ?_ | refine zae ?_ | refine b_exit ?_ | fail))
 |refine m21 ?_
 |refine za4 ?_
 |(refine za5 ?_; (first | refine cA (zb7 _ _ (by omega)) ?_ | fail))
 |refine zbh ?_ | refine zbi ?_ | refine zbg ?_ | refine m57 ?_
 |refine zdp ?_ | refine zdq ?_ | refine zdo ?_
 |(refine zdr (by exact rfl) ?_; first | exact hK | (exfalso; first | omega | (simp_all; done) | (simp_all; omega)))
 |refine m05 ?_
 |refine m04 ?_ | refine m02 ?_ | refine m03 ?_ | refine zai ?_
 |intro _))
  all_goals first
    | (rw [hz]; refine zb5 rfl (zhq (by omega) ?_); unfold Ieee.Format.word; rw [zkk]; simp_all; done)
    | (rw [zwk h0 (by omega)]; refine zb5 rfl (zhq (by omega) ?_); unfold Ieee.Format.word; rw [zkk]; simp_all; done)
    | (exfalso; simp_all; done)
    | (exfalso; omega)
theorem z4r : type_of% @zie.1 := @zie.1
theorem z4o : type_of% @zie.2 := @zie.2
end
theorem zqu {e : List (Nat × EV)} {L : List (Nat × List AV)} {H : List (List AV)} {K : St → Prop} {dd : Nat} {n m : Int} (h : n = m) (hw : 0 ≤ m ∧ m ≤ 18446744073709551615) (hk : K ⟨(dd, .val (.int .u64 m)) :: e, L, H⟩) : zb8 dd K ⟨e, L, H⟩ (some (True, .int .u64 (IntKind.u64.wrap n))) := by
  subst h; exact qbf hw hk
theorem zqr {e : List (Nat × EV)} {L : List (Nat × List AV)} {H : List (List AV)} {K : St → Prop} {dd : Nat} {q : Nat} {b : Bool} (hb : b = decide (q % 2 = 1)) (hk : K ⟨(dd, .val (.bool b)) :: e, L, H⟩) : zb8 dd K ⟨e, L, H⟩ (some (True, .bool (((q : Nat) : Int) % 2 == 1))) := by
  have : (((q : Nat) : Int) % 2 == 1) = b := by
    rw [hb, Bool.eq_iff_iff, beq_iff_eq, decide_eq_true_eq]; omega
  rw [this]; exact v_k hk
theorem z2o {e : List (Nat × EV)} {L : List (Nat × List AV)} {H : List (List AV)} {K : St → Prop} {dd : Nat} {p : Prop} [Decidable p] (h1 : p → K ⟨(dd, .val (.bool true)) :: e, L, H⟩) (h2 : ¬ p → K ⟨(dd, .val (.bool false)) :: e, L, H⟩) : zb8 dd K ⟨e, L, H⟩ (some (True, .bool (decide p))) := by
  by_cases h : p
  · exact v_T h (h1 h)
  · exact v_F h (h2 h)
theorem zh8 {e : List (Nat × EV)} {L : List (Nat × List AV)} {H : List (List AV)} {K : St → Prop} {dd : Nat} {x q : Int} (h0 : 0 ≤ x ∧ x ≤ 18446744073709551615) (hq : x / 2 = q) (hk : K ⟨(dd, .val (.int .u64 q)) :: e, L, H⟩) : zb8 dd K ⟨e, L, H⟩ (some ((2 : Int) ≠ 0, .int .u64 (IntKind.u64.wrap (x.tdiv 2)))) := by
  subst hq
  rw [Int.tdiv_eq_ediv_of_nonneg h0.1]
  exact v_c (by decide) (qbf (by omega) hk)
section
attribute [local irreducible] Ex za3 exD opX opE zca zd3 zd4 Spec zaa Fr zb9 zbb zba ckK zb8 zb6 zbu faK zb4 zd1 gK fK rK zeq lpX prK
theorem z4q (H : List (List AV)) (m : Nat) (hm : m < 4611686018427387904) (e : Int) (h0 : 1 ≤ m) (he : -1200 ≤ e ∧ e ≤ 2000) :
    zaa Tryz.prog 134 [.bool true, .int .u64 (m : Int), .int .i64 e] H (.flt (Ieee.double.word true (zbs m e))) H := by
  obtain ⟨N1, N2, P, Q, hb, lb, hN1, hN2, hP0, hP, h1, h1', hQ0, hQs, hQ62, h2, h3, h4, hb0, lb0, hbs, lbs, hk, hlow⟩ := zx8 h0 hm he
  have hQN := hQ62 N2
  have h1a : ∀ k : Nat, k < N1 → (P k : Int) < 4503599627370496 := fun k hk => by have := (h1 k hk).1; omega
  have hkT : Unit → hb N2 = true → (lb N2 = true ∨ Q N2 % 2 = 1) → zbs m e = min ((e - N1 + N2 + 1074).toNat * 4503599627370496 + (Q N2 + 1)) 9218868437227405312 := fun _ a b => by rw [hk, if_pos ⟨a, b⟩]
  have hkF : Unit → ¬ (hb N2 = true ∧ (lb N2 = true ∨ Q N2 % 2 = 1)) → zbs m e = min ((e - N1 + N2 + 1074).toNat * 4503599627370496 + Q N2) 9218868437227405312 := fun _ a => by rw [hk, if_neg a, Nat.add_zero]
  have hlw : Unit → Q N2 < 4503599627370496 → e - N1 + N2 = -1074 := fun _ => hlow
  have hE2 : e - (N1 : Int) + (N2 : Int) ≤ 2400 := by omega
  clear hk hlow
  refine .go Tryz.call134 Tryz.func134 false [] dOk ?_
  simp only [za0, Nat.reduceAdd]
  repeat' (first
 |(refine zav ?_; (first | refine zbd ?_ | refine zao ?_ | refine m13 ?_ | refine m12 ?_ | refine m11 ?_ | (refine m10 ?_; (first | refine zcv ?_ | refine zcq ?_ | refine zcu ?_ | refine zcr ?_ | refine zct ?_ ?_ | refine zcs ?_ ?_ | refine zcp ?_ ?_ | refine zco ?_ ?_ | fail)) | (refine m09 ?_; (first | refine zcv ?_ | refine zcq ?_ | refine zcu ?_ | refine zcr ?_ | refine zct ?_ ?_ | refine zcs ?_ ?_ | refine zcp ?_ ?_ | refine zco ?_ ?_ | fail)) | refine m38 ?_ | fail))
 |(refine zaw ?_; (first | refine m14 ?_ | (refine m45 ?_; (first | refine v_T (by have h9 := (h1 k hk').2; omega) ?_ | refine v_T (by have h9 := (h1 k hk').1; omega) ?_ | with_reducible refine zqu (m := (P (k + 1) : Int)) (by rw [hP]; omega) (by have := (h1 k hk').1; rw [hP]; omega) ?_ | refine zbo (e - ((k + 1 : Nat) : Int)) (by omega) (by omega) ?_ | with_reducible refine zqr (b := hb (t + 1)) (by exact hbs t) ?_ | with_reducible refine zh8 (q := (Q (t + 1) : Int)) (by have := hQ62 t; omega) (by rw [hQs]; omega) ?_ | with_reducible refine zh8 (by omega) (by exact rfl) ?_ | refine zbo (e - (N1 : Int) + ((t + 1 : Nat) : Int)) (by omega) (by omega) ?_ | with_reducible refine zfi (by omega) ?_ | refine v_T (by have h9 := h2 t ht; omega) ?_ | refine m47 ?_ | refine m48 ?_ | with_reducible refine z2o ?_ ?_ | refine zb3 (by exact rfl) ?_ | refine v_k ?_ | fail)) | (refine m00 ?_; (first | refine v_T (by have h9 := (h1 k hk').2; omega) ?_ | refine v_T (by have h9 := (h1 k hk').1; omega) ?_ | with_reducible refine zqu (m := (P (k + 1) : Int)) (by rw [hP]; omega) (by have := (h1 k hk').1; rw [hP]; omega) ?_ | refine zbo (e - ((k + 1 : Nat) : Int)) (by omega) (by omega) ?_ | with_reducible refine zqr (b := hb (t + 1)) (by exact hbs t) ?_ | with_reducible refine zh8 (q := (Q (t + 1) : Int)) (by have := hQ62 t; omega) (by rw [hQs]; omega) ?_ | with_reducible refine zh8 (by omega) (by exact rfl) ?_ | refine zbo (e - (N1 : Int) + ((t + 1 : Nat) : Int)) (by omega) (by omega) ?_ | with_reducible refine zfi (by omega) ?_ | refine v_T (by have h9 := h2 t ht; omega) ?_ | refine m47 ?_ | refine m48 ?_ | with_reducible refine z2o ?_ ?_ | refine m52 ?_ | refine m53 ?_ | refine zc7 ?_ | refine m47 ?_ | refine m48 ?_ | refine m49 ?_ | refine m50 ?_ | refine zgq (by omega) (by omega) ?_ | refine zh7 (by omega) (by omega) ?_ | refine v_k ?_ | refine m51 ?_ | fail)) | (refine m22 ?_; (first | refine m26 ?_ | refine m27 ?_ | fail)) | refine m42 ?_ | refine zab ?_ | refine zac ?_ | refine m08 ?_ | refine zaj ?_ | (refine m46 ?_; (first | refine v_T (by have h9 := (h1 k hk').2; omega) ?_ | refine v_T (by have h9 := (h1 k hk').1; omega) ?_ | with_reducible refine zqu (m := (P (k + 1) : Int)) (by rw [hP]; omega) (by have := (h1 k hk').1; rw [hP]; omega) ?_ | refine zbo (e - ((k + 1 : Nat) : Int)) (by omega) (by omega) ?_ | with_reducible refine zqr (b := hb (t + 1)) (by exact hbs t) ?_ | with_reducible refine zh8 (q := (Q (t + 1) : Int)) (by have := hQ62 t; omega) (by rw [hQs]; omega) ?_ | with_reducible refine zh8 (by omega) (by exact rfl) ?_ | refine zbo (e - (N1 : Int) + ((t + 1 : Nat) : Int)) (by omega) (by omega) ?_ | with_reducible refine zfi (by omega) ?_ | refine v_T (by have h9 := h2 t ht; omega) ?_ | refine m47 ?_ | refine m48 ?_ | with_reducible refine z2o ?_ ?_ | refine m52 ?_ | refine m53 ?_ | refine zc7 ?_ | refine m47 ?_ | refine m48 ?_ | refine m49 ?_ | refine m50 ?_ | refine zgq (by omega) (by omega) ?_ | refine zh7 (by omega) (by omega) ?_ | refine v_k ?_ | refine m51 ?_ | fail)) | refine zey (by (conv => {lhs; whnf}); done) (by exact rfl) ?_ | refine zdn (by (conv => {lhs; whnf}); done) ?_ | fail))
 |refine zat ?_ | refine zau ?_ | refine zas ?_
 |(refine zax ?_; (first | refine zar ?_ | refine zad ?_ | (refine m06 ?_; (first | refine c_T ?_ | refine c_F ?_ | refine c_P ?_ ?_ | refine c_B ?_ ?_ | fail)) | refine zaq ?_ | refine zah ?_ | refine zae ?_ | refine b_exit ?_ | (refine za1 [1, 2, 7, 8, 9] N2 (fun t => ⟨[(1, .val (.int .u64 (Q t : Int))), (2, .val (.int .i64 (e - (N1 : Int) + (t : Int)))), (7, .val (.int .u64 9223372036854775808)), (8, .val (.bool (lb t))), (9, .val (.bool (hb t)))], [], H ++ []⟩) (by simp only [hQ0, hb0, lb0, Int.natCast_zero, Int.add_zero]; exact rfl) ?_ ?_ <;> (first | intro t ht K hK | intro K) <;> (try dsimp only at *)) | (refine za1 [1, 2, 7] N1 (fun k => ⟨[(1, .val (.int .u64 (P k : Int))), (2, .val (.int .i64 (e - (k : Int)))), (7, .val (.int .u64 9223372036854775808))], [], H ++ []⟩) (by simp only [hP0, Int.natCast_zero, Int.sub_zero]; exact rfl) ?_ ?_ <;> (first | intro k hk' K hK | intro K) <;> (try dsimp only at *)) | fail))
 |refine m21 ?_
 |refine za4 ?_
 |(refine za5 ?_; (first | refine cA (zb7 _ _ (by omega)) ?_ | fail))
 |refine zbh ?_ | refine zbi ?_ | refine zbg ?_ | refine m57 ?_
 |refine zdp ?_ | refine zdq ?_ | refine zdo ?_
 |(refine zdr (by exact rfl) ?_; first | exact hK | (simp only [lbs, *, Bool.true_or, Bool.false_or] at hK ⊢; exact hK) | (exfalso; have := h2 t ht; omega) | (exfalso; first | omega | (simp_all; done) | (simp_all; omega)))
 |refine m05 ?_
 |refine m04 ?_ | refine m02 ?_ | refine m03 ?_ | refine zai ?_
 |intro _)
  all_goals first
    | (exfalso; omega)
    | (rw [hkT () (by assumption) (by first | (left; assumption) | (right; omega))]; refine zb5 rfl (zhq (Nat.min_le_right _ _) ?_); unfold Ieee.Format.word; rw [zkk]; simp only [if_true, Bool.false_eq_true, if_false]; have hlow := hlw (); (first | have hE8 : e - (N1 : Int) + (N2 : Int) + 1 + 1075 < 2047 := (by omega) | have hE8 : e - (N1 : Int) + (N2 : Int) + 1075 < 2047 := (by omega) | skip); clear hkT hkF h1 h1' h2 hP hQs hQ62 hbs lbs h1a hlw hQ0 hP0 hQN hb0 lb0 he hN1 hN2 h0 hm; generalize e - (N1 : Int) + (N2 : Int) = E2 at *; generalize Q N2 = q at *; obtain ⟨z, rfl⟩ : ∃ z : Nat, E2 = (z : Int) - 1074 := ⟨(E2 + 1074).toNat, by omega⟩; rw [show ((z : Int) - 1074 + 1074).toNat = z by omega]; by_cases hq : q < 4503599627370496 <;> (first | have hlow := hlow hq | skip) <;> omega)
    | (rw [hkF () (by rintro ⟨h8, h9⟩; first | (rw [show hb N2 = false by assumption] at h8; cases h8) | (rcases h9 with h9 | h9; (rw [show lb N2 = false by assumption] at h9; cases h9); omega))]; refine zb5 rfl (zhq (Nat.min_le_right _ _) ?_); unfold Ieee.Format.word; rw [zkk]; simp only [if_true, Bool.false_eq_true, if_false]; have hlow := hlw (); (first | have hE8 : e - (N1 : Int) + (N2 : Int) + 1 + 1075 < 2047 := (by omega) | have hE8 : e - (N1 : Int) + (N2 : Int) + 1075 < 2047 := (by omega) | skip); clear hkT hkF h1 h1' h2 hP hQs hQ62 hbs lbs h1a hlw hQ0 hP0 hQN hb0 lb0 he hN1 hN2 h0 hm; generalize e - (N1 : Int) + (N2 : Int) = E2 at *; generalize Q N2 = q at *; obtain ⟨z, rfl⟩ : ∃ z : Nat, E2 = (z : Int) - 1074 := ⟨(E2 + 1074).toNat, by omega⟩; rw [show ((z : Int) - 1074 + 1074).toNat = z by omega]; by_cases hq : q < 4503599627370496 <;> (first | have hlow := hlow hq | skip) <;> omega)
theorem z4n (H : List (List AV)) (m : Nat) (hm : m < 4611686018427387904) (e : Int) (h0 : 1 ≤ m) (he : -1200 ≤ e ∧ e ≤ 2000) :
    zaa Tryz.prog 134 [.bool false, .int .u64 (m : Int), .int .i64 e] H (.flt (Ieee.double.word false (zbs m e))) H := by
  obtain ⟨N1, N2, P, Q, hb, lb, hN1, hN2, hP0, hP, h1, h1', hQ0, hQs, hQ62, h2, h3, h4, hb0, lb0, hbs, lbs, hk, hlow⟩ := zx8 h0 hm he
  have hQN := hQ62 N2
  have h1a : ∀ k : Nat, k < N1 → (P k : Int) < 4503599627370496 := fun k hk => by have := (h1 k hk).1; omega
  have hkT : Unit → hb N2 = true → (lb N2 = true ∨ Q N2 % 2 = 1) → zbs m e = min ((e - N1 + N2 + 1074).toNat * 4503599627370496 + (Q N2 + 1)) 9218868437227405312 := fun _ a b => by rw [hk, if_pos ⟨a, b⟩]
  have hkF : Unit → ¬ (hb N2 = true ∧ (lb N2 = true ∨ Q N2 % 2 = 1)) → zbs m e = min ((e - N1 + N2 + 1074).toNat * 4503599627370496 + Q N2) 9218868437227405312 := fun _ a => by rw [hk, if_neg a, Nat.add_zero]
  have hlw : Unit → Q N2 < 4503599627370496 → e - N1 + N2 = -1074 := fun _ => hlow
  have hE2 : e - (N1 : Int) + (N2 : Int) ≤ 2400 := by omega
  clear hk hlow
  refine .go Tryz.call134 Tryz.func134 false [] dOk ?_
  simp only [za0, Nat.reduceAdd]
  repeat' (first
 |(refine zav ?_; (first | refine zbd ?_ | refine zao ?_ | refine m13 ?_ | refine m12 ?_ | refine m11 ?_ | (refine m10 ?_; (first | refine zcv ?_ | refine zcq ?_ | refine zcu ?_ | refine zcr ?_ | refine zct ?_ ?_ | refine zcs ?_ ?_ | refine zcp ?_ ?_ | refine zco ?_ ?_ | fail)) | (refine m09 ?_; (first | refine zcv ?_ | refine zcq ?_ | refine zcu ?_ | refine zcr ?_ | refine zct ?_ ?_ | refine zcs ?_ ?_ | refine zcp ?_ ?_ | refine zco ?_ ?_ | fail)) | refine m38 ?_ | fail))
 |(refine zaw ?_; (first | refine m14 ?_ | (refine m45 ?_; (first | refine v_T (by have h9 := (h1 k hk').2; omega) ?_ | refine v_T (by have h9 := (h1 k hk').1; omega) ?_ | with_reducible refine zqu (m := (P (k + 1) : Int)) (by rw [hP]; omega) (by have := (h1 k hk').1; rw [hP]; omega) ?_ | refine zbo (e - ((k + 1 : Nat) : Int)) (by omega) (by omega) ?_ | with_reducible refine zqr (b := hb (t + 1)) (by exact hbs t) ?_ | with_reducible refine zh8 (q := (Q (t + 1) : Int)) (by have := hQ62 t; omega) (by rw [hQs]; omega) ?_ | with_reducible refine zh8 (by omega) (by exact rfl) ?_ | refine zbo (e - (N1 : Int) + ((t + 1 : Nat) : Int)) (by omega) (by omega) ?_ | with_reducible refine zfi (by omega) ?_ | refine v_T (by have h9 := h2 t ht; omega) ?_ | refine m47 ?_ | refine m48 ?_ | with_reducible refine z2o ?_ ?_ | refine zb3 (by exact rfl) ?_ | refine v_k ?_ | fail)) | (refine m00 ?_; (first | refine v_T (by have h9 := (h1 k hk').2; omega) ?_ | refine v_T (by have h9 := (h1 k hk').1; omega) ?_ | with_reducible refine zqu (m := (P (k + 1) : Int)) (by rw [hP]; omega) (by have := (h1 k hk').1; rw [hP]; omega) ?_ | refine zbo (e - ((k + 1 : Nat) : Int)) (by omega) (by omega) ?_ | with_reducible refine zqr (b := hb (t + 1)) (by exact hbs t) ?_ | with_reducible refine zh8 (q := (Q (t + 1) : Int)) (by have := hQ62 t; omega) (by rw [hQs]; omega) ?_ | with_reducible refine zh8 (by omega) (by exact rfl) ?_ | refine zbo (e - (N1 : Int) + ((t + 1 : Nat) : Int)) (by omega) (by omega) ?_ | with_reducible refine zfi (by omega) ?_ | refine v_T (by have h9 := h2 t ht; omega) ?_ | refine m47 ?_ | refine m48 ?_ | with_reducible refine z2o ?_ ?_ | refine m52 ?_ | refine m53 ?_ | refine zc7 ?_ | refine m47 ?_ | refine m48 ?_ | refine m49 ?_ | refine m50 ?_ | refine zgq (by omega) (by omega) ?_ | refine zh7 (by omega) (by omega) ?_ | refine v_k ?_ | refine m51 ?_ | fail)) | (refine m22 ?_; (first | refine m26 ?_ | refine m27 ?_ | fail)) | refine m42 ?_ | refine zab ?_ | refine zac ?_ | refine m08 ?_ | refine zaj ?_ | (refine m46 ?_; (first | refine v_T (by have h9 := (h1 k hk').2; omega) ?_ | refine v_T (by have h9 := (h1 k hk').1; omega) ?_ | with_reducible refine zqu (m := (P (k + 1) : Int)) (by rw [hP]; omega) (by have := (h1 k hk').1; rw [hP]; omega) ?_ | refine zbo (e - ((k + 1 : Nat) : Int)) (by omega) (by omega) ?_ | with_reducible refine zqr (b := hb (t + 1)) (by exact hbs t) ?_ | with_reducible refine zh8 (q := (Q (t + 1) : Int)) (by have := hQ62 t; omega) (by rw [hQs]; omega) ?_ | with_reducible refine zh8 (by omega) (by exact rfl) ?_ | refine zbo (e - (N1 : Int) + ((t + 1 : Nat) : Int)) (by omega) (by omega) ?_ | with_reducible refine zfi (by omega) ?_ | refine v_T (by have h9 := h2 t ht; omega) ?_ | refine m47 ?_ | refine m48 ?_ | with_reducible refine z2o ?_ ?_ | refine m52 ?_ | refine m53 ?_ | refine zc7 ?_ | refine m47 ?_ | refine m48 ?_ | refine m49 ?_ | refine m50 ?_ | refine zgq (by omega) (by omega) ?_ | refine zh7 (by omega) (by omega) ?_ | refine v_k ?_ | refine m51 ?_ | fail)) | refine zey (by (conv => {lhs; whnf}); done) (by exact rfl) ?_ | refine zdn (by (conv => {lhs; whnf}); done) ?_ | fail))
 |refine zat ?_ | refine zau ?_ | refine zas ?_
 |(refine zax ?_; (first | refine zar ?_ | refine zad ?_ | (refine m06 ?_; (first | refine c_T ?_ | refine c_F ?_ | refine c_P ?_ ?_ | refine c_B ?_ ?_ | fail)) | refine zaq ?_ | refine zah ?_ | refine zae ?_ | refine b_exit ?_ | (refine za1 [1, 2, 7, 8, 9] N2 (fun t => ⟨[(1, .val (.int .u64 (Q t : Int))), (2, .val (.int .i64 (e - (N1 : Int) + (t : Int)))), (7, .val (.int .u64 0)), (8, .val (.bool (lb t))), (9, .val (.bool (hb t)))], [], H ++ []⟩) (by simp only [hQ0, hb0, lb0, Int.natCast_zero, Int.add_zero]; exact rfl) ?_ ?_ <;> (first | intro t ht K hK | intro K) <;> (try dsimp only at *)) | (refine za1 [1, 2, 7] N1 (fun k => ⟨[(1, .val (.int .u64 (P k : Int))), (2, .val (.int .i64 (e - (k : Int)))), (7, .val (.int .u64 0))], [], H ++ []⟩) (by simp only [hP0, Int.natCast_zero, Int.sub_zero]; exact rfl) ?_ ?_ <;> (first | intro k hk' K hK | intro K) <;> (try dsimp only at *)) | fail))
 |refine m21 ?_
 |refine za4 ?_
 |(refine za5 ?_; (first | refine cA (zb7 _ _ (by omega)) ?_ | fail))
 |refine zbh ?_ | refine zbi ?_ | refine zbg ?_ | refine m57 ?_
 |refine zdp ?_ | refine zdq ?_ | refine zdo ?_
 |(refine zdr (by exact rfl) ?_; first | exact hK | (simp only [lbs, *, Bool.true_or, Bool.false_or] at hK ⊢; exact hK) | (exfalso; have := h2 t ht; omega) | (exfalso; first | omega | (simp_all; done) | (simp_all; omega)))
 |refine m05 ?_
 |refine m04 ?_ | refine m02 ?_ | refine m03 ?_ | refine zai ?_
 |intro _)
  all_goals first
    | (exfalso; omega)
    | (rw [hkT () (by assumption) (by first | (left; assumption) | (right; omega))]; refine zb5 rfl (zhq (Nat.min_le_right _ _) ?_); unfold Ieee.Format.word; rw [zkk]; simp only [if_true, Bool.false_eq_true, if_false]; have hlow := hlw (); (first | have hE8 : e - (N1 : Int) + (N2 : Int) + 1 + 1075 < 2047 := (by omega) | have hE8 : e - (N1 : Int) + (N2 : Int) + 1075 < 2047 := (by omega) | skip); clear hkT hkF h1 h1' h2 hP hQs hQ62 hbs lbs h1a hlw hQ0 hP0 hQN hb0 lb0 he hN1 hN2 h0 hm; generalize e - (N1 : Int) + (N2 : Int) = E2 at *; generalize Q N2 = q at *; obtain ⟨z, rfl⟩ : ∃ z : Nat, E2 = (z : Int) - 1074 := ⟨(E2 + 1074).toNat, by omega⟩; rw [show ((z : Int) - 1074 + 1074).toNat = z by omega]; by_cases hq : q < 4503599627370496 <;> (first | have hlow := hlow hq | skip) <;> omega)
    | (rw [hkF () (by rintro ⟨h8, h9⟩; first | (rw [show hb N2 = false by assumption] at h8; cases h8) | (rcases h9 with h9 | h9; (rw [show lb N2 = false by assumption] at h9; cases h9); omega))]; refine zb5 rfl (zhq (Nat.min_le_right _ _) ?_); unfold Ieee.Format.word; rw [zkk]; simp only [if_true, Bool.false_eq_true, if_false]; have hlow := hlw (); (first | have hE8 : e - (N1 : Int) + (N2 : Int) + 1 + 1075 < 2047 := (by omega) | have hE8 : e - (N1 : Int) + (N2 : Int) + 1075 < 2047 := (by omega) | skip); clear hkT hkF h1 h1' h2 hP hQs hQ62 hbs lbs h1a hlw hQ0 hP0 hQN hb0 lb0 he hN1 hN2 h0 hm; generalize e - (N1 : Int) + (N2 : Int) = E2 at *; generalize Q N2 = q at *; obtain ⟨z, rfl⟩ : ∃ z : Nat, E2 = (z : Int) - 1074 := ⟨(E2 + 1074).toNat, by omega⟩; rw [show ((z : Int) - 1074 + 1074).toNat = z by omega]; by_cases hq : q < 4503599627370496 <;> (first | have hlow := hlow hq | skip) <;> omega)
theorem zj6 (H : List (List AV)) (neg : Bool) (m : Nat) (hm : m < 4611686018427387904) (e : Int) (he : -100000 ≤ e ∧ e ≤ 100000) : zaa Tryz.prog 134 [.bool neg, .int .u64 (m : Int), .int .i64 e] H (.flt (Ieee.double.word neg (zbs m e))) H := by
  by_cases h0 : m = 0 ∨ e < -1200
  · exact z4r H neg m hm e he h0
  · by_cases h1 : 2000 < e
    · exact z4o H neg m hm e he (by omega) h1
    · cases neg
      · exact z4n H m hm e (by omega) (by omega)
      · exact z4q H m hm e (by omega) (by omega)
theorem zwh (H : List (List AV)) (x : Nat) (k : Int) (hx : pK x ≠ 0) :
    zaa Tryz.prog 85 [.flt x, .int .i64 k] H (.flt x) H := by
  refine .go Tryz.call85 Tryz.func85 false [] dOk ?_
  simp only [za0, Nat.reduceAdd]
  repeat' (first
 |(refine zav ?_; (first | refine zbd ?_ | refine zao ?_ | fail))
 |(refine zaw ?_; (first | refine m14 ?_ | (refine m00 ?_; (first | refine m54 ?_ | refine m55 ?_ | refine zbx ?_ | refine m47 ?_ | refine m48 ?_ | refine m49 ?_ | refine m50 ?_ | refine v_k ?_ | refine m51 ?_ | fail)) | refine m42 ?_ | refine zab ?_ | refine zac ?_ | refine m08 ?_ | refine zaj ?_ | refine m23 ?_ | fail))
 |refine zat ?_ | refine zau ?_ | refine zas ?_
 |(refine zax ?_; (first | refine zar ?_ | refine zad ?_ | (refine m06 ?_; (first | refine c_T ?_ | refine c_F ?_ | refine c_P ?_ ?_ | refine c_B ?_ ?_ | fail)) | refine zaq ?_ | refine zah ?_ | refine zae ?_ | refine b_exit ?_ | fail))
 |refine m21 ?_
 |refine za4 ?_
 |(refine za5 ?_; (first | refine cA (z0s _ x) ?_ | fail))
 |refine m05 ?_
 |refine m04 ?_ | refine m02 ?_ | refine m03 ?_ | refine zai ?_
 |intro _)
  all_goals first
    | (refine zal rfl (by simp [mx, mxL, zaf, aOf, zbn]) ?_; exact rfl)
    | (exfalso; simp_all; done)
theorem z4p (H : List (List AV)) (neg : Bool) (m : Int) (hm : 0 ≤ m ∧ m < 4611686018427387904) (e : Int) (he : -100000 ≤ e ∧ e ≤ 100000) : zaa Tryz.prog 134 [.bool neg, .int .u64 m, .int .i64 e] H (.flt (Ieee.double.word neg (zbs m.toNat e))) H := by
  obtain ⟨n, rfl⟩ : ∃ n : Nat, m = n := ⟨m.toNat, by omega⟩
  exact zj6 H neg n (by omega) e he
theorem zwi (H : List (List AV)) (x : Nat) (k : Int) (hx : pK x = 0) (hp : ∀ H', zaa Tryz.prog 60 [.flt x] H' (.tup [.bool (zeb x), .int .u64 (pM x), .int .i64 (pE x), .int .i64 0]) H') :
    zaa Tryz.prog 85 [.flt x, .int .i64 k] H (.flt (zcy x (clK k))) H := by
  have hpM : 0 ≤ pM x ∧ pM x < 4611686018427387904 := by have := zgk (x := x); omega
  have hpE := zhz (x := x)
  refine .go Tryz.call85 Tryz.func85 false [] dOk ?_
  simp only [za0, Nat.reduceAdd]
  repeat' (first
 |(refine zav ?_; (first | refine zbd ?_ | refine zao ?_ | fail))
 |(refine zaw ?_; (first | refine m14 ?_ | (refine m00 ?_; (first | refine m54 ?_ | refine m55 ?_ | refine zbx ?_ | refine m47 ?_ | refine m48 ?_ | refine m49 ?_ | refine m50 ?_ | refine v_k ?_ | refine m51 ?_ | fail)) | refine m42 ?_ | refine zab ?_ | refine zac ?_ | refine m08 ?_ | refine zaj ?_ | refine m23 ?_ | fail))
 |refine zat ?_ | refine zau ?_ | refine zas ?_
 |(refine zax ?_; (first | refine zar ?_ | refine zad ?_ | (refine m06 ?_; (first | refine c_T ?_ | refine c_F ?_ | refine c_P ?_ ?_ | refine c_B ?_ ?_ | fail)) | refine zaq ?_ | refine zah ?_ | refine zae ?_ | refine b_exit ?_ | fail))
 |refine m21 ?_
 |refine za4 ?_
 |(refine za5 ?_; (first | refine cA (hp _) ?_ | refine cA (z4p _ (zeb x) (pM x) hpM _ (by omega)) ?_ | fail))
 |refine m05 ?_
 |refine m04 ?_ | refine m02 ?_ | refine m03 ?_ | refine zai ?_
 |intro _)
  all_goals first
    | (refine zal rfl (by simp [mx, mxL, zaf, aOf, zbn]) ?_; simp only [zaf, List.nil_append]; unfold zcy clK; rw [if_pos hx]; refine congrArg (fun t => AV.flt (Ieee.double.word (zeb x) (zbs (pM x).toNat t))) ?_; omega)
    | (exfalso; omega)
theorem zk7 (H : List (List AV)) (x : Nat) (k : Int) : zaa Tryz.prog 85 [.flt x, .int .i64 k] H (.flt (zcy x (clK k))) H := by
  by_cases hx : pK x = 0
  · refine zwi H x k hx fun H' => ?_
    refine .mk (fun args w => Tryz.call60 args w) (Spec.raw1 fun b hb hbx => ?_)
    have hbb := zgu hx hbx
    subst hbb
    have h := zaa.spec (fun args w => Tryz.call60 args w) (zet H' b hb)
    rw [hx, zo7 hb] at h
    exact h
  · rw [zka hx]; exact zwh H x k hx
end
def shF (f : Nat → Nat) (k : List Int) (n : Nat) : Nat → Nat := fun i => if i < n then zcy (f i) (clK (k.getD i 0)) else f i
theorem zwt (f : Nat → Nat) (k : List Int) : shF f k 0 = f := by funext i; unfold shF; rw [if_neg (by omega)]
theorem z6p {f : Nat → Nat} {k : List Int} {n : Nat} : shF f k n n = f n := by unfold shF; rw [if_neg (by omega)]
theorem zwr {f : Nat → Nat} {k : List Int} {n : Nat} (t : Nat) : zcj (shF f k n) n (zcy (f n) (clK (k.getD n 0))) t = shF f k (n + 1) t := by
  unfold zcj shF
  by_cases h : t = n
  · subst h; rw [if_pos rfl, if_pos (by omega)]
  · rw [if_neg h]
    by_cases h1 : t < n
    · rw [if_pos h1, if_pos (by omega)]
    · rw [if_neg h1, if_neg (by omega)]
theorem zz6 {P : Program} {t el : TypeId} (h : zfh P t = some el) : zxv P t = true := by
  unfold zfh at h; unfold zxv
  split at h
  · rfl
  · cases h
def NN (X : AV) : Prop := (∃ tg n c cs, X = .sl tg n (c :: cs)) ∨ ∃ a b c d e, X = .slm a b c d e
theorem NN.slm (a b c d e : Nat) : NN (.slm a b c d e) := .inr ⟨a, b, c, d, e, rfl⟩
theorem NN.sl {tg : Option (Nat × Nat)} {n : Nat} {l : List Nat} (h : 0 < l.length) : NN (.sl tg n (fl l)) := by
  cases l with
  | nil => simp at h
  | cons x l => exact .inl ⟨tg, n, .flt x, fl l, rfl⟩
theorem zxd {P : Program} {cfg : Cfg} {e : List (Nat × EV)} {L : List (Nat × List AV)} {H : List (List AV)} {K : St → Prop} {ty : TypeId} {pos : String} {aft : Array Edge} {gd : Option (Nat × Bool)} {dd : Nat} {t t' : TypeId} {el z : Nat} [si : SlI P t el z] {x y : Operand} {X : AV} (hX : NN X) (hx : St.ev ⟨e, L, H⟩ x = .val X) (hy : St.ev ⟨e, L, H⟩ y = .val .slnil)
    (h : K ⟨(dd, .val (.bool false)) :: e, L, H⟩) : opX P cfg ⟨some dd, .binOp .eql t x y t', ty, pos, aft, gd⟩ K ⟨e, L, H⟩ := by
  refine zu3 hx hy (r := some (True, .bool false)) ?_ (v_k h)
  rcases hX with ⟨tg, n, c, cs, rfl⟩ | ⟨a, b, c, d, e, rfl⟩ <;> simp [znw, AV.asF, z0r, zqb, zz6 si.h]
section
attribute [local irreducible] Ex za3 exD opX opE zca zd3 zd4 Spec zaa Fr zb9 zbb zba ckK zb8 zb6 zbu faK zb4 zd1 gK fK rK zeq lpX prK
theorem zsj (H : List (List AV)) (D : AV) (l : List Nat) (hF : FL H D l) (hB : l.length ≤ 2 ^ 30) (x : Nat) (N : Nat) (hN1 : N ≤ l.length) (hN2 : ∀ k, k < N → feq x (l.getD k 0) = false) (hN3 : N < l.length → ¬ feq x (l.getD N 0) = false) :
    zaa Tryz.prog 178 [D, .flt x] H (.int .i64 (if N < l.length then (N : Int) else -1)) H := by
  refine .go Tryz.call178 Tryz.func178 false [] dOk ?_
  simp only [za0, Nat.reduceAdd]
  repeat' (first
 |(refine zav ?_; (first | refine zbd ?_ | refine zao ?_ | fail))
 |(refine zaw ?_; (first | refine m41 ?_ | refine zb0 ?_ | refine m14 ?_ | (refine m07 ?_; (first | refine m15 ?_ | refine m16 ?_ | refine zdy (FL.app hF _) (by omega) ?_ | fail)) | refine zam (by (conv => {lhs; whnf}); done) (by exact hF.len) ?_ | refine zbz (by (conv => {lhs; whnf}); done) (by (conv => {lhs; whnf}); done) (by exact hF.len) (by omega) ?_ | (refine m45 ?_; (first | refine zbo ((k + 1 : Nat) : Int) (by omega) (by omega) ?_ | refine zb3 (by exact rfl) ?_ | refine v_k ?_ | fail)) | (refine m00 ?_; (first | refine zbo ((k + 1 : Nat) : Int) (by omega) (by omega) ?_ | refine m52 ?_ | refine m53 ?_ | refine zc7 ?_ | refine m47 ?_ | refine m48 ?_ | refine m49 ?_ | refine m50 ?_ | refine v_k ?_ | refine m51 ?_ | fail)) | refine m42 ?_ | refine zab ?_ | refine zac ?_ | refine m08 ?_ | refine zam (by (conv => {lhs; whnf}); done) (by first | rfl | assumption) ?_ | fail))
 |refine zat ?_ | refine zau ?_ | refine zas ?_
 |(refine zax ?_; (first | refine zar ?_ | refine zad ?_ | (refine m06 ?_; (first | refine c_T ?_ | refine c_F ?_ | refine c_P ?_ ?_ | refine c_B ?_ ?_ | fail)) | refine zaq ?_ | refine zah ?_ | refine zae ?_ | refine b_exit ?_ | (refine za1 [0, 1, 7, 8] N (fun k => ⟨[(0, .val D), (1, .val (.flt x)), (7, .val (.int .i64 (l.length : Int))), (8, .val (.int .i64 ((k : Nat) : Int)))], [], H ++ []⟩) (by exact rfl) ?_ ?_ <;> (first | intro k hk K hK | intro K) <;> (try dsimp only at *)) | fail))
 |refine zbh ?_ | refine zbi ?_ | refine zbg ?_ | refine m57 ?_
 |refine zdp ?_ | refine zdq ?_ | refine zdo ?_
 |(refine zdr (by exact rfl) ?_; first | exact hK | (exfalso; have := hN2 k (by omega); simp_all; done) | (exfalso; first | omega | (simp_all; done) | (simp_all; omega)))
 |refine m05 ?_
 |refine m04 ?_ | refine m02 ?_ | refine m03 ?_ | refine zai ?_
 |intro _)
  all_goals first
    | (exfalso; omega)
    | (rw [if_pos (by omega)]; refine zal rfl (by simp [mx, mxL, zaf, aOf, zbn]) ?_; exact rfl)
    | (rw [if_neg (by omega)]; refine zal rfl (by simp [mx, mxL, zaf, aOf, zbn]) ?_; exact rfl)
    | (exfalso; simp_all; done)
theorem zv9 (a b : Ieee.Datum) : (a.order b == some Ordering.eq) = (b.order a == some Ordering.eq) := by
  have hc : ∀ a b : Int, (some (compare a b) == some Ordering.eq) = (some (compare b a) == some Ordering.eq) := fun a b => by
    rcases Int.lt_trichotomy a b with h | h | h
    · rw [Int.compare_eq_lt.2 h, Int.compare_eq_gt.2 h]; rfl
    · subst h; rfl
    · rw [Int.compare_eq_gt.2 h, Int.compare_eq_lt.2 h]; rfl
  cases a with
  | number s m i =>
    cases b with
    | number t n j => simp only [Ieee.Datum.order]; rw [Int.min_comm, hc]
    | infinity t => cases t <;> rfl
    | nan t u => rfl
  | infinity s =>
    cases b with
    | number t n j => cases s <;> rfl
    | infinity t => cases s <;> cases t <;> decide
    | nan t u => rfl
  | nan s u => cases b <;> rfl
theorem zkn (x y : Nat) : feq x y = feq y x := zv9 _ _
theorem zz1 (H : List (List AV)) (D : AV) (l : List Nat) (hF : FL H D l) (hB : l.length ≤ 2 ^ 30) (h : ∀ k, k < l.length → feq (l.getD k 0) 0 = false) : zaa Tryz.prog 178 [D, .flt 0] H (.int .i64 (-1)) H := by
  have := zsj H D l hF hB 0 l.length (Nat.le_refl _) (fun k hk => by rw [zkn]; exact h k hk) (fun hh => absurd hh (Nat.lt_irrefl _))
  rwa [if_neg (Nat.lt_irrefl _)] at this
theorem zz2 (H : List (List AV)) (D : AV) (l : List Nat) (hF : FL H D l) (hB : l.length ≤ 2 ^ 30) (z : Nat) (hz : z < l.length) (h : ∀ k, k < z → feq (l.getD k 0) 0 = false) (h1 : feq (l.getD z 0) 0 = true) : zaa Tryz.prog 178 [D, .flt 0] H (.int .i64 (z : Int)) H := by
  have := zsj H D l hF hB 0 z (by omega) (fun k hk => by rw [zkn]; exact h k hk) (fun _ => by rw [zkn, h1]; simp)
  rwa [if_pos hz] at this
theorem zku :
    (∀ (H : List (List AV)) (D : AV) (l : List Nat) (hF : FL H D l) (hB : l.length ≤ 2 ^ 30) (h : ∀ k, k < l.length → feq (l.getD k 0) 0 = false), zaa Tryz.prog 164 [D, .flt 0] H (.bool false) H) ∧
    (∀ (H : List (List AV)) (D : AV) (l : List Nat) (hF : FL H D l) (hB : l.length ≤ 2 ^ 30) (z : Nat) (hz : z < l.length) (h : ∀ k, k < z → feq (l.getD k 0) 0 = false) (h1 : feq (l.getD z 0) 0 = true), zaa Tryz.prog 164 [D, .flt 0] H (.bool true) H) := by
  refine ⟨?_, ?_⟩
  (intro H D l hF hB h
   refine .go Tryz.call164 Tryz.func164 false [] dOk ?_
   simp only [za0, Nat.reduceAdd])
  rotate_left
  (intro H D l hF hB z hz h h1
   refine .go Tryz.call164 Tryz.func164 false [] dOk ?_
   simp only [za0, Nat.reduceAdd])
  rotate_left
  all_goals (repeat' (first
 |(refine zav ?_; (first | refine zbd ?_ | refine zao ?_ | fail))
 |(refine zaw ?_; (first | refine m14 ?_ | (refine m00 ?_; (first | refine m47 ?_ | refine m48 ?_ | refine m49 ?_ | refine m50 ?_ | refine v_k ?_ | refine m51 ?_ | fail)) | refine m42 ?_ | refine zab ?_ | refine zac ?_ | refine m08 ?_ | refine zaj ?_ | fail))
 |refine zat ?_ | refine zau ?_ | refine zas ?_
 |(refine zax ?_; (first | refine zar ?_ | refine zad ?_ | (refine m06 ?_; (first | refine c_T ?_ | refine c_F ?_ | refine c_P ?_ ?_ | refine c_B ?_ ?_ | fail)) | refine zaq ?_ | refine zah ?_ | refine zae ?_ | refine b_exit ?_ | fail))
 |refine m21 ?_
 |refine za4 ?_
 |(refine za5 ?_; (first | refine cA (zz1 _ D l (FL.app hF _) hB h) ?_ | refine cA (zz2 _ D l (FL.app hF _) hB z hz h h1) ?_ | fail))
 |refine m05 ?_
 |refine m04 ?_ | refine m02 ?_ | refine m03 ?_ | refine zai ?_
 |intro _))
  all_goals first
    | (exfalso; omega)
    | (refine zal rfl (by simp [mx, mxL, zaf, aOf, zbn]) ?_; exact rfl)
    | (exfalso; simp_all; done)
theorem z9u : type_of% @zku.1 := @zku.1
theorem z9v : type_of% @zku.2 := @zku.2
theorem zze (H H' : List (List AV)) (D : AV) (l : List Nat) (hF : FL H D l) (hB : l.length ≤ 2 ^ 30) (hN : NN D) (m : Nat) (hm : H.length = m) (hH : H ++ [fl l] = H') :
    zaa Tryz.prog 106 [D] H (.slm m l.length 0 l.length 1) H' := by
  subst hH hm
  refine .go Tryz.call106 Tryz.func106 false [] dOk ?_
  simp only [za0, Nat.reduceAdd]
  repeat' (first
 |(refine zav ?_; (first | refine zbd ?_ | refine zao ?_ | fail))
 |(refine zaw ?_; (first | refine m14 ?_ | refine zxd hN (by (conv => {lhs; whnf}); done) (by exact rfl) ?_ | refine zgs (by exact rfl) (by exact rfl) (by decide) (by exact rfl) (by (conv => {lhs; whnf}); done) ?_ | refine zfp (by (conv => {lhs; whnf}); done) (by (conv => {lhs; whnf}); done) (by exact rfl) (by exact rfl) (by exact zjh hF) (by simp) (by exact rfl) (by simp; omega) (.inl (Nat.le_refl _)) (by exact rfl) (by (conv => {lhs; simp only [List.nil_append, zfr, zg2]}); done) (by (conv => {lhs; simp only [List.set_cons_zero, List.set_cons_succ]}); done) (by (conv => {lhs; simp only [zd9, zgi, List.length_append, List.length_nil, Nat.zero_add]}); done) (by (conv => {lhs; simp only [Nat.zero_add]}); done) ?_ | (refine m45 ?_; (first | refine zb3 (by exact rfl) ?_ | refine v_k ?_ | fail)) | (refine m00 ?_; (first | refine m52 ?_ | refine m53 ?_ | refine zc7 ?_ | refine m49 ?_ | refine m50 ?_ | refine v_k ?_ | refine m51 ?_ | fail)) | refine m42 ?_ | refine zab ?_ | refine zac ?_ | refine m08 ?_ | refine zc2 (by exact rfl) (by exact rfl) (by decide) ?_ | fail))
 |refine zat ?_ | refine zau ?_ | refine zas ?_
 |(refine zax ?_; (first | refine zar ?_ | refine zad ?_ | (refine m06 ?_; (first | refine c_T ?_ | refine c_F ?_ | refine c_P ?_ ?_ | refine c_B ?_ ?_ | fail)) | refine zaq ?_ | refine zah ?_ | refine zae ?_ | refine b_exit ?_ | fail))
 |refine m44 ?_
 |refine m40 ?_
 |(refine zbc (by (conv => {lhs; simp only [List.nil_append, List.cons_append]}); done) ?_; first | refine ⟨by exact rfl, ?_⟩ | skip)
 |refine zbt ?_
 |(intro N' hN'; simp only [List.nil_append, List.cons_append] at hN'; subst hN')
 |refine m05 ?_
 |refine m04 ?_ | refine m02 ?_ | refine m03 ?_ | refine zai ?_
 |(refine ⟨by simp [zm9], fun N' hN' => ?_⟩; simp only [List.nil_append, List.cons_append] at hN'; subst hN')
 |intro _)
  all_goals first
    | exact zgc (j := 0) (cs := fl l) rfl rfl (by rw [zak]; exact Nat.zero_le _) (Fr.kp (j := 0) (cs := fl l) rfl (za9 rfl rfl) (zd9 l))
theorem qax (H H' : List (List AV)) (b : Nat) (l : List Nat) (hb : H[b]? = some (fl l)) (p : Nat) (hp : p < l.length) (bk : Nat) (Kv : AV) (hbk : H[bk]? = some [Kv]) (kl : List Int) (hK : IL H Kv kl) (i : Nat) (hi : i < kl.length) (hH : H.set b (fl (l.set p (zcy (l.getD p 0) (clK (kl.getD i 0))))) = H') :
    zaa Tryz.prog 181 [.int .i64 (i : Int), .eptr (.slm b l.length 0 l.length 1) p, .eptr (.slm bk 1 0 1 1) 0] H (.tup []) H' := by
  subst hH
  have hbl : b < H.length := (List.getElem?_eq_some_iff.1 hb).1
  refine .go Tryz.call181 Tryz.func181 false [] dOk ?_
  simp only [za0, Nat.reduceAdd]
  repeat' (first
 |(refine zav ?_; (first | refine zbd ?_ | refine zao ?_ | fail))
 |(refine zaw ?_; (first | refine m14 ?_ | (refine m07 ?_; (first | refine m15 ?_ | refine m16 ?_ | refine zxy (IL.app hK _) hi ?_ | refine zj3 hbk (by exact rfl) (by exact rfl) ?_ | refine zj3 hb (by simp) (by rw [Nat.zero_add]; exact zn9 hp) ?_ | fail)) | refine zc3 (by (conv => {lhs; whnf}); done) ?_ | refine zbz (by (conv => {lhs; whnf}); done) (by (conv => {lhs; whnf}); done) (by exact hK.len) (by omega) ?_ | refine zy9 (by (conv => {lhs; whnf}); done) (by (conv => {lhs; whnf}); done) hb (by exact rfl) (by omega) (m' := l.set p (zcy (l.getD p 0) (clK (kl.getD i 0)))) (by rw [Nat.zero_add]) ?_ | refine zaj ?_ | refine m25 ?_ | fail))
 |(refine zch ?_; (first | refine m36 ?_ | refine zcf ?_ | fail))
 |(refine zcg ?_; (first | refine zev ?_ | refine zfv ?_ | refine zfw (by (conv => {lhs; whnf}); done) ?_ | refine zfx ?_ | refine zfu (by exact rfl) (by exact rfl) ?_ | refine m34 ?_ | refine m35 ?_ | refine m33 ?_ | refine zew ?_ | refine m56 ?_ | refine zci ?_ | refine zc1 (by exact rfl) ?_ | fail))
 |refine zat ?_ | refine zau ?_ | refine zas ?_
 |(refine zax ?_; (first | refine zar ?_ | refine zad ?_ | (refine m06 ?_; (first | refine c_T ?_ | refine c_F ?_ | refine c_P ?_ ?_ | refine c_B ?_ ?_ | fail)) | refine zaq ?_ | refine zah ?_ | refine zae ?_ | refine b_exit ?_ | refine zan (id := 0) [] [10] [(0, .lt), (1, .lt), (2, .lt), (3, .ld true), (4, .ld true), (5, .lt), (6, .lt), (7, .ld true), (8, .mn true), (9, .lt), (10, .mn false)] (by kernel_rfl) ?_ | fail))
 |refine m21 ?_
 |refine za4 ?_
 |(refine za5 ?_; (first | refine cA (ztz _ _ _) ?_ | fail))
 |refine m05 ?_
 |refine m04 ?_ | refine m02 ?_ | refine m03 ?_ | refine zai ?_
 |intro _)
  all_goals first
    | (refine zal (by simp) (by simp [mx, mxL, zaf]) ?_; exact rfl)
theorem zyu (S : Nat → List (List AV)) (Lf : Nat → List Nat) (D : AV) (hF : ∀ t, FL (S t) D (Lf t)) (m : Nat) (hl : ∀ t, (Lf t).length = m) (off inc : Int) (n : Nat) (hI : VI m off n inc) (hR : za8 m off n inc) (fid : Nat) (caps : List AV) (hSl : ∀ t, (S t).length = (S 0).length) (hO : ∀ t N N', zbk (S 0).length (S t ++ N) (S (t + 1) ++ N')) (hS : ∀ i N, i < n → zaa Tryz.prog fid ([.int .i64 (i : Int), .eptr D (pos off inc 0 i)] ++ caps) (S i ++ N) (.tup []) (S (i + 1) ++ N)) :
    zaa Tryz.prog 174 [vt D off (n : Int) inc, .func fid [] caps] (S 0) (.tup []) (S n) := by
  obtain ⟨vn, vo1, vo2, vn1, vn2, vi1, vi2⟩ := id hI
  have hlen : slen D = some m := by (have h9 := (hF 0).len; rwa [hl] at h9)
  refine .go Tryz.call174 Tryz.func174 false [] dOk ?_
  simp only [za0, Nat.reduceAdd]
  repeat' (first
 |(refine zav ?_; (first | refine zbd ?_ | refine zao ?_ | fail))
 |(refine zaw ?_; (first | refine m41 ?_ | refine zb0 ?_ | refine m14 ?_ | (refine m17 ?_; first | refine m19 ?_ | refine m18 ?_) | (refine m07 ?_; (first | refine m15 ?_ | refine m16 ?_ | fail)) | refine zec (m := pos off inc 0 i) (by (conv => {lhs; whnf}); done) (by (conv => {lhs; whnf}); done) (by exact hlen) (by exact zho (l := Lf i) (by rw [hl]; exact hR) hi) (by have h9 := zdb (l := Lf i) (off := off) (inc := inc) (n := n) (by rw [hl]; exact hR) hi; rwa [hl] at h9) ?_ | (refine m00 ?_; (first | refine zbo ((i + 1 : Nat) : Int) (by omega) (by omega) ?_ | refine v_w (by first | omega | (have h1 := zen hR (i := (i : Int)) (by omega) (by omega); omega) | fail) ?_ | refine m47 ?_ | refine m48 ?_ | refine m49 ?_ | refine m50 ?_ | refine v_k ?_ | refine m51 ?_ | fail)) | refine m08 ?_ | refine zaj ?_ | refine m39 ?_ | refine m01 ?_ | fail))
 |refine zat ?_ | refine zau ?_ | refine zas ?_
 |(refine zax ?_; (first | refine zar ?_ | refine zad ?_ | (refine m06 ?_; (first | refine c_T ?_ | refine c_F ?_ | refine c_P ?_ ?_ | refine c_B ?_ ?_ | fail)) | refine zaq ?_ | refine zah ?_ | refine zae ?_ | refine b_exit ?_ | (refine za1 [1, 2, 6, 7] n (fun i => ⟨[(1, .val (.func fid [] caps)), (2, .loc 2 0), (6, .val (.int .i64 ((n : Nat) : Int))), (7, .val (.int .i64 ((i : Nat) : Int)))], [(2, [D, .int .i64 off, .int .i64 (n : Int), .int .i64 inc])], S i ++ []⟩) (by exact rfl) ?_ ?_ <;> (first | intro i hi K hK | intro K) <;> (try dsimp only at *)) | fail))
 |refine m21 ?_
 |refine za4 ?_
 |(refine za5 ?_; (first | refine c_call (hS i [] hi) (hO _ _ _) ?_ | fail))
 |refine m44 ?_
 |refine m40 ?_
 |(refine zbc (by (conv => {lhs; simp only [List.nil_append, List.cons_append]}); done) ?_; first | refine ⟨by exact rfl, ?_⟩ | skip)
 |refine zbt ?_
 |(intro N' hN'; simp only [List.nil_append, List.cons_append] at hN'; subst hN')
 |refine zbh ?_ | refine zbi ?_ | refine zbg ?_ | refine m57 ?_
 |refine zdp ?_ | refine zdq ?_ | refine zdo ?_
 |(refine zdr (by exact rfl) ?_; first | exact hK | fail | (exfalso; first | omega | (simp_all; done) | (simp_all; omega)))
 |refine m05 ?_
 |refine m04 ?_ | refine m02 ?_ | refine m03 ?_ | refine zai ?_
 |intro _)
  all_goals first
    | (refine zal (hSl _) (by simp [mx, mxL, zaf]) ?_; exact rfl)
theorem z1l (H : List (List AV)) (b : Nat) (l : List Nat) (hbl : b < H.length) (xo xi : Int) (n : Nat) (hI : VI l.length xo n xi) (hR : za8 l.length xo n xi) (Kv : AV) (kl : List Int) (hK : ∀ H', IL H' Kv kl) (hKm : mx Kv ≤ H.length) (hn : kl.length = n) (f : Nat → Nat) : zaa Tryz.prog 174 [vt (.slm b l.length 0 l.length 1) xo (n : Int) xi, .func 181 [] [.eptr (.slm (H.length + 1) 1 0 1 1) 0]] (H.set b (fl (za7 l xo xi n (f))) ++ [[(.slm b l.length 0 l.length 1), .int .i64 xo, .int .i64 (n : Int), .int .i64 xi], [Kv]]) (.tup []) (H.set b (fl (za7 l xo xi n (shF f kl n))) ++ [[(.slm b l.length 0 l.length 1), .int .i64 xo, .int .i64 (n : Int), .int .i64 xi], [Kv]]) := by
  have hlen : ∀ g, (H.set b g).length = H.length := fun g => by simp
  have h := zyu (fun t => H.set b (fl (za7 l xo xi n (shF f kl t))) ++ [[(.slm b l.length 0 l.length 1), .int .i64 xo, .int .i64 (n : Int), .int .i64 xi], [Kv]]) (fun t => za7 l xo xi n (shF f kl t)) (.slm b l.length 0 l.length 1) (fun t => FL.set hbl (by simp) (by simp)) l.length (by simp) xo xi n hI hR 181 [.eptr (.slm (H.length + 1) 1 0 1 1) 0] (by simp) (fun t N N' => ?_) (fun i N hi => ?_)
  · simp only [zwt] at h
    exact h
  · have ho := zbk.set (A := H.set b (fl (za7 l xo xi n (shF f kl t))) ++ [[(.slm b l.length 0 l.length 1), .int .i64 xo, .int .i64 (n : Int), .int .i64 xi], [Kv]]) (N := N) (N' := N') (n := (H.set b (fl (za7 l xo xi n (shF f kl 0))) ++ [[(.slm b l.length 0 l.length 1), .int .i64 xo, .int .i64 (n : Int), .int .i64 xi], [Kv]]).length) (i := b) (cs := fl (za7 l xo xi n (shF f kl (t + 1)))) (by simp) (by rw [zak]; exact Nat.zero_le _)
    rw [zsg hbl] at ho
    exact ho
  · have hp := zdb hR hi
    simp only [List.append_assoc]
    refine qax _ _ b (za7 l xo xi n (shF f kl i)) (z4g hbl) (pos xo xi 0 i) (by simpa using hp) (H.length + 1) Kv (by rw [List.getElem?_append_right (by simp)]; simp) kl (hK _) i (by omega) ?_ |> fun h => (by simpa using h)
    have e1 : (za7 l xo xi n (shF f kl i)).getD (pos xo xi 0 i) 0 = f i := by rw [zk9 hR hi, z6p]
    rw [e1, zep hR hi, zsg hbl]
    rw [show za7 l xo xi n (zcj (shF f kl i) i (zcy (f i) (clK (kl.getD i 0)))) = za7 l xo xi n (shF f kl (i + 1)) from zcm hR.2.2.1 hR.2.1 (fun t _ => zwr t)]
end
theorem z18 {n : Nat} (hn : n ≤ 64) : VI n 0 (n : Int) 1 ∧ za8 n 0 (n : Int) 1 := by
  refine ⟨⟨by omega, by omega, by omega, by omega, by omega, by omega, by omega⟩, ?_⟩
  unfold za8; omega
theorem zg9 {f g : Nat → Nat} {n : Nat} : za7 (rml f n) 0 1 n g = rml g n := by
  apply List.ext_getElem
  · simp
  · intro i h1 h2
    have hi : i < n := by simpa using h2
    have e := zk9 (l := rml f n) (off := 0) (inc := 1) (n := n) (f := g) (hR := by unfold za8; simp; omega) hi
    have hp : pos 0 1 0 i = i := by unfold pos; omega
    rw [hp] at e
    have e2 := zcz (g := g) hi
    have e3 := e.trans e2.symm
    simp only [List.getD_eq_getElem?_getD, List.getElem?_eq_getElem h1, List.getElem?_eq_getElem h2, Option.getD_some] at e3
    exact e3
theorem qdo {f : Nat → Nat} {n i : Nat} (hi : i < n) : vf (rml f n) 0 1 i = f i := by
  unfold vf mel
  rw [show ((0 : Int) + ((0 : Nat) : Int) + (i : Int) * 1).toNat = i by omega]
  exact zcz hi
theorem zyf {H : List (List AV)} {b g o s z : Nat} {l la : List Nat} {q : Nat × Nat} (hb : H[b]? = some (fl l)) (hg : l.length = g) (h0 : 0 < la.length) : ptrEq H (.slm b g o s z) 0 (aD q la) 0 = some false := by
  cases la with
  | nil => simp at h0
  | cons a la => simp [aD, ptrEq, zzl hb hg, fl]
section
attribute [local irreducible] Ex za3 exD opX opE zca zd3 zd4 Spec zaa Fr zb9 zbb zba ckK zb8 zb6 zbu faK zb4 zd1 gK fK rK zeq lpX prK
theorem z1m (H H' : List (List AV)) (b : Nat) (l : List Nat) (hb : H[b]? = some (fl l)) (xo xi : Int) (n : Nat) (hI : VI l.length xo n xi) (hR : za8 l.length xo n xi) (Kv : AV) (kl : List Int) (hK : ∀ H', IL H' Kv kl) (hKm : mx Kv ≤ H.length) (hn : kl.length = n) (hH : H.set b (fl (za7 l xo xi n (shF (vf l xo xi) kl n))) = H') :
    zaa Tryz.prog 166 [vt (.slm b l.length 0 l.length 1) xo (n : Int) xi, Kv] H (.int .i64 0) H' := by
  subst hH
  obtain ⟨vn, vo1, vo2, vn1, vn2, vi1, vi2⟩ := id hI
  have hbl : b < H.length := (List.getElem?_eq_some_iff.1 hb).1
  have heach := z1l H b l hbl xo xi n hI hR Kv kl hK hKm hn (vf l xo xi)
  rw [zt1 hR.2.2.1 hR.2.1, set_self hb] at heach
  refine .go Tryz.call166 Tryz.func166 true [] dOk ?_
  simp only [za0, Nat.reduceAdd]
  repeat' (first
 |(refine zav ?_; (first | refine zbd ?_ | refine zao ?_ | fail))
 |(refine zaw ?_; (first | (refine m17 ?_; first | refine m19 ?_ | refine m18 ?_) | (refine m07 ?_; (first | refine m15 ?_ | refine m16 ?_ | refine zus (by exact rfl) (by exact rfl) (by exact rfl) (by exact rfl) ?_ | refine zsp (by exact rfl) (by exact rfl) (by exact rfl) (by exact rfl) ?_ | fail)) | refine zex (by (conv => {lhs; whnf}); done) (by exact rfl) (by exact rfl) (by exact rfl) (by (conv => {lhs; whnf}); done) (by (conv => {lhs; simp only [List.nil_append, List.cons_append]}); done) ?_ | refine zjn ?_ | refine zex (by (conv => {lhs; whnf}); done) (by exact zcn (hK []).len) (by exact rfl) (by exact rfl) (by (conv => {lhs; whnf}); done) (by (conv => {lhs; simp only [List.nil_append, List.cons_append]}); done) ?_ | refine zam (by (conv => {lhs; whnf}); done) (by exact (hK []).len) ?_ | (refine m00 ?_; (first | refine m54 ?_ | refine m55 ?_ | refine zbx ?_ | refine m49 ?_ | refine m50 ?_ | refine zfn ?_ | refine zfl ?_ | refine zfm ?_ | refine v_k ?_ | refine m51 ?_ | fail)) | refine m42 ?_ | refine zab ?_ | refine zac ?_ | refine m08 ?_ | (refine m20 ?_; (first | refine m54 ?_ | refine m55 ?_ | refine zbx ?_ | refine m49 ?_ | refine m50 ?_ | refine zfn ?_ | refine zfl ?_ | refine zfm ?_ | refine v_k ?_ | refine m51 ?_ | fail)) | refine zaj ?_ | refine zam (by (conv => {lhs; whnf}); done) (by first | rfl | assumption) ?_ | refine m01 ?_ | fail))
 |refine zat ?_ | refine zau ?_ | refine zas ?_
 |(refine zax ?_; (first | refine zar ?_ | refine zad ?_ | (refine m06 ?_; (first | refine c_T ?_ | refine c_F ?_ | refine c_P ?_ ?_ | refine c_B ?_ ?_ | fail)) | refine zaq ?_ | refine zah ?_ | refine zae ?_ | refine b_exit ?_ | fail))
 |refine m21 ?_
 |refine za4 ?_
 |(refine za5 ?_; (first | refine cA (zng _ (.slm b l.length 0 l.length 1) l ((FL.old hb (by exact rfl) rfl).app _) xo n xi hI true (decide_eq_true hR)) ?_ | refine c_call heach (zbk.set (by simp) (by rw [zak]; exact Nat.zero_le _)) ?_ | fail))
 |refine m44 ?_
 |refine m40 ?_
 |(refine zbc (by (conv => {lhs; simp only [List.nil_append, List.cons_append]}); done) ?_; first | refine ⟨by exact rfl, ?_⟩ | skip)
 |refine zbt ?_
 |(intro N' hN'; simp only [List.nil_append, List.cons_append] at hN'; subst hN')
 |refine zbh ?_ | refine zbi ?_ | refine zbg ?_ | refine m57 ?_
 |refine m05 ?_
 |refine m04 ?_ | refine m02 ?_ | refine m03 ?_ | refine zai ?_
 |intro _)
  all_goals first
    | (exfalso; contradiction)
    | (exfalso; omega)
    | (refine zal (by simp) (by simp [mx, mxL, zaf]) ?_; exact rfl)
theorem zno (H : List (List AV)) (n : Nat) (hn : n ≤ 64) (f : Nat → Nat) (Kv : AV) (kl : List Int) (hK : ∀ H', IL H' Kv kl) (hKm : mx Kv ≤ H.length) (hkl : kl.length = n) : zaa Tryz.prog 166 [vt (.slm (H.length + 0) n 0 n 1) 0 (n : Int) 1, Kv] (H ++ [fl (rml f n)]) (.int .i64 0) (H ++ [fl (rml (shF f kl n) n)]) := by
  obtain ⟨v1, v2⟩ := z18 hn
  have h := z1m (H ++ [fl (rml f n)]) _ (H.length + 0) (rml f n) (za9 rfl rfl) 0 1 n (by simpa using v1) (by simpa using v2) Kv kl hK (by simp; omega) hkl rfl
  rw [zg9, zi2 (N' := [fl (rml (shF (vf (rml f n) 0 1) kl n) n)]) rfl rfl, zbw (g := shF (vf (rml f n) 0 1) kl n) (g' := shF f kl n) (fun i hi => by unfold shF; rw [if_pos hi, if_pos hi, qdo hi])] at h
  simpa using h
section
variable (H : List (List AV)) (n : Nat) (hn : n ≤ 64) (f : Nat → Nat) (q : Nat × Nat) (la : List Nat) (mo ld : Int) (hI : MI la.length mo n n ld) (hG : zaz la.length mo n n ld) (P : AV) (p : List Int) (hP : ∀ H, IL H P p) (hpl : p.length = n) (hpv : zdx p) (hz : ∀ k, k < n → feq (mel la mo ld k k) 0 = false)
include hn hI hG hP hpl hpv hz in
theorem qa3 : zaa Tryz.prog 46 [(.agg [aD q la, .int .i64 mo, .int .i64 (n : Int), .int .i64 (n : Int), .int .i64 ld, P]), vt (.slm (H.length + 0) n 0 n 1) 0 (n : Int) 1] (H ++ [fl (rml f n)]) (.int .i64 0) (H ++ [fl (rml (up2 (mel la mo ld) (lo1 (mel la mo ld) (tkF p f n) n) n n) n)]) := by
  obtain ⟨v1, v2⟩ := z18 hn
  have hs : ∀ g X, (H ++ [fl (rml g n)]).set (H.length + 0) X = H ++ [X] := fun g X => by rw [zi2 (N' := [X]) rfl rfl]
  have hmeet : ∀ g N, zaa Tryz.prog 142 [mt (.slm (H.length + 0) n 0 n 1) 0 1 (n : Int) 1, mt (aD q la) mo (n : Int) (n : Int) ld] (H ++ [fl (rml g n)] ++ N) (.bool false) (H ++ [fl (rml g n)] ++ N) := fun g N =>
    zx6 _ _ n 0 1 n 1 rfl v1.mat _ la.length mo n n ld rfl hI (fun hs1 hs2 => zyf (l := rml g n) (by rw [List.append_assoc]; exact za9 (j := 0) rfl rfl) (by simp) hs2)
  have hvec : ∀ g N, zaa Tryz.prog 103 [(.agg [aD q la, .int .i64 mo, .int .i64 (n : Int), .int .i64 (n : Int), .int .i64 ld, P]), vt (.slm (H.length + 0) n 0 n 1) 0 (n : Int) 1] (H ++ [fl (rml g n)] ++ N) (.int .i64 0) (H ++ [fl (rml g n)] ++ N) := fun g N => by
    exact z7k (H ++ [fl (rml g n)]) (aD q la) la (zce _ q la) mo n n ld hI (.slm (H.length + 0) n 0 n 1) (rml g n) (FL.old (za9 (j := 0) rfl rfl) (by simp) (by simp)) 0 n 1 (by simpa using v1) P p (hP _) (by omega) ⟨hG, rfl, by omega, hpv⟩ (by simpa using v2) rfl (fun N => hmeet g N) (fun N => zt9 _ _ la (zce _ q la) mo ld n hI hG hz) N
  have h := qa1 (H ++ [fl (rml f n)]) (H.length + 0) (rml f n) (by simp) 0 1 n (by simpa using v1) (by simpa using v2) (aD q la) (by simp [aD, mx, zak]) la.length mo ld hI hG (mel la mo ld) (fun g => ⟨la, zce _ q la, rfl, fun i j _ _ => rfl⟩) (fun g N => by rw [zg9, hs, zbr]; exact hmeet g N) P p hpl (by omega) hpv (fun X N => hP _) f hz (fun N => by rw [zg9, hs, zbr]; exact hvec f N)
  rw [zg9, zg9, hs, hs, zbr] at h
  exact h
end
section
variable (H : List (List AV)) (n : Nat) (hn : n ≤ 64) (f : Nat → Nat) (q : Nat × Nat) (la : List Nat) (mo ld : Int) (hI : MI la.length mo n n ld) (hG : zaz la.length mo n n ld) (P : AV) (p : List Int) (hP : ∀ H, IL H P p) (hpl : p.length = n) (hpv : zdx p) (hz : ∀ k, k < n → feq (mel la mo ld k k) 0 = false)
include hn hI hG hP hpl hpv hz in
theorem qaz : zaa Tryz.prog 48 [(.agg [aD q la, .int .i64 mo, .int .i64 (n : Int), .int .i64 (n : Int), .int .i64 ld, P]), vt (.slm (H.length + 0) n 0 n 1) 0 (n : Int) 1] (H ++ [fl (rml f n)]) (.int .i64 0) (H ++ [fl (rml (tkB p (lt3 (mel la mo ld) (ut4 (mel la mo ld) f n) n n) n) n)]) := by
  obtain ⟨v1, v2⟩ := z18 hn
  have hs : ∀ g X, (H ++ [fl (rml g n)]).set (H.length + 0) X = H ++ [X] := fun g X => by rw [zi2 (N' := [X]) rfl rfl]
  have hmeet : ∀ g N, zaa Tryz.prog 142 [mt (.slm (H.length + 0) n 0 n 1) 0 1 (n : Int) 1, mt (aD q la) mo (n : Int) (n : Int) ld] (H ++ [fl (rml g n)] ++ N) (.bool false) (H ++ [fl (rml g n)] ++ N) := fun g N =>
    zx6 _ _ n 0 1 n 1 rfl v1.mat _ la.length mo n n ld rfl hI (fun hs1 hs2 => zyf (l := rml g n) (by rw [List.append_assoc]; exact za9 (j := 0) rfl rfl) (by simp) hs2)
  have hvec : ∀ g N, zaa Tryz.prog 103 [(.agg [aD q la, .int .i64 mo, .int .i64 (n : Int), .int .i64 (n : Int), .int .i64 ld, P]), vt (.slm (H.length + 0) n 0 n 1) 0 (n : Int) 1] (H ++ [fl (rml g n)] ++ N) (.int .i64 0) (H ++ [fl (rml g n)] ++ N) := fun g N => by
    exact z7k (H ++ [fl (rml g n)]) (aD q la) la (zce _ q la) mo n n ld hI (.slm (H.length + 0) n 0 n 1) (rml g n) (FL.old (za9 (j := 0) rfl rfl) (by simp) (by simp)) 0 n 1 (by simpa using v1) P p (hP _) (by omega) ⟨hG, rfl, by omega, hpv⟩ (by simpa using v2) rfl (fun N => hmeet g N) (fun N => zt9 _ _ la (zce _ q la) mo ld n hI hG hz) N
  have h := qay (H ++ [fl (rml f n)]) (H.length + 0) (rml f n) (by simp) 0 1 n (by simpa using v1) (by simpa using v2) (aD q la) (by simp [aD, mx, zak]) la.length mo ld hI hG (mel la mo ld) (fun g => ⟨la, zce _ q la, rfl, fun i j _ _ => rfl⟩) (fun g N => by rw [zg9, hs, zbr]; exact hmeet g N) P p hpl (by omega) hpv (fun X N => hP _) f hz (fun N => by rw [zg9, hs, zbr]; exact hvec f N)
  rw [zg9, zg9, hs, hs, zbr] at h
  exact h
end
theorem zo2 (H : List (List AV)) (X : AV) (xl : List Nat) (hX : FL H X xl) (Kv : AV) (kl : List Int) (hKi : IL H Kv kl) (hkn : kl.length = xl.length) (hB : xl.length ≤ 2 ^ 30) :
    zaa Tryz.prog 133 [X, Kv] H (.sl none xl.length (fl (rml (fun i => zcy (xl.getD i 0) (clK (kl.getD i 0))) xl.length))) H := by
  refine .go Tryz.call133 Tryz.func133 false [23] dOk ?_
  simp only [za0, Nat.reduceAdd]
  repeat' (first
 |(refine zav ?_; (first | refine zbd ?_ | refine zao ?_ | fail))
 |(refine zaw ?_; (first | refine m14 ?_ | (refine m07 ?_; (first | refine m15 ?_ | refine m16 ?_ | refine zdy (FL.app hX _) (by omega) ?_ | refine zxy (IL.app hKi _) (by omega) ?_ | fail)) | refine zam (by (conv => {lhs; whnf}); done) (by exact hX.len) ?_ | refine zbz (by (conv => {lhs; whnf}); done) (by (conv => {lhs; whnf}); done) (by exact hX.len) (by omega) ?_ | refine zbz (by (conv => {lhs; whnf}); done) (by (conv => {lhs; whnf}); done) (by exact hKi.len) (by omega) ?_ | refine zee (i := 0) (N₀ := []) (by (conv => {lhs; whnf}); done) (by (conv => {lhs; whnf}); done) (by exact rfl) (by exact rfl) (by simp) (by omega) (by exact rfl) (by exact rfl) (l' := fl (rml (fun i => zcy (xl.getD i 0) (clK (kl.getD i 0))) (k + 1))) (by exact zg7 (fun i => zcy (xl.getD i 0) (clK (kl.getD i 0))) k) ?_ | (refine m00 ?_; (first | refine zbo ((k + 1 : Nat) : Int) (by omega) (by omega) ?_ | refine m47 ?_ | refine m48 ?_ | refine m49 ?_ | refine m50 ?_ | refine v_k ?_ | refine m51 ?_ | fail)) | refine m42 ?_ | refine zab ?_ | refine zac ?_ | refine m08 ?_ | refine zaj ?_ | refine zam (by (conv => {lhs; whnf}); done) (by first | rfl | assumption) ?_ | refine zc2 (by exact rfl) (by exact rfl) (by decide) ?_ | fail))
 |(refine zch ?_; (first | refine m36 ?_ | refine zcf ?_ | fail))
 |(refine zcg ?_; (first | refine zev ?_ | refine zfv ?_ | refine zfw (by (conv => {lhs; whnf}); done) ?_ | refine zfx ?_ | refine zfu (by exact rfl) (by exact rfl) ?_ | refine m34 ?_ | refine m35 ?_ | refine m33 ?_ | refine zew ?_ | refine m56 ?_ | refine zci ?_ | refine zc1 (by exact rfl) ?_ | fail))
 |refine zat ?_ | refine zau ?_ | refine zas ?_
 |(refine zax ?_; (first | refine zar ?_ | refine zad ?_ | (refine m06 ?_; (first | refine c_T ?_ | refine c_F ?_ | refine c_P ?_ ?_ | refine c_B ?_ ?_ | fail)) | refine zaq ?_ | refine zah ?_ | refine zae ?_ | refine b_exit ?_ | refine zan (id := 5) [] [11] [(0, .lt), (1, .lt), (2, .lt), (3, .lt), (4, .ld true), (5, .lt), (6, .lt), (7, .lt), (8, .ld true), (9, .mn true), (10, .fz), (11, .mn false), (12, .lt)] (by kernel_rfl) ?_ | (refine za1 [0, 1, 5, 6] xl.length (fun k => ⟨[(0, .val X), (1, .val Kv), (5, .val (gV H.length 0 k)), (6, .val (.int .i64 ((k : Nat) : Int)))], [], H ++ ([] ++ gN (fl (rml (fun i => zcy (xl.getD i 0) (clK (kl.getD i 0))) k)))⟩) (by exact rfl) ?_ ?_ <;> (first | intro k hk K hK | intro K) <;> (try dsimp only at *)) | fail))
 |refine m21 ?_
 |refine za4 ?_
 |(refine za5 ?_; (first | refine cA (zk7 _ _ _) ?_ | fail))
 |refine m44 ?_
 |refine m40 ?_
 |(refine zbc (by (conv => {lhs; simp only [List.nil_append, List.cons_append]}); done) ?_; first | refine ⟨by exact rfl, ?_⟩ | skip)
 |refine zbt ?_
 |(intro N' hN'; simp only [List.nil_append, List.cons_append] at hN'; subst hN')
 |refine zbh ?_ | refine zbi ?_ | refine zbg ?_ | refine m57 ?_
 |refine zdp ?_ | refine zdq ?_ | refine zdo ?_
 |(refine zdr (by exact rfl) ?_; first | exact hK | fail | (exfalso; first | omega | (simp_all; done) | (simp_all; omega)))
 |refine m05 ?_
 |refine m04 ?_ | refine m02 ?_ | refine m03 ?_ | refine zai ?_
 |intro _)
  all_goals first
    | (refine zb5 rfl ?_; exact zi0 (N₀ := []) (i := 0) rfl rfl (by simp) (by rw [zak]; exact Nat.zero_le _))
theorem zo1 (H : List (List AV)) (X : AV) (f : Nat → Nat) (n : Nat) (hX : FL H X (rml f n)) (Kv : AV) (kl : List Int) (hK : IL H Kv kl) (hk : kl.length = n) (hn : n ≤ 64) : zaa Tryz.prog 133 [X, Kv] H (.sl none n (fl (rml (shF f kl n) n))) H := by
  have h := zo2 H X (rml f n) hX Kv kl hK (by simpa using hk) (by simp; omega)
  rw [zbr] at h
  rwa [zbw (g' := shF f kl n) (fun i hi => by rw [zcz hi]; unfold shF; rw [if_pos hi])] at h
theorem zo3 (H : List (List AV)) (X : AV) (xl : List Nat) (hX : FL H X xl) (n : Nat) (hx : xl.length = n) (Kv : AV) (kl : List Int) (hK : IL H Kv kl) (hk : kl.length = n) (hn : n ≤ 64) : zaa Tryz.prog 133 [X, Kv] H (.sl none n (fl (rml (shF (fun i => xl.getD i 0) kl n) n))) H := by
  subst hx
  have h := zo2 H X xl hX Kv kl hK hk (by omega)
  rwa [zbw (g' := shF (fun i => xl.getD i 0) kl xl.length) (fun i hi => by unfold shF; rw [if_pos hi])] at h
theorem z7n (H : List (List AV)) (A : AV) (a : Nat → Nat → Nat) (n : Nat) (hA : FL H A (rmA a n n)) (hn : n ≤ 64) (hz : ∀ k, k < n → feq (a k k) 0 = false) :
    zaa Tryz.prog 13 [mM A n n] H (.bool false) H := by
  refine .go Tryz.call13 Tryz.func13 false [] dOk ?_
  simp only [za0, Nat.reduceAdd]
  repeat' (first
 |(refine zav ?_; (first | refine zbd ?_ | refine zao ?_ | fail))
 |(refine zaw ?_; (first | refine m14 ?_ | (refine m17 ?_; first | refine m19 ?_ | refine m18 ?_) | (refine m07 ?_; (first | refine m15 ?_ | refine m16 ?_ | fail)) | (refine m45 ?_; (first | refine zbo ((k + 1 : Nat) : Int) (by omega) (by omega) ?_ | refine zb3 (by exact rfl) ?_ | refine v_k ?_ | fail)) | (refine m00 ?_; (first | refine zbo ((k + 1 : Nat) : Int) (by omega) (by omega) ?_ | refine m52 ?_ | refine m53 ?_ | refine zc7 ?_ | refine m47 ?_ | refine m48 ?_ | refine m49 ?_ | refine m50 ?_ | refine v_k ?_ | refine m51 ?_ | fail)) | refine m42 ?_ | refine zab ?_ | refine zac ?_ | refine m08 ?_ | refine zaj ?_ | refine m01 ?_ | fail))
 |refine zat ?_ | refine zau ?_ | refine zas ?_
 |(refine zax ?_; (first | refine zar ?_ | refine zad ?_ | (refine m06 ?_; (first | refine c_T ?_ | refine c_F ?_ | refine c_P ?_ ?_ | refine c_B ?_ ?_ | fail)) | refine zaq ?_ | refine zah ?_ | refine zae ?_ | refine b_exit ?_ | (refine za1 [1, 3] n (fun k => ⟨[(1, .loc 1 0), (3, .val (.int .i64 ((k : Nat) : Int)))], [(1, [.int .i64 (n : Int), .int .i64 (n : Int), A])], H ++ []⟩) (by exact rfl) ?_ ?_ <;> (first | intro k hk K hK | intro K) <;> (try dsimp only at *)) | fail))
 |refine m21 ?_
 |refine za4 ?_
 |(refine za5 ?_; (first | refine cA (zqn _ _ a n n (FL.app hA _) (by omega) (by omega) k k (by omega) (by omega)) ?_ | refine cA (zqn _ _ a n n (FL.app hA _) (by omega) (by omega) z z (by omega) (by omega)) ?_ | fail))
 |refine zbh ?_ | refine zbi ?_ | refine zbg ?_ | refine m57 ?_
 |refine zdp ?_ | refine zdq ?_ | refine zdo ?_
 |(refine zdr (by exact rfl) ?_; first | exact hK | (exfalso; simp only [show cn 0 = 0 from by decide] at *; have := hz k (by omega); simp_all; done) | (exfalso; first | omega | (simp_all; done) | (simp_all; omega)))
 |refine m05 ?_
 |refine m04 ?_ | refine m02 ?_ | refine m03 ?_ | refine zai ?_
 |intro _)
  all_goals first
    | (exfalso; omega)
    | (exfalso; simp only [show cn 0 = 0 from by decide] at *; have := hz k (by omega); simp_all; done)
    | (exfalso; simp only [show cn 0 = 0 from by decide] at *; simp_all; done)
    | (refine zal rfl (by simp [mx, mxL, zaf, aOf, zbn]) ?_; exact rfl)
theorem z7o (H : List (List AV)) (A : AV) (a : Nat → Nat → Nat) (n : Nat) (hA : FL H A (rmA a n n)) (hn : n ≤ 64) (z : Nat) (hzn : z < n) (hz : ∀ k, k < z → feq (a k k) 0 = false) (hz1 : feq (a z z) 0 = true) :
    zaa Tryz.prog 13 [mM A n n] H (.bool true) H := by
  refine .go Tryz.call13 Tryz.func13 false [] dOk ?_
  simp only [za0, Nat.reduceAdd]
  repeat' (first
 |(refine zav ?_; (first | refine zbd ?_ | refine zao ?_ | fail))
 |(refine zaw ?_; (first | refine m14 ?_ | (refine m17 ?_; first | refine m19 ?_ | refine m18 ?_) | (refine m07 ?_; (first | refine m15 ?_ | refine m16 ?_ | fail)) | (refine m45 ?_; (first | refine zbo ((k + 1 : Nat) : Int) (by omega) (by omega) ?_ | refine zb3 (by exact rfl) ?_ | refine v_k ?_ | fail)) | (refine m00 ?_; (first | refine zbo ((k + 1 : Nat) : Int) (by omega) (by omega) ?_ | refine m52 ?_ | refine m53 ?_ | refine zc7 ?_ | refine m47 ?_ | refine m48 ?_ | refine m49 ?_ | refine m50 ?_ | refine v_k ?_ | refine m51 ?_ | fail)) | refine m42 ?_ | refine zab ?_ | refine zac ?_ | refine m08 ?_ | refine zaj ?_ | refine m01 ?_ | fail))
 |refine zat ?_ | refine zau ?_ | refine zas ?_
 |(refine zax ?_; (first | refine zar ?_ | refine zad ?_ | (refine m06 ?_; (first | refine c_T ?_ | refine c_F ?_ | refine c_P ?_ ?_ | refine c_B ?_ ?_ | fail)) | refine zaq ?_ | refine zah ?_ | refine zae ?_ | refine b_exit ?_ | (refine za1 [1, 3] z (fun k => ⟨[(1, .loc 1 0), (3, .val (.int .i64 ((k : Nat) : Int)))], [(1, [.int .i64 (n : Int), .int .i64 (n : Int), A])], H ++ []⟩) (by exact rfl) ?_ ?_ <;> (first | intro k hk K hK | intro K) <;> (try dsimp only at *)) | fail))
 |refine m21 ?_
 |refine za4 ?_
 |(refine za5 ?_; (first | refine cA (zqn _ _ a n n (FL.app hA _) (by omega) (by omega) k k (by omega) (by omega)) ?_ | refine cA (zqn _ _ a n n (FL.app hA _) (by omega) (by omega) z z (by omega) (by omega)) ?_ | fail))
 |refine zbh ?_ | refine zbi ?_ | refine zbg ?_ | refine m57 ?_
 |refine zdp ?_ | refine zdq ?_ | refine zdo ?_
 |(refine zdr (by exact rfl) ?_; first | exact hK | (exfalso; simp only [show cn 0 = 0 from by decide] at *; have := hz k (by omega); simp_all; done) | (exfalso; first | omega | (simp_all; done) | (simp_all; omega)))
 |refine m05 ?_
 |refine m04 ?_ | refine m02 ?_ | refine m03 ?_ | refine zai ?_
 |intro _)
  all_goals first
    | (exfalso; omega)
    | (exfalso; simp only [show cn 0 = 0 from by decide] at *; have := hz k (by omega); simp_all; done)
    | (exfalso; simp only [show cn 0 = 0 from by decide] at *; simp_all; done)
    | (refine zal rfl (by simp [mx, mxL, zaf, aOf, zbn]) ?_; exact rfl)
end
theorem zzf (H H' : List (List AV)) (X : AV) (f : Nat → Nat) (n : Nat) (hX : FL H X (rml f n)) (hn : n ≤ 64) (hN : NN X) (m : Nat) (hm : H.length = m) (hH : H ++ [fl (rml f n)] = H') : zaa Tryz.prog 106 [X] H (.slm m n 0 n 1) H' := by
  have h := zze H H' X (rml f n) hX (by simp; omega) hN m hm hH
  rwa [zbr] at h
section
attribute [local irreducible] Ex za3 exD opX opE zca zd3 zd4 Spec zaa Fr zb9 zbb zba ckK zb8 zb6 zbu faK zb4 zd1 gK fK rK zeq lpX prK
theorem zdv :
    (∀ (H : List (List AV)) (x : Nat × Nat) (l : List Nat) (off rows cols ld : Int) (hI : MI l.length off rows cols ld) (q : Nat × Nat) (la : List Nat) (ao ar ac al : Int) (hJ : MI la.length ao ar ac al) (q' : Nat × Nat) (p : List Int) (hpm : p.length ≤ 2 ^ 30) (Rv : AV) (rl : List Int) (hRl : ∀ H, IL H Rv rl) (Cv : AV) (cl : List Int) (hCl : ∀ H, IL H Cv cl) (hbad : ¬ (zaz l.length off rows cols ld ∧ (zaz la.length ao ar ac al ∧ ar = ac ∧ ar = (p.length : Int) ∧ zdx p))), zaa Tryz.prog 120 [(.agg [aD x l, .int .i64 off, .int .i64 rows, .int .i64 cols, .int .i64 ld, aD q la, .int .i64 ao, .int .i64 ar, .int .i64 ac, .int .i64 al, aI q' p, Rv, Cv])] H (.int .i64 1) H) ∧
    (∀ (H : List (List AV)) (x : Nat × Nat) (l : List Nat) (off rows cols ld : Int) (hI : MI l.length off rows cols ld) (q : Nat × Nat) (la : List Nat) (ao ar ac al : Int) (hJ : MI la.length ao ar ac al) (q' : Nat × Nat) (p : List Int) (hpm : p.length ≤ 2 ^ 30) (Rv : AV) (rl : List Int) (hRl : ∀ H, IL H Rv rl) (Cv : AV) (cl : List Int) (hCl : ∀ H, IL H Cv cl) (hg : zaz l.length off rows cols ld) (hr : (zaz la.length ao ar ac al ∧ ar = ac ∧ ar = (p.length : Int) ∧ zdx p)) (hs : ¬ (cols = rows ∧ 1 ≤ rows ∧ rows ≤ 64 ∧ ar = rows ∧ (rl.length : Int) = rows ∧ (cl.length : Int) = rows)), zaa Tryz.prog 120 [(.agg [aD x l, .int .i64 off, .int .i64 rows, .int .i64 cols, .int .i64 ld, aD q la, .int .i64 ao, .int .i64 ar, .int .i64 ac, .int .i64 al, aI q' p, Rv, Cv])] H (.int .i64 3) H) ∧
    (∀ (H : List (List AV)) (x : Nat × Nat) (l : List Nat) (off ld : Int) (n : Nat) (hI : MI l.length off n n ld) (hG : zaz l.length off n n ld) (q : Nat × Nat) (la : List Nat) (ao al : Int) (hJ : MI la.length ao n n al) (hGa : zaz la.length ao n n al) (q' : Nat × Nat) (p : List Int) (hpl : p.length = n) (hpv : zdx p) (Rv : AV) (rl : List Int) (hRl : ∀ H, IL H Rv rl) (Cv : AV) (cl : List Int) (hCl : ∀ H, IL H Cv cl) (hrl : rl.length = n) (hcl : cl.length = n) (hn1 : 1 ≤ n) (hn : n ≤ 64) (hz : ∀ k, k < n → feq ((mel la ao al) k k) 0 = false), zaa Tryz.prog 120 [(.agg [aD x l, .int .i64 off, .int .i64 (n : Int), .int .i64 (n : Int), .int .i64 ld, aD q la, .int .i64 ao, .int .i64 (n : Int), .int .i64 (n : Int), .int .i64 al, aI q' p, Rv, Cv])] H (.int .i64 0) H) ∧
    (∀ (H : List (List AV)) (x : Nat × Nat) (l : List Nat) (off ld : Int) (n : Nat) (hI : MI l.length off n n ld) (hG : zaz l.length off n n ld) (q : Nat × Nat) (la : List Nat) (ao al : Int) (hJ : MI la.length ao n n al) (hGa : zaz la.length ao n n al) (q' : Nat × Nat) (p : List Int) (hpl : p.length = n) (hpv : zdx p) (Rv : AV) (rl : List Int) (hRl : ∀ H, IL H Rv rl) (Cv : AV) (cl : List Int) (hCl : ∀ H, IL H Cv cl) (hrl : rl.length = n) (hcl : cl.length = n) (hn1 : 1 ≤ n) (hn : n ≤ 64) (z : Nat) (hzn : z < n) (hz : ∀ k, k < z → feq ((mel la ao al) k k) 0 = false) (hz1 : feq ((mel la ao al) z z) 0 = true), zaa Tryz.prog 120 [(.agg [aD x l, .int .i64 off, .int .i64 (n : Int), .int .i64 (n : Int), .int .i64 ld, aD q la, .int .i64 ao, .int .i64 (n : Int), .int .i64 (n : Int), .int .i64 al, aI q' p, Rv, Cv])] H (.int .i64 4) H) := by
  refine ⟨?_, ?_, ?_, ?_⟩
  (intro H x l off rows cols ld hI q la ao ar ac al hJ q' p hpm Rv rl hRl Cv cl hCl hbad
   obtain ⟨hm, ho1, ho2, hr1, hr2, hc1, hc2, hl1, hl2⟩ := id hI
   obtain ⟨hm', ho1', ho2', hr1', hr2', hc1', hc2', hl1', hl2'⟩ := id hJ
   refine .go Tryz.call120 Tryz.func120 false [] dOk ?_
   simp only [za0, Nat.reduceAdd])
  rotate_left
  (intro H x l off rows cols ld hI q la ao ar ac al hJ q' p hpm Rv rl hRl Cv cl hCl hg hr hs
   obtain ⟨hm, ho1, ho2, hr1, hr2, hc1, hc2, hl1, hl2⟩ := id hI
   obtain ⟨hm', ho1', ho2', hr1', hr2', hc1', hc2', hl1', hl2'⟩ := id hJ
   refine .go Tryz.call120 Tryz.func120 false [] dOk ?_
   simp only [za0, Nat.reduceAdd])
  rotate_left
  (intro H x l off ld n hI hG q la ao al hJ hGa q' p hpl hpv Rv rl hRl Cv cl hCl hrl hcl hn1 hn hz
   obtain ⟨hm, ho1, ho2, hr1, hr2, hc1, hc2, hl1, hl2⟩ := id hI
   obtain ⟨hm', ho1', ho2', hr1', hr2', hc1', hc2', hl1', hl2'⟩ := id hJ
   refine .go Tryz.call120 Tryz.func120 false [] dOk ?_
   simp only [za0, Nat.reduceAdd])
  rotate_left
  (intro H x l off ld n hI hG q la ao al hJ hGa q' p hpl hpv Rv rl hRl Cv cl hCl hrl hcl hn1 hn z hzn hz hz1
   obtain ⟨hm, ho1, ho2, hr1, hr2, hc1, hc2, hl1, hl2⟩ := id hI
   obtain ⟨hm', ho1', ho2', hr1', hr2', hc1', hc2', hl1', hl2'⟩ := id hJ
   refine .go Tryz.call120 Tryz.func120 false [] dOk ?_
   simp only [za0, Nat.reduceAdd])
  rotate_left
  all_goals (repeat' (first
 |(refine zav ?_; (first | refine zbd ?_ | refine zao ?_ | refine m13 ?_ | refine m12 ?_ | refine m11 ?_ | (refine m10 ?_; (first | refine zcv ?_ | refine zcq ?_ | refine zcu ?_ | refine zcr ?_ | refine zct ?_ ?_ | refine zcs ?_ ?_ | refine zcp ?_ ?_ | refine zco ?_ ?_ | fail)) | (refine m09 ?_; (first | refine zcv ?_ | refine zcq ?_ | refine zcu ?_ | refine zcr ?_ | refine zct ?_ ?_ | refine zcs ?_ ?_ | refine zcp ?_ ?_ | refine zco ?_ ?_ | fail)) | refine m38 ?_ | fail))
 |(refine zaw ?_; (first | refine m14 ?_ | (refine m17 ?_; first | refine m19 ?_ | refine m18 ?_) | (refine m07 ?_; (first | refine m15 ?_ | refine m16 ?_ | fail)) | refine zam (by (conv => {lhs; whnf}); done) (by exact (hRl []).len) ?_ | refine zam (by (conv => {lhs; whnf}); done) (by exact (hCl []).len) ?_ | refine zam (by (conv => {lhs; whnf}); done) (by exact (zbl [] q' p).len) ?_ | (refine m00 ?_; (first | refine m54 ?_ | refine m55 ?_ | refine zbx ?_ | refine m47 ?_ | refine m48 ?_ | refine m49 ?_ | refine m50 ?_ | refine zfn ?_ | refine zfl ?_ | refine zfm ?_ | refine v_k ?_ | refine m51 ?_ | fail)) | (refine m22 ?_; (first | refine m26 ?_ | refine m27 ?_ | fail)) | refine m42 ?_ | refine zab ?_ | refine zac ?_ | refine m08 ?_ | (refine m20 ?_; (first | refine m54 ?_ | refine m55 ?_ | refine zbx ?_ | refine m47 ?_ | refine m48 ?_ | refine m49 ?_ | refine m50 ?_ | refine zfn ?_ | refine zfl ?_ | refine zfm ?_ | refine v_k ?_ | refine m51 ?_ | fail)) | refine zaj ?_ | refine zam (by (conv => {lhs; whnf}); done) (by first | rfl | assumption) ?_ | refine m23 ?_ | refine m01 ?_ | fail))
 |refine zat ?_ | refine zau ?_ | refine zas ?_
 |(refine zax ?_; (first | refine zar ?_ | refine zad ?_ | (refine m06 ?_; (first | refine c_T ?_ | refine c_F ?_ | refine c_P ?_ ?_ | refine c_B ?_ ?_ | fail)) | refine zaq ?_ | refine zah ?_ | refine zae ?_ | refine b_exit ?_ | fail))
 |refine m43 ?_
 |refine zbv ?_
 |refine m21 ?_
 |refine za4 ?_
 |(refine za5 ?_; (first | refine cA (zi1 _ (aD x l) l.length off rows cols ld (zcd x l) hI) ?_ | refine cA (zkx _ (aD q la) la (zce _ q la) ao ar ac al hJ (aI q' p) p (zbl _ q' p) hpm) ?_ | refine cA (zi1 _ (aD x l) l.length off n n ld (zcd x l) hI) ?_ | refine cA (zok _ (aD q la) la (zce _ q la) ao n al hJ (aI q' p) p (zbl _ q' p) (by omega) hGa hpl hpv) ?_ | refine cA (z3q _ n hn (aD q la) la (zce _ q la) ao al hJ hGa (aI q' p) p (zbl _ q' p) (by omega) hpl hpv) ?_ | refine cA (z9u _ _ (rml (fun i => (mel la ao al) i i) n) (FL.fz _ none (rml (fun i => (mel la ao al) i i) n) |> fun h => by simpa using h) (by simp; omega) (fun k hk => by rw [zcz (by simpa using hk)]; exact hz k (by simpa using hk))) ?_ | refine cA (z9v _ _ (rml (fun i => (mel la ao al) i i) n) (FL.fz _ none (rml (fun i => (mel la ao al) i i) n) |> fun h => by simpa using h) (by simp; omega) z (by simpa using hzn) (fun k hk => by rw [zcz (by omega)]; exact hz k hk) (by rw [zcz hzn]; exact hz1)) ?_ | fail))
 |refine zbh ?_ | refine zbi ?_ | refine zbg ?_ | refine m57 ?_
 |refine m05 ?_
 |refine m04 ?_ | refine m02 ?_ | refine m03 ?_ | refine zai ?_
 |intro _))
  all_goals first
    | (exfalso; contradiction)
    | (exfalso; omega)
    | (exfalso; simp_all; done)
    | (refine zal rfl (by simp [mx, mxL, zaf, aOf, zbn]) ?_; exact rfl)
theorem zrl : type_of% @zdv.1 := @zdv.1
theorem zrm : type_of% @zdv.2.1 := @zdv.2.1
theorem zrk : type_of% @zdv.2.2.1 := @zdv.2.2.1
theorem zrn : type_of% @zdv.2.2.2 := @zdv.2.2.2
theorem zf5 :
    (∀ (H : List (List AV)) (x : Nat × Nat) (l : List Nat) (off ld : Int) (n : Nat) (hI : MI l.length off n n ld) (hG : zaz l.length off n n ld) (q : Nat × Nat) (la : List Nat) (ao al : Int) (hJ : MI la.length ao n n al) (hGa : zaz la.length ao n n al) (q' : Nat × Nat) (p : List Int) (hpl : p.length = n) (hpv : zdx p) (Rv : AV) (rl : List Int) (hRl : ∀ H, IL H Rv rl) (Cv : AV) (cl : List Int) (hCl : ∀ H, IL H Cv cl) (hrl : rl.length = n) (hcl : cl.length = n) (hn1 : 1 ≤ n) (hn : n ≤ 64) (hz : ∀ k, k < n → feq ((mel la ao al) k k) 0 = false) (X : AV) (f : Nat → Nat) (hX : ∀ H', FL (H ++ H') X (rml f n)) (hN : NN X) (Av : AV) (kl : List Int) (hA : ∀ H', IL H' Av kl) (hAm : mx Av ≤ H.length) (hkl : kl.length = n) (Bv : AV) (ml : List Int) (hB : ∀ H', IL H' Bv ml) (hBm : mx Bv ≤ H.length) (hml : ml.length = n) (H' : List (List AV)) (hH : H ++ [fl (rml (shF (up2 (mel la ao al) (lo1 (mel la ao al) (tkF p (shF f kl n) n) n) n n) ml n) n)] = H') (m : Nat) (hm9 : H.length = m), zaa Tryz.prog 129 [(.agg [aD x l, .int .i64 off, .int .i64 (n : Int), .int .i64 (n : Int), .int .i64 ld, aD q la, .int .i64 ao, .int .i64 (n : Int), .int .i64 (n : Int), .int .i64 al, aI q' p, Rv, Cv]), X, Av, Bv, .func 46 [] []] H (.tup [.slm m n 0 n 1, .int .i64 0]) H') ∧
    (∀ (H : List (List AV)) (x : Nat × Nat) (l : List Nat) (off ld : Int) (n : Nat) (hI : MI l.length off n n ld) (hG : zaz l.length off n n ld) (q : Nat × Nat) (la : List Nat) (ao al : Int) (hJ : MI la.length ao n n al) (hGa : zaz la.length ao n n al) (q' : Nat × Nat) (p : List Int) (hpl : p.length = n) (hpv : zdx p) (Rv : AV) (rl : List Int) (hRl : ∀ H, IL H Rv rl) (Cv : AV) (cl : List Int) (hCl : ∀ H, IL H Cv cl) (hrl : rl.length = n) (hcl : cl.length = n) (hn1 : 1 ≤ n) (hn : n ≤ 64) (hz : ∀ k, k < n → feq ((mel la ao al) k k) 0 = false) (X : AV) (f : Nat → Nat) (hX : ∀ H', FL (H ++ H') X (rml f n)) (hN : NN X) (Av : AV) (kl : List Int) (hA : ∀ H', IL H' Av kl) (hAm : mx Av ≤ H.length) (hkl : kl.length = n) (Bv : AV) (ml : List Int) (hB : ∀ H', IL H' Bv ml) (hBm : mx Bv ≤ H.length) (hml : ml.length = n) (H' : List (List AV)) (hH : H ++ [fl (rml (shF (tkB p (lt3 (mel la ao al) (ut4 (mel la ao al) (shF f kl n) n) n n) n) ml n) n)] = H') (m : Nat) (hm9 : H.length = m), zaa Tryz.prog 129 [(.agg [aD x l, .int .i64 off, .int .i64 (n : Int), .int .i64 (n : Int), .int .i64 ld, aD q la, .int .i64 ao, .int .i64 (n : Int), .int .i64 (n : Int), .int .i64 al, aI q' p, Rv, Cv]), X, Av, Bv, .func 48 [] []] H (.tup [.slm m n 0 n 1, .int .i64 0]) H') := by
  refine ⟨?_, ?_⟩
  (intro H x l off ld n hI hG q la ao al hJ hGa q' p hpl hpv Rv rl hRl Cv cl hCl hrl hcl hn1 hn hz X f hX hN Av kl hA hAm hkl Bv ml hB hBm hml H' hH m hm9
   subst hH hm9
   have hXl : slen X = some n := by have h9 := (hX []).len; rwa [zbr] at h9
   refine .go Tryz.call129 Tryz.func129 false [] dOk ?_
   simp only [za0, Nat.reduceAdd])
  rotate_left
  (intro H x l off ld n hI hG q la ao al hJ hGa q' p hpl hpv Rv rl hRl Cv cl hCl hrl hcl hn1 hn hz X f hX hN Av kl hA hAm hkl Bv ml hB hBm hml H' hH m hm9
   subst hH hm9
   have hXl : slen X = some n := by have h9 := (hX []).len; rwa [zbr] at h9
   refine .go Tryz.call129 Tryz.func129 false [] dOk ?_
   simp only [za0, Nat.reduceAdd])
  rotate_left
  all_goals (repeat' (first
 |(refine zav ?_; (first | refine zbd ?_ | refine zao ?_ | refine m13 ?_ | refine m12 ?_ | refine m11 ?_ | (refine m10 ?_; (first | refine zcv ?_ | refine zcq ?_ | refine zcu ?_ | refine zcr ?_ | refine zct ?_ ?_ | refine zcs ?_ ?_ | refine zcp ?_ ?_ | refine zco ?_ ?_ | fail)) | (refine m09 ?_; (first | refine zcv ?_ | refine zcq ?_ | refine zcu ?_ | refine zcr ?_ | refine zct ?_ ?_ | refine zcs ?_ ?_ | refine zcp ?_ ?_ | refine zco ?_ ?_ | fail)) | refine m38 ?_ | fail))
 |(refine zaw ?_; (first | refine m14 ?_ | (refine m17 ?_; first | refine m19 ?_ | refine m18 ?_) | (refine m07 ?_; (first | refine m15 ?_ | refine m16 ?_ | fail)) | refine zam (by (conv => {lhs; whnf}); done) (by exact hXl) ?_ | (refine m45 ?_; (first | refine zb3 (by exact rfl) ?_ | refine v_k ?_ | fail)) | (refine m00 ?_; (first | refine m52 ?_ | refine m53 ?_ | refine zc7 ?_ | refine m54 ?_ | refine m55 ?_ | refine zbx ?_ | refine m49 ?_ | refine m50 ?_ | refine v_k ?_ | refine m51 ?_ | fail)) | (refine m22 ?_; (first | refine m26 ?_ | refine m27 ?_ | fail)) | refine m42 ?_ | refine zab ?_ | refine zac ?_ | refine m08 ?_ | refine zaj ?_ | refine m39 ?_ | refine zam (by (conv => {lhs; whnf}); done) (by first | rfl | assumption) ?_ | refine m25 ?_ | refine m01 ?_ | refine m24 ?_ | refine zc9 ?_ | fail))
 |refine zat ?_ | refine zau ?_ | refine zas ?_
 |(refine zax ?_; (first | refine zar ?_ | refine zad ?_ | (refine m06 ?_; (first | refine c_T ?_ | refine c_F ?_ | refine c_P ?_ ?_ | refine c_B ?_ ?_ | fail)) | refine zaq ?_ | refine zah ?_ | refine zae ?_ | refine b_exit ?_ | fail))
 |refine m21 ?_
 |refine za4 ?_
 |(refine za5 ?_; (first | refine cA (zrk _ x l off ld n hI hG q la ao al hJ hGa q' p hpl hpv Rv rl hRl Cv cl hCl hrl hcl hn1 hn hz) ?_ | refine cA (zzf _ _ X f n (hX _) hn hN _ (by (conv => {lhs; simp only [List.length_append, List.length_cons, List.length_nil, List.length_set, Nat.reduceAdd, Nat.zero_add]}); done) (by (conv => {lhs; simp only [List.append_assoc, List.cons_append, List.nil_append]}); done)) ?_ | refine cA (zno H n hn f Av kl hA hAm hkl) ?_ | refine cA (qa3 H n hn (shF f kl n) q la ao al hJ hGa (aI q' p) p (fun H => zbl H q' p) hpl hpv hz) ?_ | refine cA (zno H n hn (up2 (mel la ao al) (lo1 (mel la ao al) (tkF p (shF f kl n) n) n) n n) Bv ml hB hBm hml) ?_ | refine cA (qaz H n hn (shF f kl n) q la ao al hJ hGa (aI q' p) p (fun H => zbl H q' p) hpl hpv hz) ?_ | refine cA (zno H n hn (tkB p (lt3 (mel la ao al) (ut4 (mel la ao al) (shF f kl n) n) n n) n) Bv ml hB hBm hml) ?_ | fail))
 |refine m58 ?_
 |refine zd8 ?_
 |refine m44 ?_
 |refine m40 ?_
 |(refine zbc (by (conv => {lhs; simp only [List.nil_append, List.cons_append]}); done) ?_; first | refine ⟨by exact rfl, ?_⟩ | skip)
 |refine zbt ?_
 |(intro N' hN'; simp only [List.nil_append, List.cons_append] at hN'; subst hN')
 |refine m05 ?_
 |refine m04 ?_ | refine m02 ?_ | refine m03 ?_ | refine zai ?_
 |intro _))
  all_goals first
    | (exfalso; omega)
    | exact zgc (j := 0) (cs := fl (rml (shF (up2 (mel la ao al) (lo1 (mel la ao al) (tkF p (shF f kl n) n) n) n n) ml n) n)) rfl rfl (by rw [zak]; exact Nat.zero_le _) (Fr.tup (Frs.cons (Fr.kp (j := 0) (cs := fl (rml (shF (up2 (mel la ao al) (lo1 (mel la ao al) (tkF p (shF f kl n) n) n) n n) ml n) n)) rfl (za9 rfl rfl) (by simp)) (Frs.cons (Fr.old (by first | (simp [mx]; done) | fail)) Frs.nil)))
    | exact zgc (j := 0) (cs := fl (rml (shF (tkB p (lt3 (mel la ao al) (ut4 (mel la ao al) (shF f kl n) n) n n) n) ml n) n)) rfl rfl (by rw [zak]; exact Nat.zero_le _) (Fr.tup (Frs.cons (Fr.kp (j := 0) (cs := fl (rml (shF (tkB p (lt3 (mel la ao al) (ut4 (mel la ao al) (shF f kl n) n) n n) n) ml n) n)) rfl (za9 rfl rfl) (by simp)) (Frs.cons (Fr.old (by first | (simp [mx]; done) | fail)) Frs.nil)))
theorem zwm : type_of% @zf5.1 := @zf5.1
theorem zwn : type_of% @zf5.2 := @zf5.2
end
theorem FLz (H : List (List AV)) (l : List Nat) (n : Nat) (h : l.length = n) : FL H (.sl none n (fl l)) l := by subst h; exact FL.fz H none l
section
attribute [local irreducible] Ex za3 exD opX opE zca zd3 zd4 Spec zaa Fr zb9 zbb zba ckK zb8 zb6 zbu faK zb4 zd1 gK fK rK zeq lpX prK
theorem qa8 (H : List (List AV)) (x : Nat × Nat) (l : List Nat) (off ld : Int) (n : Nat) (hI : MI l.length off n n ld) (hG : zaz l.length off n n ld) (q : Nat × Nat) (la : List Nat) (ao al : Int) (hJ : MI la.length ao n n al) (hGa : zaz la.length ao n n al) (q' : Nat × Nat) (p : List Int) (hpl : p.length = n) (hpv : zdx p) (Rv : AV) (rl : List Int) (hRl : ∀ H, IL H Rv rl) (Cv : AV) (cl : List Int) (hCl : ∀ H, IL H Cv cl) (hrl : rl.length = n) (hcl : cl.length = n) (hn1 : 1 ≤ n) (hn : n ≤ 64) (hz : ∀ k, k < n → feq ((mel la ao al) k k) 0 = false) (X : AV) (f : Nat → Nat) (hX : ∀ H', FL (H ++ H') X (rml f n)) (hN : NN X) (hRm : mx Rv ≤ H.length) (hCm : mx Cv ≤ H.length) (H' : List (List AV)) (hH : H ++ [fl (rml (shF (up2 (mel la ao al) (lo1 (mel la ao al) (tkF p (shF f rl n) n) n) n n) cl n) n)] = H') (m : Nat) (hm9 : H.length = m) :
    zaa Tryz.prog 72 [(.agg [aD x l, .int .i64 off, .int .i64 (n : Int), .int .i64 (n : Int), .int .i64 ld, aD q la, .int .i64 ao, .int .i64 (n : Int), .int .i64 (n : Int), .int .i64 al, aI q' p, Rv, Cv]), X] H (.tup [.slm m n 0 n 1, .int .i64 0]) H' := by
  subst hH hm9
  refine .go Tryz.call72 Tryz.func72 false [] dOk ?_
  simp only [za0, Nat.reduceAdd]
  repeat' (first
 |(refine zav ?_; (first | refine zbd ?_ | refine zao ?_ | fail))
 |(refine zaw ?_; (first | refine m14 ?_ | (refine m17 ?_; first | refine m19 ?_ | refine m18 ?_) | (refine m07 ?_; (first | refine m15 ?_ | refine m16 ?_ | fail)) | refine m42 ?_ | refine zab ?_ | refine zac ?_ | refine m08 ?_ | refine zaj ?_ | refine m23 ?_ | refine m01 ?_ | fail))
 |refine zat ?_ | refine zau ?_ | refine zas ?_
 |(refine zax ?_; (first | refine zar ?_ | refine zad ?_ | (refine m06 ?_; (first | refine c_T ?_ | refine c_F ?_ | refine c_P ?_ ?_ | refine c_B ?_ ?_ | fail)) | refine zaq ?_ | refine zah ?_ | refine zae ?_ | refine b_exit ?_ | fail))
 |refine m21 ?_
 |refine za4 ?_
 |(refine za5 ?_; (first | refine cA (zwm _ x l off ld n hI hG q la ao al hJ hGa q' p hpl hpv Rv rl hRl Cv cl hCl hrl hcl hn1 hn hz X f (fun N => by rw [List.append_assoc]; exact hX _) hN Rv rl hRl (by simp; omega) hrl Cv cl hCl (by simp; omega) hcl _ (by (conv => {lhs; simp only [List.append_assoc, List.cons_append, List.nil_append]}); done) _ (by (conv => {lhs; simp only [List.length_append, List.length_cons, List.length_nil, List.length_set, Nat.reduceAdd, Nat.zero_add]}); done)) ?_ | fail))
 |refine m05 ?_
 |refine m04 ?_ | refine m02 ?_ | refine m03 ?_ | refine zai ?_
 |intro _)
  all_goals first
    | exact zgc (j := 0) (cs := fl (rml (shF (up2 (mel la ao al) (lo1 (mel la ao al) (tkF p (shF f rl n) n) n) n n) cl n) n)) rfl rfl (by rw [zak]; exact Nat.zero_le _) (Fr.tup (Frs.cons (Fr.kp (j := 0) (cs := fl (rml (shF (up2 (mel la ao al) (lo1 (mel la ao al) (tkF p (shF f rl n) n) n) n n) cl n) n)) rfl (za9 rfl rfl) (by simp)) (Frs.cons (Fr.old (by simp [mx])) Frs.nil)))
theorem qa4 (H : List (List AV)) (x : Nat × Nat) (l : List Nat) (off ld : Int) (n : Nat) (hI : MI l.length off n n ld) (hG : zaz l.length off n n ld) (q : Nat × Nat) (la : List Nat) (ao al : Int) (hJ : MI la.length ao n n al) (hGa : zaz la.length ao n n al) (q' : Nat × Nat) (p : List Int) (hpl : p.length = n) (hpv : zdx p) (Rv : AV) (rl : List Int) (hRl : ∀ H, IL H Rv rl) (Cv : AV) (cl : List Int) (hCl : ∀ H, IL H Cv cl) (hrl : rl.length = n) (hcl : cl.length = n) (hn1 : 1 ≤ n) (hn : n ≤ 64) (hz : ∀ k, k < n → feq ((mel la ao al) k k) 0 = false) (X : AV) (f : Nat → Nat) (hX : ∀ H', FL (H ++ H') X (rml f n)) (hN : NN X) (hRm : mx Rv ≤ H.length) (hCm : mx Cv ≤ H.length) (H' : List (List AV)) (hH : H ++ [fl (rml (shF (tkB p (lt3 (mel la ao al) (ut4 (mel la ao al) (shF f cl n) n) n n) n) rl n) n)] = H') (m : Nat) (hm9 : H.length = m) :
    zaa Tryz.prog 68 [(.agg [aD x l, .int .i64 off, .int .i64 (n : Int), .int .i64 (n : Int), .int .i64 ld, aD q la, .int .i64 ao, .int .i64 (n : Int), .int .i64 (n : Int), .int .i64 al, aI q' p, Rv, Cv]), X] H (.tup [.slm m n 0 n 1, .int .i64 0]) H' := by
  subst hH hm9
  refine .go Tryz.call68 Tryz.func68 false [] dOk ?_
  simp only [za0, Nat.reduceAdd]
  repeat' (first
 |(refine zav ?_; (first | refine zbd ?_ | refine zao ?_ | fail))
 |(refine zaw ?_; (first | refine m14 ?_ | (refine m17 ?_; first | refine m19 ?_ | refine m18 ?_) | (refine m07 ?_; (first | refine m15 ?_ | refine m16 ?_ | fail)) | refine m42 ?_ | refine zab ?_ | refine zac ?_ | refine m08 ?_ | refine zaj ?_ | refine m23 ?_ | refine m01 ?_ | fail))
 |refine zat ?_ | refine zau ?_ | refine zas ?_
 |(refine zax ?_; (first | refine zar ?_ | refine zad ?_ | (refine m06 ?_; (first | refine c_T ?_ | refine c_F ?_ | refine c_P ?_ ?_ | refine c_B ?_ ?_ | fail)) | refine zaq ?_ | refine zah ?_ | refine zae ?_ | refine b_exit ?_ | fail))
 |refine m21 ?_
 |refine za4 ?_
 |(refine za5 ?_; (first | refine cA (zwn _ x l off ld n hI hG q la ao al hJ hGa q' p hpl hpv Rv rl hRl Cv cl hCl hrl hcl hn1 hn hz X f (fun N => by rw [List.append_assoc]; exact hX _) hN Cv cl hCl (by simp; omega) hcl Rv rl hRl (by simp; omega) hrl _ (by (conv => {lhs; simp only [List.append_assoc, List.cons_append, List.nil_append]}); done) _ (by (conv => {lhs; simp only [List.length_append, List.length_cons, List.length_nil, List.length_set, Nat.reduceAdd, Nat.zero_add]}); done)) ?_ | fail))
 |refine m05 ?_
 |refine m04 ?_ | refine m02 ?_ | refine m03 ?_ | refine zai ?_
 |intro _)
  all_goals first
    | exact zgc (j := 0) (cs := fl (rml (shF (tkB p (lt3 (mel la ao al) (ut4 (mel la ao al) (shF f cl n) n) n n) n) rl n) n)) rfl rfl (by rw [zak]; exact Nat.zero_le _) (Fr.tup (Frs.cons (Fr.kp (j := 0) (cs := fl (rml (shF (tkB p (lt3 (mel la ao al) (ut4 (mel la ao al) (shF f cl n) n) n n) n) rl n) n)) rfl (za9 rfl rfl) (by simp)) (Frs.cons (Fr.old (by simp [mx])) Frs.nil)))
theorem zek :
    (∀ (H : List (List AV)) (x : Nat × Nat) (l : List Nat) (off rows cols ld : Int) (hI : MI l.length off rows cols ld) (q : Nat × Nat) (la : List Nat) (ao ar ac al : Int) (hJ : MI la.length ao ar ac al) (q' : Nat × Nat) (p : List Int) (hpm : p.length ≤ 2 ^ 30) (Rv : AV) (rl : List Int) (hRl : ∀ H, IL H Rv rl) (Cv : AV) (cl : List Int) (hCl : ∀ H, IL H Cv cl) (hbad : ¬ (zaz l.length off rows cols ld ∧ (zaz la.length ao ar ac al ∧ ar = ac ∧ ar = (p.length : Int) ∧ zdx p))), zaa Tryz.prog 20 [mt (aD x l) off rows cols ld, .agg [aD q la, .int .i64 ao, .int .i64 ar, .int .i64 ac, .int .i64 al, aI q' p], Rv, Cv] H (.tup [(.agg [.int .i64 0, .int .i64 0, .slnil, .int .i64 0, .int .i64 0, .slnil, .slnil, .slnil, .slnil]), .int .i64 1]) H) ∧
    (∀ (H : List (List AV)) (x : Nat × Nat) (l : List Nat) (off rows cols ld : Int) (hI : MI l.length off rows cols ld) (q : Nat × Nat) (la : List Nat) (ao ar ac al : Int) (hJ : MI la.length ao ar ac al) (q' : Nat × Nat) (p : List Int) (hpm : p.length ≤ 2 ^ 30) (Rv : AV) (rl : List Int) (hRl : ∀ H, IL H Rv rl) (Cv : AV) (cl : List Int) (hCl : ∀ H, IL H Cv cl) (hg : zaz l.length off rows cols ld) (hr : (zaz la.length ao ar ac al ∧ ar = ac ∧ ar = (p.length : Int) ∧ zdx p)) (hs : ¬ (cols = rows ∧ 1 ≤ rows ∧ rows ≤ 64 ∧ ar = rows ∧ (rl.length : Int) = rows ∧ (cl.length : Int) = rows)), zaa Tryz.prog 20 [mt (aD x l) off rows cols ld, .agg [aD q la, .int .i64 ao, .int .i64 ar, .int .i64 ac, .int .i64 al, aI q' p], Rv, Cv] H (.tup [(.agg [.int .i64 0, .int .i64 0, .slnil, .int .i64 0, .int .i64 0, .slnil, .slnil, .slnil, .slnil]), .int .i64 3]) H) ∧
    (∀ (H : List (List AV)) (x : Nat × Nat) (l : List Nat) (off ld : Int) (n : Nat) (hI : MI l.length off n n ld) (hG : zaz l.length off n n ld) (q : Nat × Nat) (la : List Nat) (ao al : Int) (hJ : MI la.length ao n n al) (hGa : zaz la.length ao n n al) (q' : Nat × Nat) (p : List Int) (hpl : p.length = n) (hpv : zdx p) (kr kc : Nat × Nat) (rl cl : List Int) (hrl : rl.length = n) (hcl : cl.length = n) (hn1 : 1 ≤ n) (hn : n ≤ 64) (hz : ∀ k, k < n → feq ((mel la ao al) k k) 0 = false), zaa Tryz.prog 20 [mt (aD x l) off (n : Int) (n : Int) ld, .agg [aD q la, .int .i64 ao, .int .i64 (n : Int), .int .i64 (n : Int), .int .i64 al, aI q' p], (aI kr rl), (aI kc cl)] H (.tup [(.agg [.int .i64 (n : Int), .int .i64 (n : Int), .sl none (n * n) (fl (rmA (mel l off ld) n n)), .int .i64 (n : Int), .int .i64 (n : Int), .sl none (n * n) (fl (rmA (mel la ao al) n n)), aI q' p, (aI kr rl), (aI kc cl)]), .int .i64 0]) H) ∧
    (∀ (H : List (List AV)) (x : Nat × Nat) (l : List Nat) (off ld : Int) (n : Nat) (hI : MI l.length off n n ld) (hG : zaz l.length off n n ld) (q : Nat × Nat) (la : List Nat) (ao al : Int) (hJ : MI la.length ao n n al) (hGa : zaz la.length ao n n al) (q' : Nat × Nat) (p : List Int) (hpl : p.length = n) (hpv : zdx p) (kr kc : Nat × Nat) (rl cl : List Int) (hrl : rl.length = n) (hcl : cl.length = n) (hn1 : 1 ≤ n) (hn : n ≤ 64) (z : Nat) (hzn : z < n) (hz : ∀ k, k < z → feq ((mel la ao al) k k) 0 = false) (hz1 : feq ((mel la ao al) z z) 0 = true), zaa Tryz.prog 20 [mt (aD x l) off (n : Int) (n : Int) ld, .agg [aD q la, .int .i64 ao, .int .i64 (n : Int), .int .i64 (n : Int), .int .i64 al, aI q' p], (aI kr rl), (aI kc cl)] H (.tup [(.agg [.int .i64 0, .int .i64 0, .slnil, .int .i64 0, .int .i64 0, .slnil, .slnil, .slnil, .slnil]), .int .i64 4]) H) := by
  refine ⟨?_, ?_, ?_, ?_⟩
  (intro H x l off rows cols ld hI q la ao ar ac al hJ q' p hpm Rv rl hRl Cv cl hCl hbad
   obtain ⟨hm, ho1, ho2, hr1, hr2, hc1, hc2, hl1, hl2⟩ := id hI
   obtain ⟨hm', ho1', ho2', hr1', hr2', hc1', hc2', hl1', hl2'⟩ := id hJ
   refine .go Tryz.call20 Tryz.func20 false [] dOk ?_
   simp only [za0, Nat.reduceAdd])
  rotate_left
  (intro H x l off rows cols ld hI q la ao ar ac al hJ q' p hpm Rv rl hRl Cv cl hCl hg hr hs
   obtain ⟨hm, ho1, ho2, hr1, hr2, hc1, hc2, hl1, hl2⟩ := id hI
   obtain ⟨hm', ho1', ho2', hr1', hr2', hc1', hc2', hl1', hl2'⟩ := id hJ
   refine .go Tryz.call20 Tryz.func20 false [] dOk ?_
   simp only [za0, Nat.reduceAdd])
  rotate_left
  (intro H x l off ld n hI hG q la ao al hJ hGa q' p hpl hpv kr kc rl cl hrl hcl hn1 hn hz
   obtain ⟨hm, ho1, ho2, hr1, hr2, hc1, hc2, hl1, hl2⟩ := id hI
   obtain ⟨hm', ho1', ho2', hr1', hr2', hc1', hc2', hl1', hl2'⟩ := id hJ
   refine .go Tryz.call20 Tryz.func20 false [] dOk ?_
   simp only [za0, Nat.reduceAdd])
  rotate_left
  (intro H x l off ld n hI hG q la ao al hJ hGa q' p hpl hpv kr kc rl cl hrl hcl hn1 hn z hzn hz hz1
   obtain ⟨hm, ho1, ho2, hr1, hr2, hc1, hc2, hl1, hl2⟩ := id hI
   obtain ⟨hm', ho1', ho2', hr1', hr2', hc1', hc2', hl1', hl2'⟩ := id hJ
   refine .go Tryz.call20 Tryz.func20 false [] dOk ?_
   simp only [za0, Nat.reduceAdd])
  rotate_left
  all_goals (repeat' (first
 |(refine zav ?_; (first | refine zbd ?_ | refine zao ?_ | refine m13 ?_ | refine m12 ?_ | refine m11 ?_ | (refine m10 ?_; (first | refine zcv ?_ | refine zcq ?_ | refine zcu ?_ | refine zcr ?_ | refine zct ?_ ?_ | refine zcs ?_ ?_ | refine zcp ?_ ?_ | refine zco ?_ ?_ | fail)) | (refine m09 ?_; (first | refine zcv ?_ | refine zcq ?_ | refine zcu ?_ | refine zcr ?_ | refine zct ?_ ?_ | refine zcs ?_ ?_ | refine zcp ?_ ?_ | refine zco ?_ ?_ | fail)) | refine m38 ?_ | fail))
 |(refine zaw ?_; (first | refine m14 ?_ | (refine m17 ?_; first | refine m19 ?_ | refine m18 ?_) | (refine m07 ?_; (first | refine m15 ?_ | refine m16 ?_ | fail)) | refine zam (by (conv => {lhs; whnf}); done) (by exact (hRl []).len) ?_ | refine zam (by (conv => {lhs; whnf}); done) (by exact (hCl []).len) ?_ | refine zam (by (conv => {lhs; whnf}); done) (by exact (zbl [] kr rl).len) ?_ | refine zam (by (conv => {lhs; whnf}); done) (by exact (zbl [] kc cl).len) ?_ | refine zam (by (conv => {lhs; whnf}); done) (by exact (zbl [] q' p).len) ?_ | (refine m00 ?_; (first | refine m54 ?_ | refine m55 ?_ | refine zbx ?_ | refine m47 ?_ | refine m48 ?_ | refine m49 ?_ | refine m50 ?_ | refine zfn ?_ | refine zfl ?_ | refine zfm ?_ | refine v_k ?_ | refine m51 ?_ | fail)) | (refine m22 ?_; (first | refine m26 ?_ | refine m27 ?_ | fail)) | refine m42 ?_ | refine zab ?_ | refine zac ?_ | refine m08 ?_ | (refine m20 ?_; (first | refine m54 ?_ | refine m55 ?_ | refine zbx ?_ | refine m47 ?_ | refine m48 ?_ | refine m49 ?_ | refine m50 ?_ | refine zfn ?_ | refine zfl ?_ | refine zfm ?_ | refine v_k ?_ | refine m51 ?_ | fail)) | refine zaj ?_ | refine zam (by (conv => {lhs; whnf}); done) (by first | rfl | assumption) ?_ | refine m25 ?_ | refine m01 ?_ | refine m24 ?_ | refine zc9 ?_ | fail))
 |(refine zch ?_; (first | refine m36 ?_ | refine zcf ?_ | refine m32 ?_ | refine m31 ?_ | refine m30 ?_ | (refine m28 ?_; (first | refine ze6 ?_ | refine ze1 ?_ | refine ze5 ?_ | refine ze2 ?_ | refine ze4 ?_ ?_ | refine ze3 ?_ ?_ | refine ze0 ?_ ?_ | refine zez ?_ ?_ | fail)) | (refine m29 ?_; (first | refine ze6 ?_ | refine ze1 ?_ | refine ze5 ?_ | refine ze2 ?_ | refine ze4 ?_ ?_ | refine ze3 ?_ ?_ | refine ze0 ?_ ?_ | refine zez ?_ ?_ | fail)) | refine m37 ?_ | fail))
 |(refine zcg ?_; (first | refine zev ?_ | refine zfv ?_ | refine zfw (by (conv => {lhs; whnf}); done) ?_ | refine zfx ?_ | refine zfu (by exact rfl) (by exact rfl) ?_ | refine m34 ?_ | refine m35 ?_ | refine m33 ?_ | refine zew ?_ | refine m56 ?_ | refine zci ?_ | refine zc1 (by exact rfl) ?_ | fail))
 |refine zat ?_ | refine zau ?_ | refine zas ?_
 |(refine zax ?_; (first | refine zar ?_ | refine zad ?_ | (refine m06 ?_; (first | refine c_T ?_ | refine c_F ?_ | refine c_P ?_ ?_ | refine c_B ?_ ?_ | fail)) | refine zaq ?_ | refine zah ?_ | refine zae ?_ | refine b_exit ?_ | refine zan (id := 6) [11] [] [(0, .ld true), (2, .lt), (3, .ld true), (5, .lt), (6, .ld true), (7, .lt), (8, .lt), (10, .bx), (1, .mn true), (4, .mn true), (9, .lt), (11, .mn true)] (by kernel_rfl) ?_ | fail))
 |refine m21 ?_
 |refine za4 ?_
 |(refine za5 ?_; (first | refine cA (zg1 _ (aD x l) l.length off rows cols ld (zcd x l) hI) ?_ | refine cA (zg1 _ (aD q la) la.length ao ar ac al (zcd q la) hJ) ?_ | refine cA (z5n _ (aI q' p) p (zbl _ q' p) hpm) ?_ | refine cA (zg1 _ (aD x l) l.length off n n ld (zcd x l) hI) ?_ | refine cA (zg1 _ (aD q la) la.length ao n n al (zcd q la) hJ) ?_ | refine cA (qae _ (aI q' p) p (zbl _ q' p) (by omega) hpv) ?_ | refine cA (qbs _ (aD x l) l (zce _ x l) off ld n hI hG hn) ?_ | refine cA (qbs _ (aD q la) la (zce _ q la) ao al n hJ hGa hn) ?_ | refine cA (z7n _ _ (mel la ao al) n (FLz _ _ _ (by simp)) hn hz) ?_ | refine cA (z7o _ _ (mel la ao al) n (FLz _ _ _ (by simp)) hn z hzn hz hz1) ?_ | fail))
 |refine m58 ?_
 |refine zd8 ?_
 |refine m05 ?_
 |refine m04 ?_ | refine m02 ?_ | refine m03 ?_ | refine zai ?_
 |intro _))
  all_goals first
    | (exfalso; contradiction)
    | (exfalso; omega)
    | (exfalso; simp_all; done)
    | (refine zal rfl (by first | (simp [mx, mxL, zaf, aOf, zbn]; done) | fail) ?_; exact rfl)
    | (refine zal rfl (by first | (simp [mx, mxL, zaf, aOf, zbn, zak, zgj, aI]; done) | fail) ?_; exact rfl)
theorem z5s : type_of% @zek.1 := @zek.1
theorem z5t : type_of% @zek.2.1 := @zek.2.1
theorem z5r : type_of% @zek.2.2.1 := @zek.2.2.1
theorem z5u : type_of% @zek.2.2.2 := @zek.2.2.2
theorem qak (H : List (List AV)) (x : Nat × Nat) (l : List Nat) (off ld : Int) (n : Nat) (hI : MI l.length off n n ld) (hG : zaz l.length off n n ld) (q : Nat × Nat) (la : List Nat) (ao al : Int) (hJ : MI la.length ao n n al) (hGa : zaz la.length ao n n al) (q' : Nat × Nat) (p : List Int) (hpl : p.length = n) (hpv : zdx p) (Rv : AV) (rl : List Int) (hRl : ∀ H, IL H Rv rl) (Cv : AV) (cl : List Int) (hCl : ∀ H, IL H Cv cl) (hrl : rl.length = n) (hcl : cl.length = n) (hn1 : 1 ≤ n) (hn : n ≤ 64) (hz : ∀ k, k < n → feq ((mel la ao al) k k) 0 = false) (X : AV) (xl : List Nat) (hX : ∀ H', FL H' X xl) (hxl : xl.length = n) :
    zaa Tryz.prog 78 [(.agg [.int .i64 (n : Int), .int .i64 (n : Int), .sl none (n * n) (fl (rmA (mel l off ld) n n)), .int .i64 (n : Int), .int .i64 (n : Int), .sl none (n * n) (fl (rmA (mel la ao al) n n)), aI q' p, Rv, Cv]), X] H (.sl none n (fl (rml (shF (up2 (mel la ao al) (lo1 (mel la ao al) (tkF p (shF (fun i => xl.getD i 0) rl n) n) n) n n) cl n) n))) H := by
  refine .go Tryz.call78 Tryz.func78 false [] dOk ?_
  simp only [za0, Nat.reduceAdd]
  repeat' (first
 |(refine zav ?_; (first | refine zbd ?_ | refine zao ?_ | fail))
 |(refine zaw ?_; (first | refine m14 ?_ | (refine m17 ?_; first | refine m19 ?_ | refine m18 ?_) | (refine m07 ?_; (first | refine m15 ?_ | refine m16 ?_ | fail)) | refine m42 ?_ | refine zab ?_ | refine zac ?_ | refine m08 ?_ | refine zaj ?_ | refine m23 ?_ | refine m01 ?_ | fail))
 |(refine zch ?_; (first | refine m36 ?_ | refine zcf ?_ | fail))
 |(refine zcg ?_; (first | refine zev ?_ | refine zfv ?_ | refine zfw (by (conv => {lhs; whnf}); done) ?_ | refine zfx ?_ | refine zfu (by exact rfl) (by exact rfl) ?_ | refine m34 ?_ | refine m35 ?_ | refine m33 ?_ | refine zew ?_ | refine m56 ?_ | refine zci ?_ | refine zc1 (by exact rfl) ?_ | fail))
 |refine zat ?_ | refine zau ?_ | refine zas ?_
 |(refine zax ?_; (first | refine zar ?_ | refine zad ?_ | (refine m06 ?_; (first | refine c_T ?_ | refine c_F ?_ | refine c_P ?_ ?_ | refine c_B ?_ ?_ | fail)) | refine zaq ?_ | refine zah ?_ | refine zae ?_ | refine b_exit ?_ | refine zan (id := 1) [] [] [(0, .lt), (1, .ld true), (2, .lt), (3, .ld true), (4, .lt), (5, .lt), (6, .ld true), (7, .mn true), (8, .mn true), (9, .lt), (10, .lt), (11, .lt), (12, .lt), (13, .lt)] (by kernel_rfl) ?_ | fail))
 |refine m21 ?_
 |refine za4 ?_
 |(refine za5 ?_; (first | refine cA (zo3 _ X xl (hX _) n hxl Rv rl (hRl _) hrl hn) ?_ | refine cA (z6a _ _ (shF (fun i => xl.getD i 0) rl n) n (FLz _ _ _ (by simp)) (by omega) _ (mel la ao al) (FLz _ _ _ (by simp)) (aI q' p) p (zbl _ q' p) hpl hpv hz) ?_ | refine cA (zo1 _ _ (up2 (mel la ao al) (lo1 (mel la ao al) (tkF p (shF (fun i => xl.getD i 0) rl n) n) n) n n) n (FLz _ _ _ (by simp)) Cv cl (hCl _) hcl hn) ?_ | fail))
 |refine m05 ?_
 |refine m04 ?_ | refine m02 ?_ | refine m03 ?_ | refine zai ?_
 |intro _)
  all_goals first
    | (refine zal rfl (by simp [mx, mxL, zaf, aOf, zbn, zak]) ?_; exact rfl)
theorem qaj (H : List (List AV)) (x : Nat × Nat) (l : List Nat) (off ld : Int) (n : Nat) (hI : MI l.length off n n ld) (hG : zaz l.length off n n ld) (q : Nat × Nat) (la : List Nat) (ao al : Int) (hJ : MI la.length ao n n al) (hGa : zaz la.length ao n n al) (q' : Nat × Nat) (p : List Int) (hpl : p.length = n) (hpv : zdx p) (Rv : AV) (rl : List Int) (hRl : ∀ H, IL H Rv rl) (Cv : AV) (cl : List Int) (hCl : ∀ H, IL H Cv cl) (hrl : rl.length = n) (hcl : cl.length = n) (hn1 : 1 ≤ n) (hn : n ≤ 64) (hz : ∀ k, k < n → feq ((mel la ao al) k k) 0 = false) (X : AV) (xl : List Nat) (hX : ∀ H', FL H' X xl) (hxl : xl.length = n) :
    zaa Tryz.prog 77 [(.agg [.int .i64 (n : Int), .int .i64 (n : Int), .sl none (n * n) (fl (rmA (mel l off ld) n n)), .int .i64 (n : Int), .int .i64 (n : Int), .sl none (n * n) (fl (rmA (mel la ao al) n n)), aI q' p, Rv, Cv]), X] H (.sl none n (fl (rml (shF (tkB p (lt3 (mel la ao al) (ut4 (mel la ao al) (shF (fun i => xl.getD i 0) cl n) n) n n) n) rl n) n))) H := by
  refine .go Tryz.call77 Tryz.func77 false [] dOk ?_
  simp only [za0, Nat.reduceAdd]
  repeat' (first
 |(refine zav ?_; (first | refine zbd ?_ | refine zao ?_ | fail))
 |(refine zaw ?_; (first | refine m14 ?_ | (refine m17 ?_; first | refine m19 ?_ | refine m18 ?_) | (refine m07 ?_; (first | refine m15 ?_ | refine m16 ?_ | fail)) | refine m42 ?_ | refine zab ?_ | refine zac ?_ | refine m08 ?_ | refine zaj ?_ | refine m23 ?_ | refine m01 ?_ | fail))
 |(refine zch ?_; (first | refine m36 ?_ | refine zcf ?_ | fail))
 |(refine zcg ?_; (first | refine zev ?_ | refine zfv ?_ | refine zfw (by (conv => {lhs; whnf}); done) ?_ | refine zfx ?_ | refine zfu (by exact rfl) (by exact rfl) ?_ | refine m34 ?_ | refine m35 ?_ | refine m33 ?_ | refine zew ?_ | refine m56 ?_ | refine zci ?_ | refine zc1 (by exact rfl) ?_ | fail))
 |refine zat ?_ | refine zau ?_ | refine zas ?_
 |(refine zax ?_; (first | refine zar ?_ | refine zad ?_ | (refine m06 ?_; (first | refine c_T ?_ | refine c_F ?_ | refine c_P ?_ ?_ | refine c_B ?_ ?_ | fail)) | refine zaq ?_ | refine zah ?_ | refine zae ?_ | refine b_exit ?_ | refine zan (id := 1) [] [] [(0, .lt), (1, .ld true), (2, .lt), (3, .ld true), (4, .lt), (5, .lt), (6, .ld true), (7, .mn true), (8, .mn true), (9, .lt), (10, .lt), (11, .lt), (12, .lt), (13, .lt)] (by kernel_rfl) ?_ | fail))
 |refine m21 ?_
 |refine za4 ?_
 |(refine za5 ?_; (first | refine cA (zo3 _ X xl (hX _) n hxl Cv cl (hCl _) hcl hn) ?_ | refine cA (z5z _ _ (shF (fun i => xl.getD i 0) cl n) n (FLz _ _ _ (by simp)) (by omega) _ (mel la ao al) (FLz _ _ _ (by simp)) (aI q' p) p (zbl _ q' p) hpl hpv hz) ?_ | refine cA (zo1 _ _ (tkB p (lt3 (mel la ao al) (ut4 (mel la ao al) (shF (fun i => xl.getD i 0) cl n) n) n n) n) n (FLz _ _ _ (by simp)) Rv rl (hRl _) hrl hn) ?_ | fail))
 |refine m05 ?_
 |refine m04 ?_ | refine m02 ?_ | refine m03 ?_ | refine zai ?_
 |intro _)
  all_goals first
    | (refine zal rfl (by simp [mx, mxL, zaf, aOf, zbn, zak]) ?_; exact rfl)
end
def zkr (f : Nat → Nat) (mo : Nat → Nat → Nat → Nat) (a : Nat → Nat → Nat) (i : Nat) : Nat → Nat
  | 0 => f i
  | j + 1 => mo (zkr f mo a i j) (a i j) j
def zme (a : Nat → Nat → Nat) (x b : List Nat) (i j : Nat) : Nat := zkr (fun i => b.getD i 0) (fun s c j => ziz s (zeu c (x.getD j 0))) a i j
def wtF (a : Nat → Nat → Nat) (x b : List Nat) (i j : Nat) : Nat := zkr (fun i => zbm (b.getD i 0)) (fun s c j => zjr s (zeu (zbm c) (zbm (x.getD j 0)))) a i j
theorem zxg {P : Program} {cfg : Cfg} {e : List (Nat × EV)} {L : List (Nat × List AV)} {K : St → Prop} {ty : TypeId} {pos : String} {aft : Array Edge} {gd : Option (Nat × Bool)} {t : TypeId} {x v : Operand} {n i gen len sz m : Nat} {a : Bool} {cs vs : List AV} {A N N' : List (List AV)} [ti : TyI P t m a] {ev : EV} (hx : St.ev ⟨e, L, A ++ N⟩ x = .val (.eptr (.slm (n + i) gen 0 len sz) 0)) (hv : St.ev ⟨e, L, A ++ N⟩ v = ev) (hvs : ev.asV.bind AV.cells = some vs)
    (hn : vs.length = m) (hA : A.length = n) (hc : N[i]? = some cs) (hg : cs.length = gen) (hl : vs.length = cs.length) (hcf : cfg.n0 = n) (hN : N.set i vs = N') (h : K ⟨e, L, A ++ N'⟩) : opX P cfg ⟨none, .store t x v, ty, pos, aft, gd⟩ K ⟨e, L, A ++ N⟩ := by
  refine zq8 hx hv hvs hn (za9 hA hc) hg (by omega) (.inl (by omega)) rfl ?_
  have e1 : sc cs (0 + 0) vs = vs := zyi hl
  rw [e1, zi2 hA hN]; exact h
section
attribute [local irreducible] Ex za3 exD opX opE zca zd3 zd4 Spec zaa Fr zb9 zbb zba ckK zb8 zb6 zbu faK zb4 zd1 gK fK rK zeq lpX prK
theorem z8y (H : List (List AV)) (bk : Nat) (X : AV) (hbk : H[bk]? = some [X]) (l : List Nat) (hF : FL H X l) (i : Nat) (hi : i < l.length) :
    zaa Tryz.prog 122 [.int .i64 (i : Int), .eptr (.slm bk 1 0 1 1) 0] H (.flt (l.getD i 0)) H := by
  refine .go Tryz.call122 Tryz.func122 false [] dOk ?_
  simp only [za0, Nat.reduceAdd]
  repeat' (first
 |(refine zav ?_; (first | refine zbd ?_ | refine zao ?_ | fail))
 |(refine zaw ?_; (first | refine m14 ?_ | (refine m07 ?_; (first | refine m15 ?_ | refine m16 ?_ | refine zdy (FL.app hF _) hi ?_ | refine zj3 hbk (by exact rfl) (by exact rfl) ?_ | fail)) | refine zbz (by (conv => {lhs; whnf}); done) (by (conv => {lhs; whnf}); done) (by exact hF.len) hi ?_ | refine m42 ?_ | refine zab ?_ | refine zac ?_ | refine m08 ?_ | fail))
 |refine zat ?_ | refine zau ?_ | refine zas ?_
 |(refine zax ?_; (first | refine zar ?_ | refine zad ?_ | (refine m06 ?_; (first | refine c_T ?_ | refine c_F ?_ | refine c_P ?_ ?_ | refine c_B ?_ ?_ | fail)) | refine zaq ?_ | refine zah ?_ | refine zae ?_ | refine b_exit ?_ | fail))
 |refine m05 ?_
 |refine m04 ?_ | refine m02 ?_ | refine m03 ?_ | refine zai ?_
 |intro _)
  all_goals first
    | (exfalso; omega)
    | (refine zal rfl (by simp [mx, mxL, zaf, aOf, zbn]) ?_; exact rfl)
    | (exfalso; simp_all; done)
theorem z8z (H : List (List AV)) (bk : Nat) (X : AV) (hbk : H[bk]? = some [X]) (l : List Nat) (hF : FL H X l) (i : Nat) (hi : i < l.length) (s c : Nat) :
    zaa Tryz.prog 123 [.flt s, .flt c, .int .i64 (i : Int), .eptr (.slm bk 1 0 1 1) 0] H (.flt (ziz s (zeu c (l.getD i 0)))) H := by
  refine .go Tryz.call123 Tryz.func123 false [] dOk ?_
  simp only [za0, Nat.reduceAdd]
  repeat' (first
 |(refine zav ?_; (first | refine zbd ?_ | refine zao ?_ | fail))
 |(refine zaw ?_; (first | refine m14 ?_ | (refine m07 ?_; (first | refine m15 ?_ | refine m16 ?_ | refine zdy (FL.app hF _) hi ?_ | refine zj3 hbk (by exact rfl) (by exact rfl) ?_ | fail)) | refine zbz (by (conv => {lhs; whnf}); done) (by (conv => {lhs; whnf}); done) (by exact hF.len) hi ?_ | (refine m00 ?_; (first | refine m49 ?_ | refine m50 ?_ | refine v_k ?_ | refine m51 ?_ | fail)) | refine m42 ?_ | refine zab ?_ | refine zac ?_ | refine m08 ?_ | fail))
 |refine zat ?_ | refine zau ?_ | refine zas ?_
 |(refine zax ?_; (first | refine zar ?_ | refine zad ?_ | (refine m06 ?_; (first | refine c_T ?_ | refine c_F ?_ | refine c_P ?_ ?_ | refine c_B ?_ ?_ | fail)) | refine zaq ?_ | refine zah ?_ | refine zae ?_ | refine b_exit ?_ | fail))
 |refine m05 ?_
 |refine m04 ?_ | refine m02 ?_ | refine m03 ?_ | refine zai ?_
 |intro _)
  all_goals first
    | (exfalso; omega)
    | (refine zal rfl (by simp [mx, mxL, zaf, aOf, zbn]) ?_; exact rfl)
    | (exfalso; simp_all; done)
theorem z81 (H : List (List AV)) (bk : Nat) (X : AV) (hbk : H[bk]? = some [X]) (l : List Nat) (hF : FL H X l) (i : Nat) (hi : i < l.length) :
    zaa Tryz.prog 124 [.int .i64 (i : Int), .eptr (.slm bk 1 0 1 1) 0] H (.flt (zbm (l.getD i 0))) H := by
  refine .go Tryz.call124 Tryz.func124 false [] dOk ?_
  simp only [za0, Nat.reduceAdd]
  repeat' (first
 |(refine zav ?_; (first | refine zbd ?_ | refine zao ?_ | fail))
 |(refine zaw ?_; (first | refine m14 ?_ | (refine m07 ?_; (first | refine m15 ?_ | refine m16 ?_ | refine zdy (FL.app hF _) hi ?_ | refine zj3 hbk (by exact rfl) (by exact rfl) ?_ | fail)) | refine zbz (by (conv => {lhs; whnf}); done) (by (conv => {lhs; whnf}); done) (by exact hF.len) hi ?_ | refine m42 ?_ | refine zab ?_ | refine zac ?_ | refine m08 ?_ | refine zaj ?_ | fail))
 |refine zat ?_ | refine zau ?_ | refine zas ?_
 |(refine zax ?_; (first | refine zar ?_ | refine zad ?_ | (refine m06 ?_; (first | refine c_T ?_ | refine c_F ?_ | refine c_P ?_ ?_ | refine c_B ?_ ?_ | fail)) | refine zaq ?_ | refine zah ?_ | refine zae ?_ | refine b_exit ?_ | fail))
 |refine m21 ?_
 |refine za4 ?_
 |(refine za5 ?_; (first | refine cA (zhy _ _) ?_ | fail))
 |refine m05 ?_
 |refine m04 ?_ | refine m02 ?_ | refine m03 ?_ | refine zai ?_
 |intro _)
  all_goals first
    | (exfalso; omega)
    | (refine zal rfl (by simp [mx, mxL, zaf, aOf, zbn]) ?_; exact rfl)
    | (exfalso; simp_all; done)
theorem z88 (H : List (List AV)) (bk : Nat) (X : AV) (hbk : H[bk]? = some [X]) (l : List Nat) (hF : FL H X l) (i : Nat) (hi : i < l.length) (s c : Nat) :
    zaa Tryz.prog 126 [.flt s, .flt c, .int .i64 (i : Int), .eptr (.slm bk 1 0 1 1) 0] H (.flt (zjr s (zeu (zbm c) (zbm (l.getD i 0))))) H := by
  refine .go Tryz.call126 Tryz.func126 false [] dOk ?_
  simp only [za0, Nat.reduceAdd]
  repeat' (first
 |(refine zav ?_; (first | refine zbd ?_ | refine zao ?_ | fail))
 |(refine zaw ?_; (first | refine m14 ?_ | (refine m07 ?_; (first | refine m15 ?_ | refine m16 ?_ | refine zdy (FL.app hF _) hi ?_ | refine zj3 hbk (by exact rfl) (by exact rfl) ?_ | fail)) | refine zbz (by (conv => {lhs; whnf}); done) (by (conv => {lhs; whnf}); done) (by exact hF.len) hi ?_ | (refine m00 ?_; (first | refine m49 ?_ | refine m50 ?_ | refine v_k ?_ | refine m51 ?_ | fail)) | refine m42 ?_ | refine zab ?_ | refine zac ?_ | refine m08 ?_ | refine zaj ?_ | fail))
 |(refine zch ?_; (first | refine m36 ?_ | refine zcf ?_ | fail))
 |(refine zcg ?_; (first | refine zev ?_ | refine zfv ?_ | refine zfw (by (conv => {lhs; whnf}); done) ?_ | refine zfx ?_ | refine zfu (by exact rfl) (by exact rfl) ?_ | refine m34 ?_ | refine m35 ?_ | refine m33 ?_ | refine zew ?_ | refine m56 ?_ | refine zci ?_ | refine zc1 (by exact rfl) ?_ | fail))
 |refine zat ?_ | refine zau ?_ | refine zas ?_
 |(refine zax ?_; (first | refine zar ?_ | refine zad ?_ | (refine m06 ?_; (first | refine c_T ?_ | refine c_F ?_ | refine c_P ?_ ?_ | refine c_B ?_ ?_ | fail)) | refine zaq ?_ | refine zah ?_ | refine zae ?_ | refine b_exit ?_ | refine zan (id := 1) [] [] [(0, .lt), (1, .lt), (3, .ld true), (4, .lt), (5, .lt), (6, .ld true), (2, .mn true), (7, .mn true), (8, .lt), (9, .lt), (10, .lt)] (by kernel_rfl) ?_ | fail))
 |refine m21 ?_
 |refine za4 ?_
 |(refine za5 ?_; (first | refine cA (zhy _ _) ?_ | fail))
 |refine m05 ?_
 |refine m04 ?_ | refine m02 ?_ | refine m03 ?_ | refine zai ?_
 |intro _)
  all_goals first
    | (exfalso; omega)
    | (refine zal rfl (by simp [mx, mxL, zaf, aOf, zbn]) ?_; exact rfl)
    | (exfalso; simp_all; done)
theorem zyg (H : List (List AV)) (D : AV) (l : List Nat) (hF : FL H D l) (off ld : Int) (n : Nat) (hI : MI l.length off n n ld) (hG : zaz l.length off n n ld) (hn : n ≤ 64) (fid1 fid2 : Nat) (caps1 caps2 : List AV) (f : Nat → Nat) (mo : Nat → Nat → Nat → Nat) (h1 : ∀ i N, i < n → zaa Tryz.prog fid1 ([.int .i64 (i : Int)] ++ caps1) (H ++ N) (.flt (f i)) (H ++ N)) (h2 : ∀ s c j N, j < n → zaa Tryz.prog fid2 ([.flt s, .flt c, .int .i64 (j : Int)] ++ caps2) (H ++ N) (.flt (mo s c j)) (H ++ N)) :
    zaa Tryz.prog 127 [.agg [.func fid1 [] caps1, .func fid2 [] caps2], mt D off (n : Int) (n : Int) ld] H (.sl none n (fl (rml (fun i => zkr f mo (mel l off ld) i n) n))) H := by
  refine .go Tryz.call127 Tryz.func127 false [35] dOk ?_
  simp only [za0, Nat.reduceAdd]
  repeat' (first
 |(refine zav ?_; (first | refine zbd ?_ | refine zao ?_ | fail))
 |(refine zaw ?_; (first | refine m41 ?_ | refine zb0 ?_ | refine m14 ?_ | (refine m17 ?_; first | refine m19 ?_ | refine m18 ?_) | (refine m07 ?_; (first | refine m15 ?_ | refine m16 ?_ | fail)) | refine zee (i := 0) (N₀ := []) (by (conv => {lhs; whnf}); done) (by (conv => {lhs; whnf}); done) (by exact rfl) (by exact rfl) (by simp) (by omega) (by exact rfl) (by exact rfl) (l' := fl (rml (fun i => zkr f mo (mel l off ld) i n) (k + 1))) (by exact zg7 (fun i => zkr f mo (mel l off ld) i n) k) ?_ | (refine m00 ?_; (first | refine zbo ((k + 1 : Nat) : Int) (by omega) (by omega) ?_ | refine zbo ((t + 1 : Nat) : Int) (by omega) (by omega) ?_ | refine m47 ?_ | refine m48 ?_ | refine m49 ?_ | refine m50 ?_ | refine v_k ?_ | refine m51 ?_ | fail)) | refine m42 ?_ | refine zab ?_ | refine zac ?_ | refine m08 ?_ | refine zaj ?_ | refine m39 ?_ | refine m01 ?_ | refine zc2 (by exact rfl) (by exact rfl) (by decide) ?_ | fail))
 |(refine zch ?_; (first | refine m36 ?_ | refine zcf ?_ | fail))
 |(refine zcg ?_; (first | refine zev ?_ | refine zfv ?_ | refine zfw (by (conv => {lhs; whnf}); done) ?_ | refine zfx ?_ | refine zfu (by exact rfl) (by exact rfl) ?_ | refine m34 ?_ | refine m35 ?_ | refine m33 ?_ | refine zew ?_ | refine m56 ?_ | refine zci ?_ | refine zc1 (by exact rfl) ?_ | fail))
 |refine zat ?_ | refine zau ?_ | refine zas ?_
 |(refine zax ?_; (first | refine zar ?_ | refine zad ?_ | (refine m06 ?_; (first | refine c_T ?_ | refine c_F ?_ | refine c_P ?_ ?_ | refine c_B ?_ ?_ | fail)) | refine zaq ?_ | refine zah ?_ | refine zae ?_ | refine b_exit ?_ | refine zan (id := 9) [] [] [(0, .lt), (1, .ld true), (2, .lt), (3, .ld true), (4, .lt), (5, .lt), (7, .lt), (6, .mn true), (8, .mn true), (9, .lt)] (by kernel_rfl) ?_ | (refine za1 [2, 3, 5, 6, 7, 10, 11, 19, 20] n (fun t => ⟨[(2, .loc 2 0), (3, .loc 3 0), (5, .val (gV H.length 0 k)), (6, .val (.int .i64 ((k : Nat) : Int))), (7, .val (.flt (zkr f mo (mel l off ld) k t))), (10, .val (.int .i64 ((n : Nat) : Int))), (11, .val (.int .i64 ((k : Nat) : Int))), (19, .val (.int .i64 ((n : Nat) : Int))), (20, .val (.int .i64 ((t : Nat) : Int)))], [(2, [.func fid1 [] caps1, .func fid2 [] caps2]), (3, [D, .int .i64 off, .int .i64 (n : Int), .int .i64 (n : Int), .int .i64 ld])], H ++ ([] ++ gN (fl (rml (fun i => zkr f mo (mel l off ld) i n) k)))⟩) (by exact rfl) ?_ ?_ <;> (first | intro t ht K hK | intro K) <;> (try dsimp only at *)) | (refine za1 [2, 3, 5, 10, 11] n (fun k => ⟨[(2, .loc 2 0), (3, .loc 3 0), (5, .val (gV H.length 0 k)), (10, .val (.int .i64 ((n : Nat) : Int))), (11, .val (.int .i64 ((k : Nat) : Int)))], [(2, [.func fid1 [] caps1, .func fid2 [] caps2]), (3, [D, .int .i64 off, .int .i64 (n : Int), .int .i64 (n : Int), .int .i64 ld])], H ++ ([] ++ gN (fl (rml (fun i => zkr f mo (mel l off ld) i n) k)))⟩) (by exact rfl) ?_ ?_ <;> (first | intro k hk K hK | intro K) <;> (try dsimp only at *)) | fail))
 |refine m21 ?_
 |refine za4 ?_
 |(refine za5 ?_; (first | refine cA (h1 k _ (by omega)) ?_ | refine cA (zw2 _ D l (FL.app hF _) off ld n hI hG k t (by omega) (by omega) _ rfl) ?_ | refine cA (h2 _ _ t _ (by omega)) ?_ | fail))
 |refine m44 ?_
 |refine m40 ?_
 |(refine zbc (by (conv => {lhs; simp only [List.nil_append, List.cons_append]}); done) ?_; first | refine ⟨by exact rfl, ?_⟩ | skip)
 |refine zbt ?_
 |(intro N' hN'; simp only [List.nil_append, List.cons_append] at hN'; subst hN')
 |refine zbh ?_ | refine zbi ?_ | refine zbg ?_ | refine m57 ?_
 |refine zdp ?_ | refine zdq ?_ | refine zdo ?_
 |(refine zdr (by exact rfl) ?_; first | exact hK | fail | (exfalso; first | omega | (simp_all; done) | (simp_all; omega)))
 |refine m05 ?_
 |refine m04 ?_ | refine m02 ?_ | refine m03 ?_ | refine zai ?_
 |intro _)
  all_goals first
    | (exfalso; omega)
    | (refine zb5 rfl ?_; exact zi0 (N₀ := []) (i := 0) rfl rfl (by simp) (by rw [zak]; exact Nat.zero_le _))
end
def zzb (n : Nat) (r w : List Nat) (i : Nat) : Nat := zjr (zjr (zbm (r.getD i 0)) (zeu (zcy (cn (FloatKind.f64.nearest ((n + 3 : Nat) : Int))) (clK (-52))) (w.getD i 0))) (zcy (cn (FloatKind.f64.nearest ((n + 3 : Nat) : Int))) (clK (-1070)))
def zmf (a : Nat → Nat → Nat) (x b : List Nat) (n : Nat) : List Nat := rml (fun i => zme a x b i n) n
def wtL (a : Nat → Nat → Nat) (x b : List Nat) (n : Nat) : List Nat := rml (fun i => wtF a x b i n) n
def zzc (r w : List Nat) (n : Nat) : List Nat := rml (zzb n r w) n
@[simp] theorem zg6 (a : Nat → Nat → Nat) (x b : List Nat) (n : Nat) : (zmf a x b n).length = n := by simp [zmf]
@[simp] theorem zlh (a : Nat → Nat → Nat) (x b : List Nat) (n : Nat) : (wtL a x b n).length = n := by simp [wtL]
@[simp] theorem z7r (r w : List Nat) (n : Nat) : (zzc r w n).length = n := by simp [zzc]
section
attribute [local irreducible] Ex za3 exD opX opE zca zd3 zd4 Spec zaa Fr zb9 zbb zba ckK zb8 zb6 zbu faK zb4 zd1 gK fK rK zeq lpX prK
theorem qdf (H : List (List AV)) (D : AV) (l : List Nat) (hF : FL H D l) (off ld : Int) (n : Nat) (hI : MI l.length off n n ld) (hG : zaz l.length off n n ld) (hn : n ≤ 64) (X : AV) (xl : List Nat) (hX : FL H X xl) (hxl : xl.length = n) (B : AV) (bl : List Nat) (hB : FL H B bl) (hbl : bl.length = n) :
    zaa Tryz.prog 121 [mt D off (n : Int) (n : Int) ld, X, B] H (.int .i64 0) H := by
  have hXn : slen X = some n := (by rw [hX.len, hxl])
  have hBn : slen B = some n := (by rw [hB.len, hbl])
  obtain ⟨hm, ho1, ho2, hr1, hr2, hc1, hc2, hl1, hl2⟩ := id hI
  refine .go Tryz.call121 Tryz.func121 false [] dOk ?_
  simp only [za0, Nat.reduceAdd]
  repeat' (first
 |(refine zav ?_; (first | refine zbd ?_ | refine zao ?_ | refine m13 ?_ | refine m12 ?_ | refine m11 ?_ | (refine m10 ?_; (first | refine zcv ?_ | refine zcq ?_ | refine zcu ?_ | refine zcr ?_ | refine zct ?_ ?_ | refine zcs ?_ ?_ | refine zcp ?_ ?_ | refine zco ?_ ?_ | fail)) | (refine m09 ?_; (first | refine zcv ?_ | refine zcq ?_ | refine zcu ?_ | refine zcr ?_ | refine zct ?_ ?_ | refine zcs ?_ ?_ | refine zcp ?_ ?_ | refine zco ?_ ?_ | fail)) | refine m38 ?_ | fail))
 |(refine zaw ?_; (first | refine m14 ?_ | (refine m17 ?_; first | refine m19 ?_ | refine m18 ?_) | (refine m07 ?_; (first | refine m15 ?_ | refine m16 ?_ | fail)) | refine zam (by (conv => {lhs; whnf}); done) (by exact hXn) ?_ | refine zam (by (conv => {lhs; whnf}); done) (by exact hBn) ?_ | (refine m00 ?_; (first | refine m54 ?_ | refine m55 ?_ | refine zbx ?_ | refine m47 ?_ | refine m48 ?_ | refine m49 ?_ | refine m50 ?_ | refine zfn ?_ | refine zfl ?_ | refine zfm ?_ | refine v_k ?_ | refine m51 ?_ | fail)) | (refine m22 ?_; (first | refine m26 ?_ | refine m27 ?_ | fail)) | refine m42 ?_ | refine zab ?_ | refine zac ?_ | refine m08 ?_ | (refine m20 ?_; (first | refine m54 ?_ | refine m55 ?_ | refine zbx ?_ | refine m47 ?_ | refine m48 ?_ | refine m49 ?_ | refine m50 ?_ | refine zfn ?_ | refine zfl ?_ | refine zfm ?_ | refine v_k ?_ | refine m51 ?_ | fail)) | refine zaj ?_ | refine zam (by (conv => {lhs; whnf}); done) (by first | rfl | assumption) ?_ | refine m01 ?_ | fail))
 |refine zat ?_ | refine zau ?_ | refine zas ?_
 |(refine zax ?_; (first | refine zar ?_ | refine zad ?_ | (refine m06 ?_; (first | refine c_T ?_ | refine c_F ?_ | refine c_P ?_ ?_ | refine c_B ?_ ?_ | fail)) | refine zaq ?_ | refine zah ?_ | refine zae ?_ | refine b_exit ?_ | fail))
 |refine m21 ?_
 |refine za4 ?_
 |(refine za5 ?_; (first | refine cA (zi1 _ D l.length off n n ld hF.len hI) ?_ | fail))
 |refine zbh ?_ | refine zbi ?_ | refine zbg ?_ | refine m57 ?_
 |refine m05 ?_
 |refine m04 ?_ | refine m02 ?_ | refine m03 ?_ | refine zai ?_
 |intro _)
  all_goals first
    | (exfalso; contradiction)
    | (exfalso; omega)
    | (exfalso; simp_all; done)
    | (refine zal rfl (by simp [mx, mxL, zaf, aOf, zbn]) ?_; exact rfl)
theorem z5v (H : List (List AV)) (D : AV) (l : List Nat) (hF : FL H D l) (off ld : Int) (n : Nat) (hI : MI l.length off n n ld) (hG : zaz l.length off n n ld) (hn : n ≤ 64) (X : AV) (xl : List Nat) (hX : FL H X xl) (hxl : xl.length = n) (B : AV) (bl : List Nat) (hB : FL H B bl) (hbl : bl.length = n) :
    zaa Tryz.prog 65 [mt D off (n : Int) (n : Int) ld, X, B] H (.tup [.sl none n (fl (zmf (mel l off ld) xl bl n)), .sl none n (fl (wtL (mel l off ld) xl bl n)), .int .i64 0]) H := by
  have hXn : slen X = some n := (by rw [hX.len, hxl])
  have hBn : slen B = some n := (by rw [hB.len, hbl])
  obtain ⟨hm, ho1, ho2, hr1, hr2, hc1, hc2, hl1, hl2⟩ := id hI
  refine .go Tryz.call65 Tryz.func65 true [] dOk ?_
  simp only [za0, Nat.reduceAdd]
  repeat' (first
 |(refine zav ?_; (first | refine zbd ?_ | refine zao ?_ | fail))
 |(refine zaw ?_; (first | refine m14 ?_ | (refine m07 ?_; (first | refine m15 ?_ | refine m16 ?_ | refine zus (by exact rfl) (by exact rfl) (by exact rfl) (by exact rfl) ?_ | refine zsp (by exact rfl) (by exact rfl) (by exact rfl) (by exact rfl) ?_ | fail)) | refine zex (by (conv => {lhs; whnf}); done) (by exact zcn hX.len) (by exact rfl) (by exact rfl) (by (conv => {lhs; whnf}); done) (by (conv => {lhs; simp only [List.nil_append, List.cons_append]}); done) ?_ | refine zex (by (conv => {lhs; whnf}); done) (by exact zcn hB.len) (by exact rfl) (by exact rfl) (by (conv => {lhs; whnf}); done) (by (conv => {lhs; simp only [List.nil_append, List.cons_append]}); done) ?_ | refine zex (by (conv => {lhs; whnf}); done) (by exact rfl) (by exact rfl) (by exact rfl) (by (conv => {lhs; whnf}); done) (by (conv => {lhs; simp only [List.nil_append, List.cons_append]}); done) ?_ | refine zjn ?_ | refine zki (by exact rfl) (by exact rfl) (by (conv => {lhs; whnf}); done) (by (conv => {lhs; simp only [List.nil_append, List.cons_append]}); done) ?_ | refine zxg (by (conv => {lhs; whnf}); done) (by exact rfl) (by exact rfl) (by exact rfl) (by exact rfl) (by exact rfl) (by exact rfl) (by exact rfl) (by exact rfl) (by exact rfl) ?_ | (refine m00 ?_; (first | refine m54 ?_ | refine m55 ?_ | refine zbx ?_ | refine m49 ?_ | refine m50 ?_ | refine v_k ?_ | refine m51 ?_ | fail)) | refine m42 ?_ | refine zab ?_ | refine zac ?_ | refine m08 ?_ | refine zaj ?_ | refine m25 ?_ | refine m01 ?_ | refine m24 ?_ | refine zc9 ?_ | fail))
 |(refine zch ?_; (first | refine m36 ?_ | refine zcf ?_ | fail))
 |(refine zcg ?_; (first | refine zev ?_ | refine zfv ?_ | refine zfw (by (conv => {lhs; whnf}); done) ?_ | refine zfx ?_ | refine zfu (by exact rfl) (by exact rfl) ?_ | refine m34 ?_ | refine m35 ?_ | refine m33 ?_ | refine zew ?_ | refine m56 ?_ | refine zci ?_ | refine zc1 (by exact rfl) ?_ | fail))
 |refine zat ?_ | refine zau ?_ | refine zas ?_
 |(refine zax ?_; (first | refine zar ?_ | refine zad ?_ | (refine m06 ?_; (first | refine c_T ?_ | refine c_F ?_ | refine c_P ?_ ?_ | refine c_B ?_ ?_ | fail)) | refine zaq ?_ | refine zah ?_ | refine zae ?_ | refine b_exit ?_ | refine zan (id := 6) [] [] [(0, .ld true), (1, .ld true), (3, .ld true), (4, .ld true), (2, .mn true), (5, .mn true), (6, .lt), (7, .lt), (8, .lt)] (by kernel_rfl) ?_ | fail))
 |refine m21 ?_
 |refine za4 ?_
 |(refine za5 ?_; (first | refine cA (qdf _ D l (FL.app hF _) off ld n hI hG hn X xl (FL.app hX _) hxl B bl (FL.app hB _) hbl) ?_ | refine cA (zyg _ D l (FL.app hF _) off ld n hI hG hn 122 123 [.eptr (.slm (H.length + 2) 1 0 1 1) 0] [.eptr (.slm (H.length + 1) 1 0 1 1) 0] (fun i => bl.getD i 0) (fun s c j => ziz s (zeu c (xl.getD j 0))) (fun i N hi => z8y _ _ B (zdw (za9 (by exact rfl) rfl)) bl (FL.app (FL.app hB _) _) i (by omega)) (fun s c j N hj => z8z _ _ X (zdw (za9 (by exact rfl) rfl)) xl (FL.app (FL.app hX _) _) j (by omega) s c)) ?_ | refine cA (zyg _ D l (FL.app hF _) off ld n hI hG hn 124 126 [.eptr (.slm (H.length + 2) 1 0 1 1) 0] [.eptr (.slm (H.length + 1) 1 0 1 1) 0] (fun i => zbm (bl.getD i 0)) (fun s c j => zjr s (zeu (zbm c) (zbm (xl.getD j 0)))) (fun i N hi => z81 _ _ B (zdw (za9 (by exact rfl) rfl)) bl (FL.app (FL.app hB _) _) i (by omega)) (fun s c j N hj => z88 _ _ X (zdw (za9 (by exact rfl) rfl)) xl (FL.app (FL.app hX _) _) j (by omega) s c)) ?_ | fail))
 |refine m58 ?_
 |refine zd8 ?_
 |refine m44 ?_
 |refine m40 ?_
 |(refine zbc (by (conv => {lhs; simp only [List.nil_append, List.cons_append]}); done) ?_; first | refine ⟨by exact rfl, ?_⟩ | skip)
 |refine zbt ?_
 |(intro N' hN'; simp only [List.nil_append, List.cons_append] at hN'; subst hN')
 |refine m05 ?_
 |refine m04 ?_ | refine m02 ?_ | refine m03 ?_ | refine zai ?_
 |intro _)
  all_goals first
    | (exfalso; omega)
    | (refine zal rfl (by simp [mx, mxL, zaf, aOf, zbn, zak]) ?_; exact rfl)
theorem zu7 (H : List (List AV)) (n : Nat) (R : AV) (rl : List Nat) (hR : FL H R rl) (hrl : rl.length = n) (Wv : AV) (wl : List Nat) (hW : FL H Wv wl) (hwl : wl.length = n) (hn : n ≤ 64) :
    zaa Tryz.prog 66 [R, Wv] H (.tup [.sl none n (fl (zzc rl wl n)), .int .i64 0]) H := by
  subst hrl
  refine .go Tryz.call66 Tryz.func66 false [46] dOk ?_
  simp only [za0, Nat.reduceAdd]
  repeat' (first
 |(refine zav ?_; (first | refine zbd ?_ | refine zao ?_ | fail))
 |(refine zaw ?_; (first | refine m41 ?_ | refine zb0 ?_ | refine m14 ?_ | (refine m07 ?_; (first | refine m15 ?_ | refine m16 ?_ | refine zdy (FL.app hR _) (by omega) ?_ | refine zdy (FL.app hW _) (by omega) ?_ | fail)) | refine zam (by (conv => {lhs; whnf}); done) (by exact hR.len) ?_ | refine zam (by (conv => {lhs; whnf}); done) (by exact hW.len) ?_ | refine zbz (by (conv => {lhs; whnf}); done) (by (conv => {lhs; whnf}); done) (by exact hR.len) (by omega) ?_ | refine zbz (by (conv => {lhs; whnf}); done) (by (conv => {lhs; whnf}); done) (by exact hW.len) (by omega) ?_ | refine zee (i := 0) (N₀ := []) (by (conv => {lhs; whnf}); done) (by (conv => {lhs; whnf}); done) (by exact rfl) (by exact rfl) (by simp) (by omega) (by exact rfl) (by exact rfl) (l' := fl (rml (zzb rl.length rl wl) (k + 1))) (by exact zg7 (zzb rl.length rl wl) k) ?_ | (refine m00 ?_; (first | refine zbo ((k + 1 : Nat) : Int) (by omega) (by omega) ?_ | refine zbo ((rl.length + 3 : Nat) : Int) (by omega) (by omega) ?_ | refine m54 ?_ | refine m55 ?_ | refine zbx ?_ | refine m47 ?_ | refine m48 ?_ | refine m49 ?_ | refine m50 ?_ | refine v_k ?_ | refine m51 ?_ | fail)) | refine m42 ?_ | refine zab ?_ | refine zac ?_ | refine m08 ?_ | refine zaj ?_ | refine zam (by (conv => {lhs; whnf}); done) (by first | rfl | assumption) ?_ | (refine m46 ?_; (first | refine zbo ((k + 1 : Nat) : Int) (by omega) (by omega) ?_ | refine zbo ((rl.length + 3 : Nat) : Int) (by omega) (by omega) ?_ | refine m54 ?_ | refine m55 ?_ | refine zbx ?_ | refine m47 ?_ | refine m48 ?_ | refine m49 ?_ | refine m50 ?_ | refine v_k ?_ | refine m51 ?_ | fail)) | refine zey (by (conv => {lhs; whnf}); done) (by exact rfl) ?_ | refine zdn (by (conv => {lhs; whnf}); done) ?_ | refine zc2 (by exact rfl) (by exact rfl) (by decide) ?_ | fail))
 |(refine zch ?_; (first | refine m36 ?_ | refine zcf ?_ | fail))
 |(refine zcg ?_; (first | refine zev ?_ | refine zfv ?_ | refine zfw (by (conv => {lhs; whnf}); done) ?_ | refine zfx ?_ | refine zfu (by exact rfl) (by exact rfl) ?_ | refine m34 ?_ | refine m35 ?_ | refine m33 ?_ | refine zew ?_ | refine m56 ?_ | refine zci ?_ | refine zc1 (by exact rfl) ?_ | fail))
 |refine zat ?_ | refine zau ?_ | refine zas ?_
 |(refine zax ?_; (first | refine zar ?_ | refine zad ?_ | (refine m06 ?_; (first | refine c_T ?_ | refine c_F ?_ | refine c_P ?_ ?_ | refine c_B ?_ ?_ | fail)) | refine zaq ?_ | refine zah ?_ | refine zae ?_ | refine b_exit ?_ | refine zan (id := 9) [] [] [(0, .lt), (2, .lt), (3, .lt), (4, .lt), (5, .lt), (6, .ld true), (7, .lt), (1, .mn true), (8, .lt), (9, .lt)] (by kernel_rfl) ?_ | (refine za1 [1, 7, 8, 9, 26, 27, 28] rl.length (fun k => ⟨[(1, .val Wv), (7, .val (.flt (zcy (cn (FloatKind.f64.nearest ((rl.length + 3 : Nat) : Int))) (clK (-52))))), (8, .val (.flt (zcy (cn (FloatKind.f64.nearest ((rl.length + 3 : Nat) : Int))) (clK (-1070))))), (9, .val (gV H.length 0 k)), (26, .val R), (27, .val (.int .i64 ((rl.length : Nat) : Int))), (28, .val (.int .i64 ((k : Nat) : Int)))], [], H ++ ([] ++ gN (fl (rml (zzb rl.length rl wl) k)))⟩) (by exact rfl) ?_ ?_ <;> (first | intro k hk K hK | intro K) <;> (try dsimp only at *)) | fail))
 |refine m43 ?_
 |refine zbv ?_
 |refine m21 ?_
 |refine za4 ?_
 |(refine za5 ?_; (first | refine cA (ztz _ _ _) ?_ | refine cA (zhy _ _) ?_ | fail))
 |refine m44 ?_
 |refine m40 ?_
 |(refine zbc (by (conv => {lhs; simp only [List.nil_append, List.cons_append]}); done) ?_; first | refine ⟨by exact rfl, ?_⟩ | skip)
 |refine zbt ?_
 |(intro N' hN'; simp only [List.nil_append, List.cons_append] at hN'; subst hN')
 |refine zbh ?_ | refine zbi ?_ | refine zbg ?_ | refine m57 ?_
 |refine zdp ?_ | refine zdq ?_ | refine zdo ?_
 |(refine zdr (by exact rfl) ?_; first | exact hK | fail | (exfalso; first | omega | (simp_all; done) | (simp_all; omega)))
 |refine m05 ?_
 |refine m04 ?_ | refine m02 ?_ | refine m03 ?_ | refine zai ?_
 |intro _)
  all_goals first
    | (exfalso; omega)
    | (refine zb5 rfl ?_; exact Fr.tup (Frs.cons (zi0 (N₀ := []) (i := 0) rfl rfl (by simp) (by rw [zak]; exact Nat.zero_le _)) (Frs.cons (Fr.old (by simp [mx])) Frs.nil)))
end
theorem zy4 {P : Program} {cfg : Cfg} {e : List (Nat × EV)} {L : List (Nat × List AV)} {K : St → Prop} {ty : TypeId} {pos : String} {aft : Array Edge} {gd : Option (Nat × Bool)} {dd : Nat}
    {t tx : TypeId} {s x : Operand} {n k by_ el' z' : Nat} {z v : AV} {l l' l0 : List AV} {A : List (List AV)} [ei : EI P t 1 by_ [z]] [si : SlI P tx el' z'] (hs : St.ev ⟨e, L, A ++ ([] ++ (gN l0 ++ gN l))⟩ s = .val (gV n 1 k)) (hx : St.ev ⟨e, L, A ++ ([] ++ (gN l0 ++ gN l))⟩ x = .val (.sl none 1 [v]))
    (hA : A.length = n) (hne : l0 ≠ []) (hk : l.length = k) (hm : k + 1 ≤ 2 ^ 32) (hn : cfg.n0 = n) (hz : (decide (by_ ≤ 2 ^ 10) && decide (0 < by_)) = true) (hl : l ++ [v] = l')
    (h : K ⟨(dd, .val (gV n 1 (k + 1))) :: e, L, A ++ ([] ++ (gN l0 ++ gN l'))⟩) :
    opX P cfg ⟨some dd, .call { callee := .builtin .append, args := #[s, x], argTypes := #[t, tx] }, ty, pos, aft, gd⟩ K ⟨e, L, A ++ ([] ++ (gN l0 ++ gN l))⟩ := by
  exact zee (i := 1) (N₀ := gN l0) hs hx hA (by rw [z4c hne]; rfl) hk hm hn hz hl h
theorem z4d {n k : Nat} {l l0 : List AV} {A : List (List AV)} (hA : A.length = n) (hne : l0 ≠ []) (hk : l.length = k) (hm : mxL l ≤ n) : Fr n [] (A ++ ([] ++ (gN l0 ++ gN l))) (gV n 1 k) (.sl none k l) := zi0 (i := 1) (N₀ := gN l0) hA (by rw [z4c hne]; rfl) hk hm
theorem z4a {g : Nat → Nat} {n : Nat} (h : 0 < n) : fl (rml g n) ≠ [] := by
  intro e
  have := congrArg List.length e
  simp at this; omega
section
attribute [local irreducible] Ex za3 exD opX opE zca zd3 zd4 Spec zaa Fr zb9 zbb zba ckK zb8 zb6 zbu faK zb4 zd1 gK fK rK zeq lpX prK
theorem z04 (H : List (List AV)) (A : AV) (a : Nat → Nat → Nat) (n : Nat) (hA : FL H A (rmA a n n)) (hn1 : 1 ≤ n) (hn : n ≤ 64) (X : AV) (xl : List Nat) (hX : FL H X xl) (hxl : xl.length = n) (B : AV) (bl : List Nat) (hB : FL H B bl) (hbl : bl.length = n) :
    zaa Tryz.prog 25 [mM A n n, X, B] H (.tup [.sl none n (fl (zmf a xl bl n)), .sl none n (fl (wtL a xl bl n))]) H := by
  have hXn : slen X = some n := (by rw [hX.len, hxl])
  have hBn : slen B = some n := (by rw [hB.len, hbl])
  refine .go Tryz.call25 Tryz.func25 false [61, 65] dOk ?_
  simp only [za0, Nat.reduceAdd]
  repeat' (first
 |(refine zav ?_; (first | refine zbd ?_ | refine zao ?_ | fail))
 |(refine zaw ?_; (first | refine m14 ?_ | (refine m17 ?_; first | refine m19 ?_ | refine m18 ?_) | (refine m07 ?_; (first | refine m15 ?_ | refine m16 ?_ | refine zdy (FL.app hX _) (by omega) ?_ | refine zdy (FL.app hB _) (by omega) ?_ | fail)) | refine zbz (by (conv => {lhs; whnf}); done) (by (conv => {lhs; whnf}); done) (by exact hX.len) (by omega) ?_ | refine zbz (by (conv => {lhs; whnf}); done) (by (conv => {lhs; whnf}); done) (by exact hB.len) (by omega) ?_ | refine zy5 (n := H.length) (i := 0) (k := k) (N₀ := []) (G := gN (fl (rml (fun i => wtF a xl bl i n) k))) (l := fl (rml (fun i => zme a xl bl i n) k)) (l' := fl (rml (fun i => zme a xl bl i n) (k + 1))) (by (conv => {lhs; whnf}); done) (by (conv => {lhs; whnf}); done) (by exact rfl) (by exact rfl) (by simp) (fun h => by rw [h]; rfl) (by omega) (by exact rfl) (by exact rfl) (by exact zg7 (fun i => zme a xl bl i n) k) ?_ | refine zy4 (n := H.length) (k := k) (l0 := fl (rml (fun i => zme a xl bl i n) (k + 1))) (l := fl (rml (fun i => wtF a xl bl i n) k)) (l' := fl (rml (fun i => wtF a xl bl i n) (k + 1))) (by (conv => {lhs; whnf}); done) (by (conv => {lhs; whnf}); done) (by exact rfl) (z4a (by omega)) (by simp) (by omega) (by exact rfl) (by exact rfl) (by exact zg7 (fun i => wtF a xl bl i n) k) ?_ | (refine m00 ?_; (first | refine zbo ((k + 1 : Nat) : Int) (by omega) (by omega) ?_ | refine zbo ((t + 1 : Nat) : Int) (by omega) (by omega) ?_ | refine m47 ?_ | refine m48 ?_ | refine m49 ?_ | refine m50 ?_ | refine v_k ?_ | refine m51 ?_ | fail)) | refine m42 ?_ | refine zab ?_ | refine zac ?_ | refine m08 ?_ | refine zaj ?_ | refine m01 ?_ | refine zc2 (by exact rfl) (by exact rfl) (by decide) ?_ | fail))
 |(refine zch ?_; (first | refine m36 ?_ | refine zcf ?_ | fail))
 |(refine zcg ?_; (first | refine zev ?_ | refine zfv ?_ | refine zfw (by (conv => {lhs; whnf}); done) ?_ | refine zfx ?_ | refine zfu (by exact rfl) (by exact rfl) ?_ | refine m34 ?_ | refine m35 ?_ | refine m33 ?_ | refine zew ?_ | refine m56 ?_ | refine zci ?_ | refine zc1 (by exact rfl) ?_ | fail))
 |refine zat ?_ | refine zau ?_ | refine zas ?_
 |(refine zax ?_; (first | refine zar ?_ | refine zad ?_ | (refine m06 ?_; (first | refine c_T ?_ | refine c_F ?_ | refine c_P ?_ ?_ | refine c_B ?_ ?_ | fail)) | refine zaq ?_ | refine zah ?_ | refine zae ?_ | refine b_exit ?_ | refine zan (id := 5) [] [] [(0, .lt), (1, .lt), (2, .lt), (3, .ld true), (4, .lt), (5, .lt), (6, .lt), (7, .ld true), (8, .mn true), (9, .lt), (10, .lt)] (by kernel_rfl) ?_ | refine zan (id := 9) [] [] [(0, .lt), (1, .ld true), (2, .lt), (3, .lt), (5, .lt), (6, .lt), (7, .lt), (8, .ld true), (4, .mn true), (9, .mn true), (10, .mn true), (11, .lt)] (by kernel_rfl) ?_ | refine zan (id := 10) [] [] [(0, .lt), (1, .ld true), (2, .lt), (3, .lt), (6, .lt), (7, .lt), (8, .lt), (9, .ld true), (4, .mn true), (5, .mn true), (10, .mn true), (11, .mn true), (12, .mn true), (13, .lt)] (by kernel_rfl) ?_ | (refine za1 [1, 2, 3, 8, 9, 10, 11, 12, 13] n (fun t => ⟨[(1, .val X), (2, .val B), (3, .loc 3 0), (8, .val (gV H.length 0 k)), (9, .val (gV H.length 1 k)), (10, .val (.int .i64 ((k : Nat) : Int))), (11, .val (.flt (zme a xl bl k t))), (12, .val (.flt (wtF a xl bl k t))), (13, .val (.int .i64 ((t : Nat) : Int)))], [(3, [.int .i64 (n : Int), .int .i64 (n : Int), A])], H ++ ([] ++ (gN (fl (rml (fun i => zme a xl bl i n) k)) ++ gN (fl (rml (fun i => wtF a xl bl i n) k))))⟩) (by exact rfl) ?_ ?_ <;> (first | intro t ht K hK | intro K) <;> (try dsimp only at *)) | (refine za1 [1, 2, 3, 8, 9, 10] n (fun k => ⟨[(1, .val X), (2, .val B), (3, .loc 3 0), (8, .val (gV H.length 0 k)), (9, .val (gV H.length 1 k)), (10, .val (.int .i64 ((k : Nat) : Int)))], [(3, [.int .i64 (n : Int), .int .i64 (n : Int), A])], H ++ ([] ++ (gN (fl (rml (fun i => zme a xl bl i n) k)) ++ gN (fl (rml (fun i => wtF a xl bl i n) k))))⟩) (by exact rfl) ?_ ?_ <;> (first | intro k hk K hK | intro K) <;> (try dsimp only at *)) | fail))
 |refine m21 ?_
 |refine za4 ?_
 |(refine za5 ?_; (first | refine cA (zqn _ A a n n (FL.app hA _) (by omega) (by omega) k t (by omega) (by omega)) ?_ | refine cA (zj9 _ _) ?_ | refine cA (zjj _ _ _) ?_ | refine cA (zox _ _ _) ?_ | refine cA (zsr _ _ _) ?_ | refine cA (zk7 _ _ _) ?_ | refine cA (zea _ _ _) ?_ | fail))
 |refine m44 ?_
 |refine m40 ?_
 |(refine zbc (by (conv => {lhs; simp only [List.nil_append, List.cons_append]}); done) ?_; first | refine ⟨by exact rfl, ?_⟩ | skip)
 |refine zbt ?_
 |(intro N' hN'; simp only [List.nil_append, List.cons_append] at hN'; subst hN')
 |refine zbh ?_ | refine zbi ?_ | refine zbg ?_ | refine m57 ?_
 |refine zdp ?_ | refine zdq ?_ | refine zdo ?_
 |(refine zdr (by exact rfl) ?_; first | exact hK | fail | (exfalso; first | omega | (simp_all; done) | (simp_all; omega)))
 |refine m05 ?_
 |refine m04 ?_ | refine m02 ?_ | refine m03 ?_ | refine zai ?_
 |intro _)
  all_goals first
    | (exfalso; omega)
    | (refine zb5 rfl ?_; exact Fr.tup (Frs.cons (z4e (N₀ := []) (i := 0) rfl rfl (by simp) (by rw [zak]; exact Nat.zero_le _)) (Frs.cons (z4d rfl (z4a (by omega)) (by simp) (by rw [zak]; exact Nat.zero_le _)) Frs.nil)))
theorem ztq (H : List (List AV)) (n : Nat) (R : AV) (rl : List Nat) (hR : FL H R rl) (hrl : rl.length = n) (Wv : AV) (wl : List Nat) (hW : FL H Wv wl) (hwl : wl.length = n) (hn : n ≤ 64) :
    zaa Tryz.prog 26 [R, Wv] H (.sl none n (fl (zzc rl wl n))) H := by
  subst hrl
  refine .go Tryz.call26 Tryz.func26 false [37] dOk ?_
  simp only [za0, Nat.reduceAdd]
  repeat' (first
 |(refine zav ?_; (first | refine zbd ?_ | refine zao ?_ | fail))
 |(refine zaw ?_; (first | refine m14 ?_ | (refine m07 ?_; (first | refine m15 ?_ | refine m16 ?_ | refine zdy (FL.app hR _) (by omega) ?_ | refine zdy (FL.app hW _) (by omega) ?_ | fail)) | refine zam (by (conv => {lhs; whnf}); done) (by exact hR.len) ?_ | refine zbz (by (conv => {lhs; whnf}); done) (by (conv => {lhs; whnf}); done) (by exact hR.len) (by omega) ?_ | refine zbz (by (conv => {lhs; whnf}); done) (by (conv => {lhs; whnf}); done) (by exact hW.len) (by omega) ?_ | refine zee (i := 0) (N₀ := []) (by (conv => {lhs; whnf}); done) (by (conv => {lhs; whnf}); done) (by exact rfl) (by exact rfl) (by simp) (by omega) (by exact rfl) (by exact rfl) (l' := fl (rml (zzb rl.length rl wl) (k + 1))) (by exact zg7 (zzb rl.length rl wl) k) ?_ | (refine m00 ?_; (first | refine zbo ((k + 1 : Nat) : Int) (by omega) (by omega) ?_ | refine zbo ((rl.length + 3 : Nat) : Int) (by omega) (by omega) ?_ | refine m47 ?_ | refine m48 ?_ | refine m49 ?_ | refine m50 ?_ | refine v_k ?_ | refine m51 ?_ | fail)) | refine m42 ?_ | refine zab ?_ | refine zac ?_ | refine m08 ?_ | refine zaj ?_ | refine zam (by (conv => {lhs; whnf}); done) (by first | rfl | assumption) ?_ | (refine m46 ?_; (first | refine zbo ((k + 1 : Nat) : Int) (by omega) (by omega) ?_ | refine zbo ((rl.length + 3 : Nat) : Int) (by omega) (by omega) ?_ | refine m47 ?_ | refine m48 ?_ | refine m49 ?_ | refine m50 ?_ | refine v_k ?_ | refine m51 ?_ | fail)) | refine zey (by (conv => {lhs; whnf}); done) (by exact rfl) ?_ | refine zdn (by (conv => {lhs; whnf}); done) ?_ | refine zc2 (by exact rfl) (by exact rfl) (by decide) ?_ | fail))
 |(refine zch ?_; (first | refine m36 ?_ | refine zcf ?_ | fail))
 |(refine zcg ?_; (first | refine zev ?_ | refine zfv ?_ | refine zfw (by (conv => {lhs; whnf}); done) ?_ | refine zfx ?_ | refine zfu (by exact rfl) (by exact rfl) ?_ | refine m34 ?_ | refine m35 ?_ | refine m33 ?_ | refine zew ?_ | refine m56 ?_ | refine zci ?_ | refine zc1 (by exact rfl) ?_ | fail))
 |refine zat ?_ | refine zau ?_ | refine zas ?_
 |(refine zax ?_; (first | refine zar ?_ | refine zad ?_ | (refine m06 ?_; (first | refine c_T ?_ | refine c_F ?_ | refine c_P ?_ ?_ | refine c_B ?_ ?_ | fail)) | refine zaq ?_ | refine zah ?_ | refine zae ?_ | refine b_exit ?_ | refine zan (id := 6) [] [] [(0, .lt), (1, .lt), (2, .lt), (3, .ld true), (5, .lt), (7, .lt), (8, .lt), (9, .lt), (10, .ld true), (4, .mn true), (6, .mn true), (11, .mn true), (12, .mn true), (13, .lt)] (by kernel_rfl) ?_ | (refine za1 [0, 1, 5, 6, 7] rl.length (fun k => ⟨[(0, .val R), (1, .val Wv), (5, .val (gV H.length 0 k)), (6, .val (.flt (cn (FloatKind.f64.nearest ((rl.length + 3 : Nat) : Int))))), (7, .val (.int .i64 ((k : Nat) : Int)))], [], H ++ ([] ++ gN (fl (rml (zzb rl.length rl wl) k)))⟩) (by exact rfl) ?_ ?_ <;> (first | intro k hk K hK | intro K) <;> (try dsimp only at *)) | fail))
 |refine m43 ?_
 |refine zbv ?_
 |refine m21 ?_
 |refine za4 ?_
 |(refine za5 ?_; (first | refine cA (zj9 _ _) ?_ | refine cA (zjj _ _ _) ?_ | refine cA (zox _ _ _) ?_ | refine cA (zsr _ _ _) ?_ | refine cA (zk7 _ _ _) ?_ | refine cA (zea _ _ _) ?_ | fail))
 |refine m44 ?_
 |refine m40 ?_
 |(refine zbc (by (conv => {lhs; simp only [List.nil_append, List.cons_append]}); done) ?_; first | refine ⟨by exact rfl, ?_⟩ | skip)
 |refine zbt ?_
 |(intro N' hN'; simp only [List.nil_append, List.cons_append] at hN'; subst hN')
 |refine zbh ?_ | refine zbi ?_ | refine zbg ?_ | refine m57 ?_
 |refine zdp ?_ | refine zdq ?_ | refine zdo ?_
 |(refine zdr (by exact rfl) ?_; first | exact hK | fail | (exfalso; first | omega | (simp_all; done) | (simp_all; omega)))
 |refine m05 ?_
 |refine m04 ?_ | refine m02 ?_ | refine m03 ?_ | refine zai ?_
 |intro _)
  all_goals first
    | (exfalso; omega)
    | (refine zb5 rfl ?_; exact zi0 (N₀ := []) (i := 0) rfl rfl (by simp) (by rw [zak]; exact Nat.zero_le _))
end
end Go.Sx
