/- A part of the proofs of this seat: YJ. No condition is set. -/
import Derived.Test.YtdlgclpoomlijaaYF
import Derived.Test.YtdlgclpoomlijaaYI
set_option maxHeartbeats 8000000
set_option linter.unusedVariables false
set_option linter.unusedSimpArgs false
set_option maxRecDepth 20000
namespace Go.Sx
open Go.Proofs
section
variable {P : Program} {cfg : Cfg} {e : List (Nat × EV)} {L : List (Nat × List AV)} {A N N' : List (List AV)} {K : St → Prop} {ty : TypeId} {pos : String} {aft : Array Edge} {gd : Option (Nat × Bool)} {dd : Nat}
theorem zlu {t : TypeId} {x v : Operand} {n j g len sz off k0 : Nat} {a : Bool} {cs vs cs' : List AV} {ev : EV} [ti : TyI P t k0 a] (hx : St.ev ⟨e, L, A ++ N⟩ x = .val (.eptr (.slm (n + j) g 0 len sz) off)) (hv : St.ev ⟨e, L, A ++ N⟩ v = ev) (hvs : ev.asV.bind AV.cells = some vs) (hn : vs.length = k0)
    (hA : A.length = n) (hj : N[j]? = some cs) (hg : cs.length = g) (hle : off + vs.length ≤ cs.length) (hmx : cfg.n0 ≤ n) (hcs : sc cs off vs = cs') (hN : N.set j cs' = N') (h : K ⟨e, L, A ++ N'⟩) :
    opX P cfg ⟨none, .store t x v, ty, pos, aft, gd⟩ K ⟨e, L, A ++ N⟩ := by
  refine zss (cs' := cs') hx hv hvs hn (zbg hA hj) hg (by omega) (.inl (by omega)) (by rw [Nat.zero_add]; exact hcs) ?_
  rw [zea hA hN]; exact h
theorem zsq {t : TypeId} {k : IntKind} [ar : ArrI P t k] {x : Operand} {s : AV} {off n m : Nat} {H : List (List AV)} (hx : St.ev ⟨e, L, H⟩ x = .val (.eptr s off)) (hn : n < 2) (hm : off + n = m) (h : K ⟨(dd, .val (.eptr s m)) :: e, L, H⟩) :
    opX P cfg ⟨some dd, .indexAddr t x (.const (.int .i64 (n : Int))), ty, pos, aft, gd⟩ K ⟨e, L, H⟩ := by
  subst hm
  rw [zbu P cfg e L H K _ _ _ _ _ _ rfl]
  obtain ⟨el, h1, h2, h3⟩ := ar.h
  have ht : zen P t = none := by simp [zen, h1]
  have hta : zyv P t = some (2, el) := by simp [zyv, h1]
  have hc : zlp ((St.ev ⟨e, L, H⟩) (.const (.int .i64 (n : Int)))) = some (n : Int) := rfl
  have : zas P (St.ev ⟨e, L, H⟩) (lk L) H (.indexAddr t x (.const (.int .i64 (n : Int)))) = some (0 ≤ (n : Int) ∧ (n : Int) < (2 : Nat), .val (.eptr s (off + n))) := by
    simp only [zas, ht, hc, hta, Option.bind_some, h2, hx, Int.toNat_natCast, Nat.mul_one]
  rw [this]
  exact ⟨by omega, h⟩
end
theorem z4s {H : List (List AV)} {B0 B1 B3 : List AV} {s : Int} {n : Nat} {g : Nat → Nat → Nat} {k i : Nat} {R : List (List AV)} : (fN5 H B0 B1 B3 s n g k R)[5 + i]? = R[i]? := by
  rw [Nat.add_comm]; rfl
theorem z3b {H : List (List AV)} {B0 B1 B3 : List AV} {s : Int} {n : Nat} {g : Nat → Nat → Nat} {k i : Nat} {R : List (List AV)} {y : List AV} : (fN5 H B0 B1 B3 s n g k R).set (5 + i) y = fN5 H B0 B1 B3 s n g k (R.set i y) := by
  rw [Nat.add_comm]; rfl
theorem zwv {H : List (List AV)} {B0 B1 B3 : List AV} {s : Int} {n : Nat} {g : Nat → Nat → Nat} {k t : Nat} {c : Nat → List AV} {l : List Int} : (fN5 H B0 B1 B3 s n g k (fQ c l t)).length = 5 + fQl t := by
  simp only [fN5, List.length_cons, zwx]; omega
theorem zkn {H : List (List AV)} {B0 B1 B3 : List AV} {s : Int} {n : Nat} {g : Nat → Nat → Nat} {k t : Nat} {c : Nat → List AV} {l : List Int} {x : List AV} : (fN5 H B0 B1 B3 s n g k (fQ c l t ++ [x]))[5 + fQl t]? = some x := by
  rw [z4s]; exact zjl (zwx c l t).symm
theorem zpx {H : List (List AV)} {B0 B1 B3 : List AV} {s : Int} {n : Nat} {g : Nat → Nat → Nat} {k t : Nat} {c : Nat → List AV} {l : List Int} {x y : List AV} : (fN5 H B0 B1 B3 s n g k (fQ c l t ++ [x])).set (5 + fQl t) y = fN5 H B0 B1 B3 s n g k (fQ c l t ++ [y]) := by
  rw [z3b]; congr 1; exact zno (zwx c l t).symm
theorem z5u (c : Nat → List AV) (l : List Int) : ∀ t, (fQ c l (t + 1))[fQl t]? = some (c t)
  | 0 => rfl
  | t + 1 => zjl (zko c l t).symm
theorem z4t {H : List (List AV)} {B0 B1 B3 : List AV} {s : Int} {n : Nat} {g : Nat → Nat → Nat} {k t : Nat} {c : Nat → List AV} {l : List Int} : (fN5 H B0 B1 B3 s n g k (fQ c l (t + 1)))[5 + fQl t]? = some (c t) := by
  rw [z4s]; exact z5u c l t
theorem z3c {H : List (List AV)} {B0 B1 B3 : List AV} {s : Int} {n : Nat} {g : Nat → Nat → Nat} {k k' T : Nat} {c : Nat → List AV} {l : List Int} (hk : l.length = k') (hT : k' = 0 ∨ 0 < T) : Fr H.length [] (H ++ fN5 H B0 B1 B3 s n g k (fQ c l T)) (gV H.length 6 k') (.sl none k' (il l)) := by
  by_cases h0 : k' = 0
  · subst h0
    have e : l = [] := List.eq_nil_of_length_eq_zero hk
    subst e
    show Fr H.length [] _ .slnil (.sl none 0 [])
    exact Fr.nil
  · obtain ⟨t, rfl⟩ : ∃ t, T = t + 1 := ⟨T - 1, by omega⟩
    have e : gV H.length 6 k' = .slm (H.length + 6) k' 0 k' 1 := if_neg h0
    rw [e]
    exact Fr.fz (by omega) (by simp) (zbg rfl (ztb c l t)) (by simpa using hk) (zfy _ (by simp [hk])) (Frs.old (by rw [zky]; exact Nat.zero_le _))
attribute [local irreducible] Ex zau exD opX opE zdh zfd zfl Spec zaa Fr zdg zbf zbe ckK zcq zda zbo faK zcz ze4 gK fK rK zgd lpX prK
theorem zg2 :
    (∀ (H : List (List AV)) (D : AV) (l : List Nat) (hF : FL H D l) (off ld : Int) (rows cols : Int) (hI : MI l.length off rows cols ld) (s : Int) (hs0 : -9223372036854775808 ≤ s) (hs2 : s ≤ 9223372036854775807) (hb : ¬ (1 ≤ s ∧ zac l.length off rows cols ld)), zaa Try.prog 26 [mt D off rows cols ld, .int .i64 s] H (.tup [.agg [.slnil, .int .i64 0, .int .i64 0, .int .i64 0, .int .i64 0, .slnil], .int .i64 0, .int .i64 1]) H) ∧
    (∀ (H : List (List AV)) (D : AV) (l : List Nat) (hF : FL H D l) (off ld : Int) (rows cols : Int) (hI : MI l.length off rows cols ld) (s : Int) (hs0 : -9223372036854775808 ≤ s) (hs2 : s ≤ 9223372036854775807) (hs1 : 1 ≤ s) (hG : zac l.length off rows cols ld) (hne : rows ≠ cols), zaa Try.prog 26 [mt D off rows cols ld, .int .i64 s] H (.tup [.agg [.slnil, .int .i64 0, .int .i64 0, .int .i64 0, .int .i64 0, .slnil], .int .i64 0, .int .i64 3]) H) := by
  refine ⟨?_, ?_⟩
  (intro H D l hF off ld rows cols hI s hs0 hs2 hb
   obtain ⟨hm, ho1, ho2, hr1, hr2, hc1, hc2, hl1, hl2⟩ := id hI
   refine .go Try.call26 Try.func26 false [] dOk ?_
   simp only [zbp, Nat.reduceAdd])
  rotate_left
  (intro H D l hF off ld rows cols hI s hs0 hs2 hs1 hG hne
   obtain ⟨hm, ho1, ho2, hr1, hr2, hc1, hc2, hl1, hl2⟩ := id hI
   refine .go Try.call26 Try.func26 false [] dOk ?_
   simp only [zbp, Nat.reduceAdd])
  rotate_left
  all_goals (repeat' (first
 |(refine za4 ?_; (first | refine zcm ?_ | refine zay ?_ | refine m13 ?_ | refine m12 ?_ | refine m11 ?_ | (refine m10 ?_; (first | refine zci ?_ | refine zcd ?_ | refine zch ?_ | refine zce ?_ | refine zcg ?_ ?_ | refine zcf ?_ ?_ | refine zcc ?_ ?_ | refine zcb ?_ ?_ | fail)) | (refine m09 ?_; (first | refine zci ?_ | refine zcd ?_ | refine zch ?_ | refine zce ?_ | refine zcg ?_ ?_ | refine zcf ?_ ?_ | refine zcc ?_ ?_ | refine zcb ?_ ?_ | fail)) | refine m38 ?_ | fail))
 |(refine za5 ?_; (first | refine m41 ?_ | refine zbj ?_ | refine m14 ?_ | (refine m17 ?_; first | refine m19 ?_ | refine m18 ?_) | (refine m07 ?_; (first | refine m15 ?_ | refine m16 ?_ | fail)) | (refine m00 ?_; (first | refine m54 ?_ | refine m55 ?_ | refine zck ?_ | refine m47 ?_ | refine m48 ?_ | refine m49 ?_ | refine m50 ?_ | refine zdk ?_ | refine zdi ?_ | refine zdj ?_ | refine v_k ?_ | refine m51 ?_ | fail)) | (refine m22 ?_; (first | refine m26 ?_ | refine m27 ?_ | fail)) | refine m42 ?_ | refine zad ?_ | refine zae ?_ | refine m08 ?_ | (refine m20 ?_; (first | refine m54 ?_ | refine m55 ?_ | refine zck ?_ | refine m47 ?_ | refine m48 ?_ | refine m49 ?_ | refine m50 ?_ | refine zdk ?_ | refine zdi ?_ | refine zdj ?_ | refine v_k ?_ | refine m51 ?_ | fail)) | refine zao ?_ | refine zbm (by (conv => {lhs; whnf}); done) (by first | rfl | assumption) ?_ | refine m23 ?_ | refine m25 ?_ | refine m01 ?_ | refine m24 ?_ | refine zco ?_ | fail))
 |(refine zcv ?_; (first | refine m36 ?_ | refine zct ?_ | refine m32 ?_ | refine m31 ?_ | refine m30 ?_ | (refine m28 ?_; (first | refine zca ?_ | refine zb5 ?_ | refine zb9 ?_ | refine zb6 ?_ | refine zb8 ?_ ?_ | refine zb7 ?_ ?_ | refine zb4 ?_ ?_ | refine zb3 ?_ ?_ | fail)) | (refine m29 ?_; (first | refine zca ?_ | refine zb5 ?_ | refine zb9 ?_ | refine zb6 ?_ | refine zb8 ?_ ?_ | refine zb7 ?_ ?_ | refine zb4 ?_ ?_ | refine zb3 ?_ ?_ | fail)) | refine m37 ?_ | fail))
 |(refine zcu ?_; (first | refine zfe ?_ | refine zh6 ?_ | refine zh7 (by (conv => {lhs; whnf}); done) ?_ | refine zh8 ?_ | refine zh5 (by exact rfl) (by exact rfl) ?_ | refine m34 ?_ | refine m35 ?_ | refine m33 ?_ | refine zff ?_ | refine m56 ?_ | refine zcw ?_ | refine zdr (by exact rfl) ?_ | fail))
 |refine za2 ?_ | refine za3 ?_ | refine za1 ?_
 |(refine za6 ?_; (first | refine za0 ?_ | refine zab ?_ | (refine m06 ?_; (first | refine c_T ?_ | refine c_F ?_ | refine c_P ?_ ?_ | refine c_B ?_ ?_ | fail)) | refine zaz ?_ | refine zaq ?_ | refine zai ?_ | refine b_exit ?_ | refine zax (id := 17) [4] [] [(0, .ld true), (1, .lt), (2, .lt), (3, .lt), (4, .ld true), (5, .lt), (6, .mn true), (7, .lt), (8, .lt)] (by kernel_rfl) ?_ | fail))
 |refine m43 ?_
 |refine zcs ?_
 |refine m21 ?_
 |refine zbb ?_
 |(refine zbd ?_; (first | refine cA (zd1 _ D l.length off _ _ ld hF.len hI) ?_ | fail))
 |refine m58 ?_
 |refine zdu ?_
 |refine zbz ?_ | refine zb0 ?_ | refine zby ?_ | refine m57 ?_
 |refine zfn ?_ | refine zfo ?_ | refine zfm ?_
 |(refine zfp (by exact rfl) ?_; first | exact hK | (exfalso; first | omega | (simp_all; done) | (simp_all; omega)))
 |refine m05 ?_
 |refine m04 ?_ | refine m02 ?_ | refine m03 ?_ | refine zar ?_
 |intro _))
  all_goals first
    | (exfalso; contradiction)
    | (exfalso; omega)
    | (exfalso; simp_all; done)
    | (exfalso; simp_all; omega)
    | (refine zan rfl (by simp [mx, mxL, zaf, aOf, zb1]) ?_; exact rfl)
theorem zzk : type_of% @zg2.1 := @zg2.1
theorem zzl : type_of% @zg2.2 := @zg2.2
theorem zu9 (H : List (List AV)) (D : AV) (l : List Nat) (hF : FL H D l) (off ld : Int) (n : Nat) (hI : MI l.length off n n ld) (hG : zac l.length off n n ld) (hn : n ≤ 64) (g : Nat → Nat → Nat) (hg : g = mel l off ld) (s : Int) (hs1 : 1 ≤ s) (hs2 : s ≤ 9223372036854775807) (hN : fN g n = n) :
    zaa Try.prog 26 [mt D off n n ld, .int .i64 s] H (.tup [.agg [.sl none (n * n) (fl (cmA (stG g n n) n n)), .int .i64 0, .int .i64 (n : Int), .int .i64 (n : Int), .int .i64 ((max n 1 : Nat) : Int), .sl none n (il (pvL g n n))], .int .i64 0, .int .i64 0]) H := by
  obtain ⟨hm, ho1, ho2, hr1, hr2, hc1, hc2, hl1, hl2⟩ := id hI
  obtain ⟨T, Q, hC, hB⟩ := zn4 n (by omega) s hs1 hs2
  have hTn := hC.t_le
  have hall : ∀ t, t < T → ∀ k, k < Q (t + 1) → sgK g n k = false := fun t ht k hk => zww (by have := (hC.ltn ht).2; omega)
  have hZ : fN5 H [D, .int .i64 off, .int .i64 (n : Int), .int .i64 (n : Int), .int .i64 ld] [.slnil, .int .i64 0, .int .i64 0, .int .i64 0, .int .i64 0, .slnil] [.slm (H.length + 2) (n * n) 0 (n * n) 1, .int .i64 0, .int .i64 (n : Int), .int .i64 (n : Int), .int .i64 ((max n 1 : Nat) : Int)] s n (stG g n (Q 0)) (Q 0) (fQ (fun t => [.int .i64 (Q t : Int), .int .i64 ((Q (t + 1) - Q t : Nat) : Int)]) (pvL g n (Q 0)) 0) = [[D, .int .i64 off, .int .i64 (n : Int), .int .i64 (n : Int), .int .i64 ld], [.slnil, .int .i64 0, .int .i64 0, .int .i64 0, .int .i64 0, .slnil], fl (cmA g n n), [.slm (H.length + 2) (n * n) 0 (n * n) 1, .int .i64 0, .int .i64 (n : Int), .int .i64 (n : Int), .int .i64 ((max n 1 : Nat) : Int)], wC s (H.length + 2) n .slnil] := by rw [hC.zero]; rfl
  refine .go Try.call26 Try.func26 true [] dOk ?_
  simp only [zbp, Nat.reduceAdd]
  repeat' (first
 |(refine za4 ?_; (first | refine zcm ?_ | refine zay ?_ | refine m13 ?_ | refine m12 ?_ | refine m11 ?_ | (refine m10 ?_; (first | refine zci ?_ | refine zcd ?_ | refine zch ?_ | refine zce ?_ | refine zcg ?_ ?_ | refine zcf ?_ ?_ | refine zcc ?_ ?_ | refine zcb ?_ ?_ | fail)) | (refine m09 ?_; (first | refine zci ?_ | refine zcd ?_ | refine zch ?_ | refine zce ?_ | refine zcg ?_ ?_ | refine zcf ?_ ?_ | refine zcc ?_ ?_ | refine zcb ?_ ?_ | fail)) | refine m38 ?_ | fail))
 |(refine za5 ?_; (first | refine m41 ?_ | refine zbj ?_ | refine m14 ?_ | (refine m17 ?_; first | refine m19 ?_ | refine m18 ?_) | (refine m07 ?_; (first | refine m15 ?_ | refine m16 ?_ | refine z0h (by exact rfl) (by exact rfl) (by exact rfl) (by exact rfl) ?_ | refine zqn (by exact rfl) (by exact rfl) (by exact rfl) (by exact rfl) ?_ | refine zxa (show t < T by omega) ?_ | refine zqn (by exact rfl) zkn (by exact rfl) (by exact rfl) ?_ | refine zqn (by exact rfl) z4t (by exact rfl) (by exact rfl) ?_ | fail)) | refine zsq (n := 0) (by (conv => {lhs; whnf}); done) (by omega) (by exact rfl) ?_ | refine zsq (n := 1) (by (conv => {lhs; whnf}); done) (by omega) (by exact rfl) ?_ | refine zpc (i := t) (by (conv => {lhs; whnf}); done) (by (conv => {lhs; whnf}); done) (by exact rfl) (by exact rfl) (by omega) ?_ | refine zbm (by (conv => {lhs; whnf}); done) (by exact rfl) ?_ | refine zek (by (conv => {lhs; whnf}); done) ?_ | refine zfs (i := 5 + fQl t) (by exact rfl) (by exact rfl) (by exact zwv) (N' := fN5 H [D, .int .i64 off, .int .i64 (n : Int), .int .i64 (n : Int), .int .i64 ld] [.slnil, .int .i64 0, .int .i64 0, .int .i64 0, .int .i64 0, .slnil] [.slm (H.length + 2) (n * n) 0 (n * n) 1, .int .i64 0, .int .i64 (n : Int), .int .i64 (n : Int), .int .i64 ((max n 1 : Nat) : Int)] s n (stG g n (Q t)) (Q t) ((fQ (fun t => [.int .i64 (Q t : Int), .int .i64 ((Q (t + 1) - Q t : Nat) : Int)]) (pvL g n (Q t)) t) ++ [_])) (by exact rfl) ?_ | refine zms (by (conv => {lhs; whnf}); done) (by exact rfl) (by exact rfl) (by exact rfl) (by exact rfl) (by (conv => {lhs; simp only [List.nil_append, List.cons_append]}); done) ?_ | refine zfs (by exact rfl) (by exact rfl) (by exact rfl) (by (conv => {lhs; simp only [List.nil_append, List.cons_append]}); done) ?_ | refine zlu (j := 5 + fQl t) (cs' := [.int .i64 (Q t : Int), .int .i64 ((Q (t + 1) - Q t : Nat) : Int)]) (by (conv => {lhs; whnf}); done) (by (conv => {lhs; whnf}); done) (by exact rfl) (by exact rfl) (by exact rfl) (by exact zkn) (by exact rfl) (by exact Nat.le_of_ble_eq_true rfl) (Nat.le_refl _) (by exact rfl) (by exact zpx) ?_ | refine zlu (j := 1) (cs' := [.slm (H.length + 2) (n * n) 0 (n * n) 1, .int .i64 0, .int .i64 (n : Int), .int .i64 (n : Int), .int .i64 ((max n 1 : Nat) : Int), gV H.length 6 (Q T)]) (N' := fN5 H [D, .int .i64 off, .int .i64 (n : Int), .int .i64 (n : Int), .int .i64 ld] [.slm (H.length + 2) (n * n) 0 (n * n) 1, .int .i64 0, .int .i64 (n : Int), .int .i64 (n : Int), .int .i64 ((max n 1 : Nat) : Int), gV H.length 6 (Q T)] [.slm (H.length + 2) (n * n) 0 (n * n) 1, .int .i64 0, .int .i64 (n : Int), .int .i64 (n : Int), .int .i64 ((max n 1 : Nat) : Int)] s n (stG g n (Q T)) (Q T) (fQ (fun t => [.int .i64 (Q t : Int), .int .i64 ((Q (t + 1) - Q t : Nat) : Int)]) (pvL g n (Q T)) T)) (by (conv => {lhs; whnf}); done) (by (conv => {lhs; whnf}); done) (by exact rfl) (by exact rfl) (by exact rfl) (by exact rfl) (by exact rfl) (by exact Nat.le_of_ble_eq_true rfl) (Nat.le_refl _) (by exact rfl) (by exact rfl) ?_ | refine zlu (by (conv => {lhs; whnf}); done) (by (conv => {lhs; whnf}); done) (by exact rfl) (by exact rfl) (by exact rfl) (by exact rfl) (by exact rfl) (by exact Nat.le_of_ble_eq_true rfl) (Nat.le_refl _) (by exact rfl) (by exact rfl) ?_ | (refine m00 ?_; (first | refine zbk ((t + 1 : Nat) : Int) (by omega) (by omega) ?_ | refine m54 ?_ | refine m55 ?_ | refine zck ?_ | refine m47 ?_ | refine m48 ?_ | refine m49 ?_ | refine m50 ?_ | refine zdk ?_ | refine zdi ?_ | refine zdj ?_ | refine v_k ?_ | refine m51 ?_ | fail)) | (refine m22 ?_; (first | refine m26 ?_ | refine m27 ?_ | fail)) | refine m42 ?_ | refine zad ?_ | refine zae ?_ | refine m08 ?_ | (refine m20 ?_; (first | refine zbk ((t + 1 : Nat) : Int) (by omega) (by omega) ?_ | refine m54 ?_ | refine m55 ?_ | refine zck ?_ | refine m47 ?_ | refine m48 ?_ | refine m49 ?_ | refine m50 ?_ | refine zdk ?_ | refine zdi ?_ | refine zdj ?_ | refine v_k ?_ | refine m51 ?_ | fail)) | refine zao ?_ | refine zbm (by (conv => {lhs; whnf}); done) (by first | rfl | assumption) ?_ | refine m23 ?_ | refine zn0 (by (conv => {lhs; whnf}); done) (by (conv => {lhs; whnf}); done) (by first | exact (by exact rfl) | exact za8 (zhn _ _ _) | fail) (by exact rfl) (by exact rfl) (by exact Nat.le_of_ble_eq_true rfl) (by (conv => {lhs; simp only [sc, List.set_cons_zero, List.set_cons_succ]}); done) ?_ | refine m01 ?_ | refine m24 ?_ | refine zco ?_ | fail))
 |(refine zcv ?_; (first | refine m36 ?_ | refine zct ?_ | refine m32 ?_ | refine m31 ?_ | refine m30 ?_ | (refine m28 ?_; (first | refine zca ?_ | refine zb5 ?_ | refine zb9 ?_ | refine zb6 ?_ | refine zb8 ?_ ?_ | refine zb7 ?_ ?_ | refine zb4 ?_ ?_ | refine zb3 ?_ ?_ | fail)) | (refine m29 ?_; (first | refine zca ?_ | refine zb5 ?_ | refine zb9 ?_ | refine zb6 ?_ | refine zb8 ?_ ?_ | refine zb7 ?_ ?_ | refine zb4 ?_ ?_ | refine zb3 ?_ ?_ | fail)) | refine m37 ?_ | fail))
 |(refine zcu ?_; (first | refine zfe ?_ | refine zh6 ?_ | refine zh7 (by (conv => {lhs; whnf}); done) ?_ | refine zh8 ?_ | refine zh5 (by exact rfl) (by exact rfl) ?_ | refine m34 ?_ | refine m35 ?_ | refine m33 ?_ | refine zff ?_ | refine m56 ?_ | refine zcw ?_ | refine zdr (by exact rfl) ?_ | fail))
 |refine za2 ?_ | refine za3 ?_ | refine za1 ?_
 |(refine za6 ?_; (first | refine za0 ?_ | refine zab ?_ | (refine m06 ?_; (first | refine c_T ?_ | refine c_F ?_ | refine c_P ?_ ?_ | refine c_B ?_ ?_ | fail)) | refine zaz ?_ | refine zaq ?_ | refine zai ?_ | refine b_exit ?_ | refine zax (id := 17) [] [6] [(0, .ld true), (1, .lt), (2, .lt), (3, .lt), (4, .ld true), (5, .lt), (6, .mn false), (7, .lt), (8, .lt)] (by kernel_rfl) ?_ | (refine zbc [4, 7, 8, 47, 48, 49] T (fun t => ⟨[(4, .val (.eptr (.slm (H.length + 1) 6 0 1 6) 0)), (7, .val (.eptr (.slm (H.length + 3) 5 0 1 5) 0)), (8, .val (wP (H.length + 4))), (47, .val (cuV T Q)), (48, .val (.int .i64 ((T : Nat) : Int))), (49, .val (.int .i64 ((t : Nat) : Int)))], [], H ++ fN5 H [D, .int .i64 off, .int .i64 (n : Int), .int .i64 (n : Int), .int .i64 ld] [.slnil, .int .i64 0, .int .i64 0, .int .i64 0, .int .i64 0, .slnil] [.slm (H.length + 2) (n * n) 0 (n * n) 1, .int .i64 0, .int .i64 (n : Int), .int .i64 (n : Int), .int .i64 ((max n 1 : Nat) : Int)] s n (stG g n (Q t)) (Q t) (fQ (fun t => [.int .i64 (Q t : Int), .int .i64 ((Q (t + 1) - Q t : Nat) : Int)]) (pvL g n (Q t)) t)⟩) (by simp only [hZ]; exact rfl) ?_ ?_ <;> (first | intro t ht K hK | intro K) <;> (try dsimp only at *)) | fail))
 |refine m43 ?_
 |refine zcs ?_
 |refine m21 ?_
 |refine zbb ?_
 |(refine zbd ?_; (first | refine cA (zd1 _ D l.length off _ _ ld hF.len hI) ?_ | refine cA (zi8 _ (H ++ [[D, .int .i64 off, .int .i64 (n : Int), .int .i64 (n : Int), .int .i64 ld], [.slnil, .int .i64 0, .int .i64 0, .int .i64 0, .int .i64 0, .slnil], fl (cmA g n n)]) D l (hF.app _) off ld n n hI hG hn hn (H.length + 2) (by simp) (by rw [← hg]; simp only [List.append_assoc, List.cons_append, List.nil_append])) ?_ | refine cA (hB _) ?_ | refine cA (z0w H [D, .int .i64 off, .int .i64 (n : Int), .int .i64 (n : Int), .int .i64 ld] [.slnil, .int .i64 0, .int .i64 0, .int .i64 0, .int .i64 0, .slnil] [.slm (H.length + 2) (n * n) 0 (n * n) 1, .int .i64 0, .int .i64 (n : Int), .int .i64 (n : Int), .int .i64 ((max n 1 : Nat) : Int)] s n hn (fun t => [.int .i64 (Q t : Int), .int .i64 ((Q (t + 1) - Q t : Nat) : Int)]) g T Q hC t (by omega) (fun k hk => hall t (by omega) k hk)) ?_ | refine cA (zzj H [D, .int .i64 off, .int .i64 (n : Int), .int .i64 (n : Int), .int .i64 ld] [.slnil, .int .i64 0, .int .i64 0, .int .i64 0, .int .i64 0, .slnil] [.slm (H.length + 2) (n * n) 0 (n * n) 1, .int .i64 0, .int .i64 (n : Int), .int .i64 (n : Int), .int .i64 ((max n 1 : Nat) : Int)] s n hn g T Q hC t (by omega) hs1 hs2 _ _) ?_ | fail))
 |refine zjf (by (conv => {lhs; whnf}); done) (by first | exact (by exact rfl) | exact za8 (zhn _ _ _) | fail) (by exact rfl) (by exact rfl) (by (conv => {lhs; simp only [sc, List.set_cons_zero, List.set_cons_succ]}); done) ?_
 |refine zdu ?_
 |refine zbz ?_ | refine zb0 ?_ | refine zby ?_ | refine m57 ?_
 |refine zfn ?_ | refine zfo ?_ | refine zfm ?_
 |(refine zfp (by exact rfl) ?_; first | exact hK | fail | (exfalso; first | omega | (simp_all; done) | (simp_all; omega)))
 |refine m05 ?_
 |refine m04 ?_ | refine m02 ?_ | refine m03 ?_ | refine znm (by (conv => {lhs; whnf}); done) (by exact rfl) (by exact rfl) (by exact rfl) (by exact rfl) ?_ | refine zar ?_
 |intro _)
  all_goals first
    | (exfalso; contradiction)
    | (exfalso; omega)
    | (exfalso; simp_all; done)
    | (have hT0 : n = 0 ∨ 0 < T := (by by_cases h : T = 0; exact .inl (by rw [← hC.last, h, hC.zero]); exact .inr (by omega))
       simp only [hC.last]
       refine zmi rfl ?_
       exact Fr.tup (Frs.cons (Fr.agg (Frs.cons (Fr.fz (by omega) (by simp) (zbg (j := 2) rfl rfl) (by simp) (zfy _ (by simp)) (Frs.old (by rw [zbs]; exact Nat.zero_le _))) (Frs.cons (Fr.old (by simp [mx])) (Frs.cons (Fr.old (by simp [mx])) (Frs.cons (Fr.old (by simp [mx])) (Frs.cons (Fr.old (by simp [mx])) (Frs.cons (z3c (zhw _ _ _) hT0) Frs.nil))))))) (Frs.cons (Fr.old (by simp [mx])) (Frs.cons (Fr.old (by simp [mx])) Frs.nil))))
theorem zzm (H : List (List AV)) (D : AV) (l : List Nat) (hF : FL H D l) (off ld : Int) (n : Nat) (hI : MI l.length off n n ld) (hG : zac l.length off n n ld) (hn : n ≤ 64) (g : Nat → Nat → Nat) (hg : g = mel l off ld) (s : Int) (hs1 : 1 ≤ s) (hs2 : s ≤ 9223372036854775807) (hN : fN g n < n) :
    zaa Try.prog 26 [mt D off n n ld, .int .i64 s] H (.tup [.agg [.slnil, .int .i64 0, .int .i64 0, .int .i64 0, .int .i64 0, .slnil], .int .i64 ((fN g n + 1 : Nat) : Int), .int .i64 4]) H := by
  obtain ⟨hm, ho1, ho2, hr1, hr2, hc1, hc2, hl1, hl2⟩ := id hI
  obtain ⟨T, Q, hC, hB⟩ := zn4 n (by omega) s hs1 hs2
  have hTn := hC.t_le
  obtain ⟨t0, ht0, hz1, hz2⟩ := hC.find hN
  have hall : ∀ t, t < t0 → ∀ k, k < Q (t + 1) → sgK g n k = false := fun t ht k hk => zww (by
    have hmono : ∀ d u, u + d ≤ T → Q u ≤ Q (u + d) := fun d => by
      induction d with
      | zero => intro u _; exact Nat.le_refl _
      | succ d ih => intro u h; have := ih u (by omega); have := hC.inc (u + d) (by omega); show Q u ≤ Q (u + d + 1); omega
    have := hmono (t0 - (t + 1)) (t + 1) (by omega)
    rw [show t + 1 + (t0 - (t + 1)) = t0 by omega] at this; omega)
  obtain ⟨N', hpan⟩ := z0x H [D, .int .i64 off, .int .i64 (n : Int), .int .i64 (n : Int), .int .i64 ld] [.slnil, .int .i64 0, .int .i64 0, .int .i64 0, .int .i64 0, .slnil] [.slm (H.length + 2) (n * n) 0 (n * n) 1, .int .i64 0, .int .i64 (n : Int), .int .i64 (n : Int), .int .i64 ((max n 1 : Nat) : Int)] s n hn (fun t => [.int .i64 (Q t : Int), .int .i64 ((Q (t + 1) - Q t : Nat) : Int)]) g T Q hC t0 ht0 (fN g n) hz1 hz2 (fun k hk => zww hk) (z3e hN)
  have hZ : fN5 H [D, .int .i64 off, .int .i64 (n : Int), .int .i64 (n : Int), .int .i64 ld] [.slnil, .int .i64 0, .int .i64 0, .int .i64 0, .int .i64 0, .slnil] [.slm (H.length + 2) (n * n) 0 (n * n) 1, .int .i64 0, .int .i64 (n : Int), .int .i64 (n : Int), .int .i64 ((max n 1 : Nat) : Int)] s n (stG g n (Q 0)) (Q 0) (fQ (fun t => [.int .i64 (Q t : Int), .int .i64 ((Q (t + 1) - Q t : Nat) : Int)]) (pvL g n (Q 0)) 0) = [[D, .int .i64 off, .int .i64 (n : Int), .int .i64 (n : Int), .int .i64 ld], [.slnil, .int .i64 0, .int .i64 0, .int .i64 0, .int .i64 0, .slnil], fl (cmA g n n), [.slm (H.length + 2) (n * n) 0 (n * n) 1, .int .i64 0, .int .i64 (n : Int), .int .i64 (n : Int), .int .i64 ((max n 1 : Nat) : Int)], wC s (H.length + 2) n .slnil] := by rw [hC.zero]; rfl
  refine .go Try.call26 Try.func26 true [] dOk ?_
  simp only [zbp, Nat.reduceAdd]
  repeat' (first
 |(refine za4 ?_; (first | refine zcm ?_ | refine zay ?_ | refine m13 ?_ | refine m12 ?_ | refine m11 ?_ | (refine m10 ?_; (first | refine zci ?_ | refine zcd ?_ | refine zch ?_ | refine zce ?_ | refine zcg ?_ ?_ | refine zcf ?_ ?_ | refine zcc ?_ ?_ | refine zcb ?_ ?_ | fail)) | (refine m09 ?_; (first | refine zci ?_ | refine zcd ?_ | refine zch ?_ | refine zce ?_ | refine zcg ?_ ?_ | refine zcf ?_ ?_ | refine zcc ?_ ?_ | refine zcb ?_ ?_ | fail)) | refine m38 ?_ | fail))
 |(refine za5 ?_; (first | refine m41 ?_ | refine zbj ?_ | refine m14 ?_ | (refine m17 ?_; first | refine m19 ?_ | refine m18 ?_) | (refine m07 ?_; (first | refine m15 ?_ | refine m16 ?_ | refine z0h (by exact rfl) (by exact rfl) (by exact rfl) (by exact rfl) ?_ | refine zqn (by exact rfl) (by exact rfl) (by exact rfl) (by exact rfl) ?_ | refine zxa (show t < T by omega) ?_ | refine zxa (show t0 < T by omega) ?_ | refine zqn (by exact rfl) zkn (by exact rfl) (by exact rfl) ?_ | refine zqn (by exact rfl) z4t (by exact rfl) (by exact rfl) ?_ | fail)) | refine zsq (n := 0) (by (conv => {lhs; whnf}); done) (by omega) (by exact rfl) ?_ | refine zsq (n := 1) (by (conv => {lhs; whnf}); done) (by omega) (by exact rfl) ?_ | refine zpc (i := t) (by (conv => {lhs; whnf}); done) (by (conv => {lhs; whnf}); done) (by exact rfl) (by exact rfl) (by omega) ?_ | refine zpc (i := t0) (by (conv => {lhs; whnf}); done) (by (conv => {lhs; whnf}); done) (by exact rfl) (by exact rfl) (by omega) ?_ | refine zbm (by (conv => {lhs; whnf}); done) (by exact rfl) ?_ | refine zek (by (conv => {lhs; whnf}); done) ?_ | refine zfs (i := 5 + fQl t) (by exact rfl) (by exact rfl) (by exact zwv) (N' := fN5 H [D, .int .i64 off, .int .i64 (n : Int), .int .i64 (n : Int), .int .i64 ld] [.slnil, .int .i64 0, .int .i64 0, .int .i64 0, .int .i64 0, .slnil] [.slm (H.length + 2) (n * n) 0 (n * n) 1, .int .i64 0, .int .i64 (n : Int), .int .i64 (n : Int), .int .i64 ((max n 1 : Nat) : Int)] s n (stG g n (Q t)) (Q t) ((fQ (fun t => [.int .i64 (Q t : Int), .int .i64 ((Q (t + 1) - Q t : Nat) : Int)]) (pvL g n (Q t)) t) ++ [_])) (by exact rfl) ?_ | refine zfs (i := 5 + fQl t0) (by exact rfl) (by exact rfl) (by exact zwv) (N' := fN5 H [D, .int .i64 off, .int .i64 (n : Int), .int .i64 (n : Int), .int .i64 ld] [.slnil, .int .i64 0, .int .i64 0, .int .i64 0, .int .i64 0, .slnil] [.slm (H.length + 2) (n * n) 0 (n * n) 1, .int .i64 0, .int .i64 (n : Int), .int .i64 (n : Int), .int .i64 ((max n 1 : Nat) : Int)] s n (stG g n (Q t0)) (Q t0) ((fQ (fun t => [.int .i64 (Q t : Int), .int .i64 ((Q (t + 1) - Q t : Nat) : Int)]) (pvL g n (Q t0)) t0) ++ [_])) (by exact rfl) ?_ | refine zms (by (conv => {lhs; whnf}); done) (by exact rfl) (by exact rfl) (by exact rfl) (by exact rfl) (by (conv => {lhs; simp only [List.nil_append, List.cons_append]}); done) ?_ | refine zfs (by exact rfl) (by exact rfl) (by exact rfl) (by (conv => {lhs; simp only [List.nil_append, List.cons_append]}); done) ?_ | refine zlu (j := 5 + fQl t) (cs' := [.int .i64 (Q t : Int), .int .i64 ((Q (t + 1) - Q t : Nat) : Int)]) (by (conv => {lhs; whnf}); done) (by (conv => {lhs; whnf}); done) (by exact rfl) (by exact rfl) (by exact rfl) (by exact zkn) (by exact rfl) (by exact Nat.le_of_ble_eq_true rfl) (Nat.le_refl _) (by exact rfl) (by exact zpx) ?_ | refine zlu (j := 5 + fQl t0) (cs' := [.int .i64 (Q t0 : Int), .int .i64 ((Q (t0 + 1) - Q t0 : Nat) : Int)]) (by (conv => {lhs; whnf}); done) (by (conv => {lhs; whnf}); done) (by exact rfl) (by exact rfl) (by exact rfl) (by exact zkn) (by exact rfl) (by exact Nat.le_of_ble_eq_true rfl) (Nat.le_refl _) (by exact rfl) (by exact zpx) ?_ | refine zlu (j := 1) (cs' := [.slm (H.length + 2) (n * n) 0 (n * n) 1, .int .i64 0, .int .i64 (n : Int), .int .i64 (n : Int), .int .i64 ((max n 1 : Nat) : Int), gV H.length 6 (Q T)]) (N' := fN5 H [D, .int .i64 off, .int .i64 (n : Int), .int .i64 (n : Int), .int .i64 ld] [.slm (H.length + 2) (n * n) 0 (n * n) 1, .int .i64 0, .int .i64 (n : Int), .int .i64 (n : Int), .int .i64 ((max n 1 : Nat) : Int), gV H.length 6 (Q T)] [.slm (H.length + 2) (n * n) 0 (n * n) 1, .int .i64 0, .int .i64 (n : Int), .int .i64 (n : Int), .int .i64 ((max n 1 : Nat) : Int)] s n (stG g n (Q T)) (Q T) (fQ (fun t => [.int .i64 (Q t : Int), .int .i64 ((Q (t + 1) - Q t : Nat) : Int)]) (pvL g n (Q T)) T)) (by (conv => {lhs; whnf}); done) (by (conv => {lhs; whnf}); done) (by exact rfl) (by exact rfl) (by exact rfl) (by exact rfl) (by exact rfl) (by exact Nat.le_of_ble_eq_true rfl) (Nat.le_refl _) (by exact rfl) (by exact rfl) ?_ | refine zlu (by (conv => {lhs; whnf}); done) (by (conv => {lhs; whnf}); done) (by exact rfl) (by exact rfl) (by exact rfl) (by exact rfl) (by exact rfl) (by exact Nat.le_of_ble_eq_true rfl) (Nat.le_refl _) (by exact rfl) (by exact rfl) ?_ | (refine m00 ?_; (first | refine zbk ((t + 1 : Nat) : Int) (by omega) (by omega) ?_ | refine m54 ?_ | refine m55 ?_ | refine zck ?_ | refine m47 ?_ | refine m48 ?_ | refine m49 ?_ | refine m50 ?_ | refine zdk ?_ | refine zdi ?_ | refine zdj ?_ | refine v_k ?_ | refine m51 ?_ | fail)) | (refine m22 ?_; (first | refine m26 ?_ | refine m27 ?_ | fail)) | refine m42 ?_ | refine zad ?_ | refine zae ?_ | refine m08 ?_ | (refine m20 ?_; (first | refine zbk ((t + 1 : Nat) : Int) (by omega) (by omega) ?_ | refine m54 ?_ | refine m55 ?_ | refine zck ?_ | refine m47 ?_ | refine m48 ?_ | refine m49 ?_ | refine m50 ?_ | refine zdk ?_ | refine zdi ?_ | refine zdj ?_ | refine v_k ?_ | refine m51 ?_ | fail)) | refine zao ?_ | refine zbm (by (conv => {lhs; whnf}); done) (by first | rfl | assumption) ?_ | refine m23 ?_ | refine zn0 (by (conv => {lhs; whnf}); done) (by (conv => {lhs; whnf}); done) (by first | exact (by exact rfl) | exact za8 (zhn _ _ _) | fail) (by exact rfl) (by exact rfl) (by exact Nat.le_of_ble_eq_true rfl) (by (conv => {lhs; simp only [sc, List.set_cons_zero, List.set_cons_succ]}); done) ?_ | refine m01 ?_ | refine m24 ?_ | refine zco ?_ | fail))
 |(refine zcv ?_; (first | refine m36 ?_ | refine zct ?_ | refine m32 ?_ | refine m31 ?_ | refine m30 ?_ | (refine m28 ?_; (first | refine zca ?_ | refine zb5 ?_ | refine zb9 ?_ | refine zb6 ?_ | refine zb8 ?_ ?_ | refine zb7 ?_ ?_ | refine zb4 ?_ ?_ | refine zb3 ?_ ?_ | fail)) | (refine m29 ?_; (first | refine zca ?_ | refine zb5 ?_ | refine zb9 ?_ | refine zb6 ?_ | refine zb8 ?_ ?_ | refine zb7 ?_ ?_ | refine zb4 ?_ ?_ | refine zb3 ?_ ?_ | fail)) | refine m37 ?_ | fail))
 |(refine zcu ?_; (first | refine zfe ?_ | refine zh6 ?_ | refine zh7 (by (conv => {lhs; whnf}); done) ?_ | refine zh8 ?_ | refine zh5 (by exact rfl) (by exact rfl) ?_ | refine m34 ?_ | refine m35 ?_ | refine m33 ?_ | refine zff ?_ | refine m56 ?_ | refine zcw ?_ | refine zdr (by exact rfl) ?_ | fail))
 |refine za2 ?_ | refine za3 ?_ | refine za1 ?_
 |(refine za6 ?_; (first | refine za0 ?_ | refine zab ?_ | (refine m06 ?_; (first | refine c_T ?_ | refine c_F ?_ | refine c_P ?_ ?_ | refine c_B ?_ ?_ | fail)) | refine zaz ?_ | refine zaq ?_ | refine zai ?_ | refine b_exit ?_ | refine zax (id := 17) [] [6] [(0, .ld true), (1, .lt), (2, .lt), (3, .lt), (4, .ld true), (5, .lt), (6, .mn false), (7, .lt), (8, .lt)] (by kernel_rfl) ?_ | (refine zbc [4, 7, 8, 47, 48, 49] t0 (fun t => ⟨[(4, .val (.eptr (.slm (H.length + 1) 6 0 1 6) 0)), (7, .val (.eptr (.slm (H.length + 3) 5 0 1 5) 0)), (8, .val (wP (H.length + 4))), (47, .val (cuV T Q)), (48, .val (.int .i64 ((T : Nat) : Int))), (49, .val (.int .i64 ((t : Nat) : Int)))], [], H ++ fN5 H [D, .int .i64 off, .int .i64 (n : Int), .int .i64 (n : Int), .int .i64 ld] [.slnil, .int .i64 0, .int .i64 0, .int .i64 0, .int .i64 0, .slnil] [.slm (H.length + 2) (n * n) 0 (n * n) 1, .int .i64 0, .int .i64 (n : Int), .int .i64 (n : Int), .int .i64 ((max n 1 : Nat) : Int)] s n (stG g n (Q t)) (Q t) (fQ (fun t => [.int .i64 (Q t : Int), .int .i64 ((Q (t + 1) - Q t : Nat) : Int)]) (pvL g n (Q t)) t)⟩) (by simp only [hZ]; exact rfl) ?_ ?_ <;> (first | intro t ht K hK | intro K) <;> (try dsimp only at *)) | fail))
 |refine m43 ?_
 |refine zcs ?_
 |refine m21 ?_
 |refine zbb ?_
 |(refine zbd ?_; (first | refine cA (zd1 _ D l.length off _ _ ld hF.len hI) ?_ | refine cA (zi8 _ (H ++ [[D, .int .i64 off, .int .i64 (n : Int), .int .i64 (n : Int), .int .i64 ld], [.slnil, .int .i64 0, .int .i64 0, .int .i64 0, .int .i64 0, .slnil], fl (cmA g n n)]) D l (hF.app _) off ld n n hI hG hn hn (H.length + 2) (by simp) (by rw [← hg]; simp only [List.append_assoc, List.cons_append, List.nil_append])) ?_ | refine cA (hB _) ?_ | refine c_call hpan (za7.app (by simp)) ?_ | refine cA (z0w H [D, .int .i64 off, .int .i64 (n : Int), .int .i64 (n : Int), .int .i64 ld] [.slnil, .int .i64 0, .int .i64 0, .int .i64 0, .int .i64 0, .slnil] [.slm (H.length + 2) (n * n) 0 (n * n) 1, .int .i64 0, .int .i64 (n : Int), .int .i64 (n : Int), .int .i64 ((max n 1 : Nat) : Int)] s n hn (fun t => [.int .i64 (Q t : Int), .int .i64 ((Q (t + 1) - Q t : Nat) : Int)]) g T Q hC t (by omega) (fun k hk => hall t (by omega) k hk)) ?_ | refine cA (zzj H [D, .int .i64 off, .int .i64 (n : Int), .int .i64 (n : Int), .int .i64 ld] [.slnil, .int .i64 0, .int .i64 0, .int .i64 0, .int .i64 0, .slnil] [.slm (H.length + 2) (n * n) 0 (n * n) 1, .int .i64 0, .int .i64 (n : Int), .int .i64 (n : Int), .int .i64 ((max n 1 : Nat) : Int)] s n hn g T Q hC t (by omega) hs1 hs2 _ _) ?_ | fail))
 |refine zjf (by (conv => {lhs; whnf}); done) (by first | exact (by exact rfl) | exact za8 (zhn _ _ _) | fail) (by exact rfl) (by exact rfl) (by (conv => {lhs; simp only [sc, List.set_cons_zero, List.set_cons_succ]}); done) ?_
 |refine zdu ?_
 |refine zbz ?_ | refine zb0 ?_ | refine zby ?_ | refine m57 ?_
 |refine zfn ?_ | refine zfo ?_ | refine zfm ?_
 |(refine zfp (by exact rfl) ?_; first | exact hK | fail | (exfalso; first | omega | (simp_all; done) | (simp_all; omega)))
 |refine m05 ?_
 |refine m04 ?_ | refine m02 ?_ | refine m03 ?_ | refine znm (by (conv => {lhs; whnf}); done) (by exact rfl) (by exact rfl) (by exact rfl) (by exact rfl) ?_ | refine zar ?_
 |intro _)
  all_goals first
    | (exfalso; contradiction)
    | (exfalso; omega)
    | (exfalso; simp_all; done)
    | (refine zan rfl (by simp [mx, mxL, zaf, sc]) ?_; exact rfl)
theorem z0e (H : List (List AV)) (Da : AV) (la : List Int) (hFa : IL H Da la) (hBa : la.length ≤ 2 ^ 48) (Db : AV) (lb : List Int) (hFb : IL H Db lb) (hBb : lb.length ≤ 2 ^ 48) :
    zaa Try.prog 27 [Da, Db] H (.bool (decide (la = lb))) H := by
  obtain ⟨N, hN1, hN2, hN3⟩ := zkp (fun k => la.getD k 0 = lb.getD k 0) la.length
  refine .go Try.call27 Try.func27 false [] dOk ?_
  simp only [zbp, Nat.reduceAdd]
  repeat' (first
 |(refine za4 ?_; (first | refine zcm ?_ | refine zay ?_ | fail))
 |(refine za5 ?_; (first | refine m14 ?_ | (refine m07 ?_; (first | refine m15 ?_ | refine m16 ?_ | refine z3t (IL.app hFa _) (by omega) ?_ | refine z3t (IL.app hFb _) (by omega) ?_ | fail)) | refine zkg (by (conv => {lhs; whnf}); done) (by (conv => {lhs; whnf}); done) (by exact hFa.len) (by omega) ?_ | refine zkg (by (conv => {lhs; whnf}); done) (by (conv => {lhs; whnf}); done) (by exact hFb.len) (by omega) ?_ | refine zbm (by (conv => {lhs; whnf}); done) (by exact hFa.len) ?_ | refine zbm (by (conv => {lhs; whnf}); done) (by exact hFb.len) ?_ | (refine m00 ?_; (first | refine m54 ?_ | refine m55 ?_ | refine zck ?_ | refine m47 ?_ | refine m48 ?_ | refine m49 ?_ | refine m50 ?_ | refine v_k ?_ | refine m51 ?_ | fail)) | refine m42 ?_ | refine zad ?_ | refine zae ?_ | refine m08 ?_ | refine zbm (by (conv => {lhs; whnf}); done) (by first | rfl | assumption) ?_ | fail))
 |(refine zcv ?_; (first | refine m36 ?_ | refine zct ?_ | fail))
 |(refine zcu ?_; (first | refine zfe ?_ | refine zh6 ?_ | refine zh7 (by (conv => {lhs; whnf}); done) ?_ | refine zh8 ?_ | refine zh5 (by exact rfl) (by exact rfl) ?_ | refine m34 ?_ | refine m35 ?_ | refine m33 ?_ | refine zff ?_ | refine m56 ?_ | refine zcw ?_ | refine zdr (by exact rfl) ?_ | fail))
 |refine za2 ?_ | refine za3 ?_ | refine za1 ?_
 |(refine za6 ?_; (first | refine za0 ?_ | refine zab ?_ | (refine m06 ?_; (first | refine c_T ?_ | refine c_F ?_ | refine c_P ?_ ?_ | refine c_B ?_ ?_ | fail)) | refine zaz ?_ | refine zaq ?_ | refine zai ?_ | refine b_exit ?_ | refine zax (id := 6) [] [] [(0, .lt), (1, .lt), (2, .lt), (3, .ld true), (4, .lt), (5, .lt), (6, .lt), (7, .ld true), (8, .ld true)] (by kernel_rfl) ?_ | (refine zbc [5, 0, 1] N (fun k => ⟨[(5, .val (.int .i64 (k : Int))), (0, .val Da), (1, .val Db)], [], H ++ []⟩) (by exact rfl) ?_ ?_ <;> (first | intro k hk K hK | intro K) <;> (try dsimp only at *) <;> (try simp only [Int.natCast_add, Int.natCast_one] at *)) | fail))
 |refine zbz ?_ | refine zb0 ?_ | refine zby ?_ | refine m57 ?_
 |refine zfn ?_ | refine zfo ?_ | refine zfm ?_
 |(refine zfp (by exact rfl) ?_; first | exact hK | (exfalso; have := hN3 (by omega); omega) | (exfalso; first | omega | (simp_all; done) | (simp_all; omega)))
 |refine m05 ?_
 |refine m04 ?_ | refine m02 ?_ | refine m03 ?_ | refine zar ?_
 |intro _)
  all_goals first | refine zan rfl (by simp [mx, mxL, aOf, zb1, zaf]) ?_ | (trace_state; fail)
  all_goals first
    | (refine rtF (fun h => ?_); subst h; first | contradiction | omega | (simp_all; done))
    | (refine rtT (zoc (by omega) (fun k hk => hN2 k (by omega))))
theorem zvl (H : List (List AV)) (Da : AV) (la : List Int) (hFa : IL H Da la) (hBa : la.length ≤ 2 ^ 48) (Db : AV) (lb : List Int) (hFb : IL H Db lb) (h : la = lb) : zaa Try.prog 27 [Da, Db] H (.bool true) H := by
  have := z0e H Da la hFa hBa Db lb hFb (by rw [← h]; exact hBa)
  rwa [decide_eq_true h] at this
theorem zq0 (H : List (List AV)) (D : AV) (m : Nat) (hD : slen D = some m) (off rows cols ld : Int) (hI : MI m off rows cols ld) (hG : ¬ zac m off rows cols ld) :
    zaa Try.prog 28 [mt D off rows cols ld] H .slnil H := by
  obtain ⟨hn, ho1, ho2, hr1, hr2, hc1, hc2, hl1, hl2⟩ := id hI
  refine .go Try.call28 Try.func28 false [] dOk ?_
  simp only [zbp, Nat.reduceAdd]
  repeat' (first
 |(refine za4 ?_; (first | refine zcm ?_ | refine zay ?_ | fail))
 |(refine za5 ?_; (first | refine m41 ?_ | refine zbj ?_ | refine m14 ?_ | (refine m17 ?_; first | refine m19 ?_ | refine m18 ?_) | (refine m07 ?_; (first | refine m15 ?_ | refine m16 ?_ | fail)) | (refine m00 ?_; (first | refine m47 ?_ | refine m48 ?_ | refine m49 ?_ | refine m50 ?_ | refine zdk ?_ | refine zdi ?_ | refine zdj ?_ | refine v_k ?_ | refine m51 ?_ | fail)) | refine m42 ?_ | refine zad ?_ | refine zae ?_ | refine m08 ?_ | (refine m20 ?_; (first | refine m47 ?_ | refine m48 ?_ | refine m49 ?_ | refine m50 ?_ | refine zdk ?_ | refine zdi ?_ | refine zdj ?_ | refine v_k ?_ | refine m51 ?_ | fail)) | refine zao ?_ | refine m23 ?_ | refine m25 ?_ | refine m01 ?_ | refine m24 ?_ | refine zgg (by exact rfl) (by exact rfl) (by decide) ?_ | fail))
 |refine za2 ?_ | refine za3 ?_ | refine za1 ?_
 |(refine za6 ?_; (first | refine za0 ?_ | refine zab ?_ | (refine m06 ?_; (first | refine c_T ?_ | refine c_F ?_ | refine c_P ?_ ?_ | refine c_B ?_ ?_ | fail)) | refine zaz ?_ | refine zaq ?_ | refine zai ?_ | refine b_exit ?_ | (exfalso; exact hG (Decidable.not_not.1 (show ¬¬zeo m off rows cols ld by assumption)).1) | fail))
 |refine m21 ?_
 |refine zbb ?_
 |(refine zbd ?_; (first | refine cA (znq _ D m off _ _ ld hD hI) ?_ | fail))
 |refine m44 ?_
 |refine m40 ?_
 |(refine zdq (by (conv => {lhs; simp only [List.nil_append, List.cons_append]}); done) ?_; first | refine ⟨by exact rfl, ?_⟩ | skip)
 |refine zd9 ?_
 |(intro N' hN'; simp only [List.nil_append, List.cons_append] at hN'; subst hN')
 |refine zbz ?_ | refine zb0 ?_ | refine zby ?_ | refine m57 ?_
 |refine zfn ?_ | refine zfo ?_ | refine zfm ?_
 |(refine zfp (by exact rfl) ?_; first | exact hK | (exfalso; first | omega | (simp_all; done) | (simp_all; omega)))
 |refine m05 ?_
 |refine m04 ?_ | refine m02 ?_ | refine m03 ?_ | refine zar ?_
 |intro _)
  all_goals first
    | (exfalso; contradiction)
    | (exfalso; omega)
    | (exfalso; have h9 : zeo m off rows cols ld := by assumption
       exact hG h9.1)
    | (refine zan rfl (by simp [mx, mxL, zaf]) ?_; exact rfl)
theorem zo8 (H : List (List AV)) :
    zaa Try.prog 25 [] H (.bool true) H := by
  have hfN : fN (mel (zds 2 2 [4607182418800017408, 4611686018427387904, 4616189618054758400, 4616189618054758400]) 0 ((max 2 1 : Nat) : Int)) 2 = 2 := by kernel_rfl
  have hpv : pvL (mel (zds 2 2 [4607182418800017408, 4611686018427387904, 4616189618054758400, 4616189618054758400]) 0 ((max 2 1 : Nat) : Int)) 2 2 = [1, 1] := by kernel_rfl
  have hst : cmA (stG (mel (zds 2 2 [4607182418800017408, 4611686018427387904, 4616189618054758400, 4616189618054758400]) 0 ((max 2 1 : Nat) : Int)) 2 2) 2 2 = [4616189618054758400, 4598175219545276416, 4616189618054758400, 4607182418800017408] := by kernel_rfl
  refine .go Try.call25 Try.func25 false [10, 26, 34] dOk ?_
  simp only [zbp, Nat.reduceAdd]
  repeat' (first
 |(refine za4 ?_; (first | refine zcm ?_ | refine zay ?_ | refine m13 ?_ | refine m12 ?_ | refine m11 ?_ | (refine m10 ?_; (first | refine zci ?_ | refine zcd ?_ | refine zch ?_ | refine zce ?_ | refine zcg ?_ ?_ | refine zcf ?_ ?_ | refine zcc ?_ ?_ | refine zcb ?_ ?_ | fail)) | (refine m09 ?_; (first | refine zci ?_ | refine zcd ?_ | refine zch ?_ | refine zce ?_ | refine zcg ?_ ?_ | refine zcf ?_ ?_ | refine zcc ?_ ?_ | refine zcb ?_ ?_ | fail)) | refine m38 ?_ | fail))
 |(refine za5 ?_; (first | refine m14 ?_ | (refine m17 ?_; first | refine m19 ?_ | refine m18 ?_) | (refine m07 ?_; (first | refine m15 ?_ | refine m16 ?_ | fail)) | (refine m00 ?_; (first | refine zbk ((1 + (k + 1) : Nat) : Int) (by omega) (by omega) ?_ | refine m54 ?_ | refine m55 ?_ | refine zck ?_ | refine m47 ?_ | refine m48 ?_ | refine m49 ?_ | refine m50 ?_ | refine zdk ?_ | refine zdi ?_ | refine zdj ?_ | refine v_k ?_ | refine m51 ?_ | fail)) | (refine m22 ?_; (first | refine m26 ?_ | refine m27 ?_ | fail)) | refine m42 ?_ | refine zad ?_ | refine zae ?_ | refine m08 ?_ | (refine m20 ?_; (first | refine zbk ((1 + (k + 1) : Nat) : Int) (by omega) (by omega) ?_ | refine m54 ?_ | refine m55 ?_ | refine zck ?_ | refine m47 ?_ | refine m48 ?_ | refine m49 ?_ | refine m50 ?_ | refine zdk ?_ | refine zdi ?_ | refine zdj ?_ | refine v_k ?_ | refine m51 ?_ | fail)) | refine zao ?_ | refine m23 ?_ | refine m25 ?_ | refine m24 ?_ | refine zgg (by exact rfl) (by exact rfl) (by decide) ?_ | fail))
 |refine za2 ?_ | refine za3 ?_ | refine za1 ?_
 |(refine za6 ?_; (first | refine za0 ?_ | refine zab ?_ | (refine m06 ?_; (first | refine c_T ?_ | refine c_F ?_ | refine c_P ?_ ?_ | refine c_B ?_ ?_ | fail)) | refine zaz ?_ | refine zaq ?_ | refine zai ?_ | refine b_exit ?_ | (refine zbc [1] 2 (fun k => ⟨[(1, .val (.int .i64 ((1 + k : Nat) : Int)))], [], H ++ List.replicate k (fl (zds 2 2 [4607182418800017408, 4611686018427387904, 4616189618054758400, 4616189618054758400]))⟩) (by exact rfl) ?_ ?_ <;> (first | intro k hk K hK | intro K) <;> (try dsimp only at *)) | fail))
 |refine m43 ?_
 |refine zcs ?_
 |refine m21 ?_
 |refine zbb ?_
 |(refine zbd ?_; (first | refine cA (zpr _ (H ++ List.replicate (k + 1) (fl (zds 2 2 [4607182418800017408, 4611686018427387904, 4616189618054758400, 4616189618054758400]))) 2 2 (by decide) (by decide) _ _ (FL.fz _ none [4607182418800017408, 4611686018427387904, 4616189618054758400, 4616189618054758400]) (by decide) (H.length + k) (by simp) (by rw [List.append_assoc, ← List.replicate_succ'])) ?_ | refine cA (zu9 _ (.slm (H.length + k) (2 * 2) 0 (2 * 2) 1) (zds 2 2 [4607182418800017408, 4611686018427387904, 4616189618054758400, 4616189618054758400]) (FL.old (zbg (by exact rfl) (by simp)) (by simp) (by simp)) 0 ((max 2 1 : Nat) : Int) 2 (zmw 2 2 (by decide) (by decide) [4607182418800017408, 4611686018427387904, 4616189618054758400, 4616189618054758400]) (zik 2 2 [4607182418800017408, 4611686018427387904, 4616189618054758400, 4616189618054758400]) (by decide) (mel (zds 2 2 [4607182418800017408, 4611686018427387904, 4616189618054758400, 4616189618054758400]) 0 ((max 2 1 : Nat) : Int)) (by exact rfl) ((1 + k : Nat) : Int) (by omega) (by omega) hfN) ?_ | refine cA (zvl _ _ (pvL (mel (zds 2 2 [4607182418800017408, 4611686018427387904, 4616189618054758400, 4616189618054758400]) 0 ((max 2 1 : Nat) : Int)) 2 2) (IL.fz _ none _) (by simp) _ [1, 1] (IL.fz _ none [1, 1]) hpv) ?_ | refine cA (zyw _ _ (cmA (stG (mel (zds 2 2 [4607182418800017408, 4611686018427387904, 4616189618054758400, 4616189618054758400]) 0 ((max 2 1 : Nat) : Int)) 2 2) 2 2) (FL.fz _ none _) (by simp) _ [4616189618054758400, 4598175219545276416, 4616189618054758400, 4607182418800017408] (FL.fz _ none [4616189618054758400, 4598175219545276416, 4616189618054758400, 4607182418800017408]) hst) ?_ | fail))
 |refine m44 ?_
 |refine m40 ?_
 |(refine zdq (by (conv => {lhs; simp only [List.nil_append, List.cons_append]}); done) ?_; first | refine ⟨by exact rfl, ?_⟩ | skip)
 |refine zd9 ?_
 |(intro N' hN'; simp only [List.nil_append, List.cons_append] at hN'; subst hN')
 |refine zbz ?_ | refine zb0 ?_ | refine zby ?_ | refine m57 ?_
 |refine zfn ?_ | refine zfo ?_ | refine zfm ?_
 |(refine zfp (by exact rfl) ?_; first | exact hK | fail | (exfalso; first | omega | (simp_all; done) | (simp_all; omega)))
 |refine m05 ?_
 |refine m04 ?_ | refine m02 ?_ | refine m03 ?_ | refine zar ?_
 |intro _)
  all_goals first
    | (exfalso; contradiction)
    | (exfalso; omega)
    | (exfalso; simp_all; done)
    | (refine zan rfl (by simp [mx, mxL, zaf, aOf, zb1]) ?_; exact rfl)
theorem zji :
    (∀ (H : List (List AV)) (q : Nat × Nat) (l : List Nat) (off rows cols ld : Int) (hI : MI l.length off rows cols ld) (a b : Int) (ha0 : 0 ≤ a) (ha1 : a ≤ 255) (hb0 : 0 ≤ b) (hb1 : b ≤ 255) (hgr : (1000 < (l.length : Int) ∨ 20 < rows ∨ 20 < cols)), Spec Try.prog 6 [mt (aD q l) off rows cols ld, .int .u8 a, .int .u8 b] H (.bool true) H) ∧
    (∀ (H : List (List AV)) (q : Nat × Nat) (l : List Nat) (off rows cols ld : Int) (hI : MI l.length off rows cols ld) (a b : Int) (ha0 : 0 ≤ a) (ha1 : a ≤ 255) (hb0 : 0 ≤ b) (hb1 : b ≤ 255) (hgr : ¬ (1000 < (l.length : Int) ∨ 20 < rows ∨ 20 < cols)) (D' P' R : AV) (o' r' c' ld' k er : Int) (p' : List Int) (lr : List Nat) (hP : ∀ H, IL H P' p') (hPl : p'.length ≤ 2 ^ 30) (hR : ∀ H, FL H R lr) (hRl : lr.length ≤ 2 ^ 30) (hnum : ∀ H, zaa Try.prog 28 [mt D' o' r' c' ld'] H R H) (hfac : ∀ H s, 1 ≤ s → s ≤ 9223372036854775807 → zaa Try.prog 26 [mt (aD q l) off rows cols ld, .int .i64 s] H (.tup [.agg [D', .int .i64 o', .int .i64 r', .int .i64 c', .int .i64 ld', P'], .int .i64 k, .int .i64 er]) H), Spec Try.prog 6 [mt (aD q l) off rows cols ld, .int .u8 a, .int .u8 b] H (.bool true) H) := by
  refine ⟨?_, ?_⟩
  (intro H q l off rows cols ld hI a b ha0 ha1 hb0 hb1 hgr
   refine Spec.go Try.func6 false [] dOk ?_
   simp only [zbp, Nat.reduceAdd])
  rotate_left
  (intro H q l off rows cols ld hI a b ha0 ha1 hb0 hb1 hgr D' P' R o' r' c' ld' k er p' lr hP hPl hR hRl hnum hfac
   refine Spec.go Try.func6 false [] dOk ?_
   simp only [zbp, Nat.reduceAdd])
  rotate_left
  all_goals (repeat' (first
 |(refine za4 ?_; (first | refine zcm ?_ | refine zay ?_ | refine m13 ?_ | refine m12 ?_ | refine m11 ?_ | (refine m10 ?_; (first | refine zci ?_ | refine zcd ?_ | refine zch ?_ | refine zce ?_ | refine zcg ?_ ?_ | refine zcf ?_ ?_ | refine zcc ?_ ?_ | refine zcb ?_ ?_ | fail)) | (refine m09 ?_; (first | refine zci ?_ | refine zcd ?_ | refine zch ?_ | refine zce ?_ | refine zcg ?_ ?_ | refine zcf ?_ ?_ | refine zcc ?_ ?_ | refine zcb ?_ ?_ | fail)) | refine m38 ?_ | fail))
 |(refine za5 ?_; (first | refine m14 ?_ | (refine m17 ?_; first | refine m19 ?_ | refine m18 ?_) | (refine m07 ?_; (first | refine m15 ?_ | refine m16 ?_ | fail)) | (refine m45 ?_; (first | refine zeg (by exact rfl) ?_ | refine v_k ?_ | fail)) | (refine m00 ?_; (first | refine m52 ?_ | refine m53 ?_ | refine zgv ?_ | refine m49 ?_ | refine m50 ?_ | refine zdk ?_ | refine zdi ?_ | refine zdj ?_ | refine v_k ?_ | refine m51 ?_ | fail)) | (refine m22 ?_; (first | refine m26 ?_ | refine m27 ?_ | fail)) | refine m42 ?_ | refine zad ?_ | refine zae ?_ | refine m08 ?_ | (refine m20 ?_; (first | refine m52 ?_ | refine m53 ?_ | refine zgv ?_ | refine m49 ?_ | refine m50 ?_ | refine zdk ?_ | refine zdi ?_ | refine zdj ?_ | refine v_k ?_ | refine m51 ?_ | fail)) | refine zao ?_ | refine m23 ?_ | refine m25 ?_ | refine m01 ?_ | refine m24 ?_ | (refine m46 ?_; (first | refine m52 ?_ | refine m53 ?_ | refine zgv ?_ | refine m49 ?_ | refine m50 ?_ | refine zdk ?_ | refine zdi ?_ | refine zdj ?_ | refine v_k ?_ | refine m51 ?_ | fail)) | refine zu4 (by (conv => {lhs; whnf}); done) (by exact rfl) ?_ | refine zpb (by (conv => {lhs; whnf}); done) ?_ | fail))
 |(refine zcv ?_; (first | refine m36 ?_ | refine zct ?_ | refine m32 ?_ | refine m31 ?_ | refine m30 ?_ | (refine m28 ?_; (first | refine zca ?_ | refine zb5 ?_ | refine zb9 ?_ | refine zb6 ?_ | refine zb8 ?_ ?_ | refine zb7 ?_ ?_ | refine zb4 ?_ ?_ | refine zb3 ?_ ?_ | fail)) | (refine m29 ?_; (first | refine zca ?_ | refine zb5 ?_ | refine zb9 ?_ | refine zb6 ?_ | refine zb8 ?_ ?_ | refine zb7 ?_ ?_ | refine zb4 ?_ ?_ | refine zb3 ?_ ?_ | fail)) | refine m37 ?_ | fail))
 |(refine zcu ?_; (first | refine zfe ?_ | refine zh6 ?_ | refine zh7 (by (conv => {lhs; whnf}); done) ?_ | refine zh8 ?_ | refine zh5 (by exact rfl) (by exact rfl) ?_ | refine m34 ?_ | refine m35 ?_ | refine m33 ?_ | refine zff ?_ | refine m56 ?_ | refine zcw ?_ | refine zdr (by exact rfl) ?_ | fail))
 |refine za2 ?_ | refine za3 ?_ | refine za1 ?_
 |(refine za6 ?_; (first | refine za0 ?_ | refine zab ?_ | (refine m06 ?_; (first | refine c_T ?_ | refine c_F ?_ | refine c_P ?_ ?_ | refine c_B ?_ ?_ | fail)) | refine zaz ?_ | refine zaq ?_ | refine zai ?_ | refine b_exit ?_ | refine zax (id := 7) [] [] [(0, .lt), (1, .lt), (2, .ld true), (3, .lt), (4, .lt), (5, .lt), (6, .ld true), (7, .lt), (8, .lt), (9, .lt), (10, .ld true), (11, .lt), (12, .ld true), (13, .mn true), (14, .lt), (15, .lt), (16, .lt), (17, .ld true), (19, .lt), (20, .ld true), (18, .mn true), (21, .mn true), (22, .mn true), (23, .lt), (24, .lt), (25, .mn true), (26, .lt), (27, .lt)] (by kernel_rfl) ?_ | fail))
 |refine m21 ?_
 |refine zbb ?_
 |(refine zbd ?_; (first | refine cA (ztw _ (aD q l) l (zoz _ q l) off _ _ ld hI) ?_ | refine cA (zo8 _) ?_ | refine cA (hfac _ (1 + a) (by omega) (by omega)) ?_ | refine cA (hfac _ (1 + b) (by omega) (by omega)) ?_ | refine cA (zvl _ P' p' (hP _) (by omega) P' p' (hP _) rfl) ?_ | refine cA (hnum _) ?_ | refine cA (zyw _ R lr (hR _) (by omega) R lr (hR _) rfl) ?_ | fail))
 |refine m05 ?_
 |refine m04 ?_ | refine m02 ?_ | refine m03 ?_ | refine zar ?_
 |intro _))
  all_goals first
    | (refine zan rfl (by simp [mx, mxL, zaf, aOf, zb1]) ?_; exact rfl)
    | (exfalso; contradiction)
    | (exfalso; omega)
    | (exfalso; simp_all; done)
theorem z3s : type_of% @zji.1 := @zji.1
theorem z3r : type_of% @zji.2 := @zji.2
theorem zh9 (H : List (List AV)) (q : Nat × Nat) (l : List Nat) (off rows cols ld : Int) (hI : MI l.length off rows cols ld) (a b : Int) (ha0 : 0 ≤ a) (ha1 : a ≤ 255) (hb0 : 0 ≤ b) (hb1 : b ≤ 255) : Spec Try.prog 6 [mt (aD q l) off rows cols ld, .int .u8 a, .int .u8 b] H (.bool true) H := by
  by_cases hgr : (1000 < (l.length : Int) ∨ 20 < rows ∨ 20 < cols)
  · exact z3s H q l off rows cols ld hI a b ha0 ha1 hb0 hb1 hgr
  have base := z3r H q l off rows cols ld hI a b ha0 ha1 hb0 hb1 hgr
  have hz : ∀ H, zaa Try.prog 28 [mt .slnil 0 0 0 0] H .slnil H := fun H => zq0 H .slnil 0 rfl 0 0 0 0 ⟨by decide, by decide, by decide, by decide, by decide, by decide, by decide, by decide, by decide⟩ (fun h => absurd h.2.2.2.1 (by decide))
  by_cases hG : zac l.length off rows cols ld
  · by_cases hne : rows = cols
    · subst hne
      obtain ⟨n, rfl⟩ : ∃ n : Nat, rows = (n : Int) := ⟨rows.toNat, by have := hG.1; omega⟩
      have hle := z3f (mel l off ld) n
      rcases Nat.lt_or_ge (fN (mel l off ld) n) n with hN | hN
      · exact base .slnil .slnil .slnil 0 0 0 0 _ 4 [] [] (fun H => IL.nil H) (by decide) (fun H => FL.nil H) (by decide) hz (fun H s h1 h2 => zzm H (aD q l) l (zoz _ q l) off ld n hI hG (by omega) (mel l off ld) rfl s h1 h2 hN)
      · have hn20 : n * n ≤ 400 := by have := Nat.mul_le_mul (show n ≤ 20 by omega) (show n ≤ 20 by omega); omega
        have hcl : (cmA (stG (mel l off ld) n n) n n).length = n * n := by simp
        have hFc : ∀ H, FL H (.sl none (n * n) (fl (cmA (stG (mel l off ld) n n) n n))) (cmA (stG (mel l off ld) n n) n n) := fun H => by
          have := FL.fz H none (cmA (stG (mel l off ld) n n) n n); rwa [hcl] at this
        have hnum := fun H => zk2 H (.sl none (n * n) (fl (cmA (stG (mel l off ld) n n) n n))) _ (hFc H) 0 (n : Int) (n : Int) ((max n 1 : Nat) : Int) (zi9 (by omega)) (zcp _ n) (by omega) (by omega)
        refine base _ (.sl none n (il (pvL (mel l off ld) n n))) _ _ _ _ _ 0 0 (pvL (mel l off ld) n n) (cmA (mel (cmA (stG (mel l off ld) n n) n n) 0 ((max n 1 : Nat) : Int)) n n) (fun H => by have := IL.fz H none (pvL (mel l off ld) n n); rwa [zhw] at this) (by rw [zhw]; omega) (fun H => ?_) (by simp; omega) hnum
          (fun H s h1 h2 => zu9 H (aD q l) l (zoz _ q l) off ld n hI hG (by omega) (mel l off ld) rfl s h1 h2 (by omega))
        have := FL.fz H none (cmA (mel (cmA (stG (mel l off ld) n n) n n) 0 ((max n 1 : Nat) : Int)) n n)
        simp only [Int.toNat_natCast]
        rwa [zer] at this
    · exact base .slnil .slnil .slnil 0 0 0 0 0 3 [] [] (fun H => IL.nil H) (by decide) (fun H => FL.nil H) (by decide) hz (fun H s h1 h2 => zzl H (aD q l) l (zoz _ q l) off ld rows cols hI s (by omega) h2 h1 hG hne)
  · exact base .slnil .slnil .slnil 0 0 0 0 0 1 [] [] (fun H => IL.nil H) (by decide) (fun H => FL.nil H) (by decide) hz (fun H s h1 h2 => zzk H (aD q l) l (zoz _ q l) off ld rows cols hI s (by omega) h2 (fun h => hG h.2))
end Go.Sx
