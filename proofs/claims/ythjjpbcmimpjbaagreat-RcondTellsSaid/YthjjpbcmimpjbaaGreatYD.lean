/- A part of the proofs of this seat: YD. No condition is set. -/
import Derived.Test.YthjjpbcmimpjbaaGreatXD
import Derived.Test.YthjjpbcmimpjbaaGreatYA
import Derived.Test.YthjjpbcmimpjbaaGreatYB
import Derived.Test.YthjjpbcmimpjbaaGreatYC
set_option linter.unusedVariables false
set_option linter.unusedSimpArgs false
set_option linter.unusedSectionVars false
set_option maxRecDepth 20000
namespace Go.Sx
open Go.Proofs


section
attribute [local irreducible] Ex exOps exD opX opE thenX blkX RetQ Spec CSpec Fr condK guardK guardD ckK valK pickK loadK faK callK argK gK fK rK RetV lpX prK
end
section
attribute [local irreducible] Ex exOps exD opX opE thenX blkX RetQ Spec CSpec Fr condK guardK guardD ckK valK pickK loadK faK callK argK gK fK rK RetV lpX prK
end
/-! ### shifted, number by number -/
theorem isSl_of {P : Program} {t el : TypeId} (h : telem P t = some el) : isSl P t = true := by
  unfold telem at h; unfold isSl
  split at h
  · rfl
  · cases h
/-- a list that isn't nil for sure -/
def NN (X : AV) : Prop := (∃ tg n c cs, X = .sl tg n (c :: cs)) ∨ ∃ a b c d e, X = .slm a b c d e
theorem NN.slm (a b c d e : Nat) : NN (.slm a b c d e) := .inr ⟨a, b, c, d, e, rfl⟩
theorem NN.sl {tg : Option (Nat × Nat)} {n : Nat} {l : List Nat} (h : 0 < l.length) : NN (.sl tg n (fl l)) := by
  cases l with
  | nil => simp at h
  | cons x l => exact .inl ⟨tg, n, .flt x, fl l, rfl⟩
theorem b_nilF {P : Program} {cfg : Cfg} {e : List (Nat × EV)} {L : List (Nat × List AV)} {H : List (List AV)} {K : St → Prop} {ty : TypeId} {pos : String} {aft : Array Edge} {gd : Option (Nat × Bool)} {dd : Nat} {t t' : TypeId} {el z : Nat} [si : SlI P t el z] {x y : Operand} {X : AV} (hX : NN X) (hx : St.ev ⟨e, L, H⟩ x = .val X) (hy : St.ev ⟨e, L, H⟩ y = .val .slnil)
    (h : K ⟨(dd, .val (.bool false)) :: e, L, H⟩) : opX P cfg ⟨some dd, .binOp .eql t x y t', ty, pos, aft, gd⟩ K ⟨e, L, H⟩ := by
  refine b_bin hx hy (r := some (True, .bool false)) ?_ (v_k h)
  rcases hX with ⟨tg, n, c, cs, rfl⟩ | ⟨a, b, c, d, e, rfl⟩ <;> simp [binV, AV.asF, othV, nilEq, isSl_of si.h]
section
attribute [local irreducible] Ex exOps exD opX opE thenX blkX RetQ Spec CSpec Fr condK guardK guardD ckK valK pickK loadK faK callK argK gK fK rK RetV lpX prK
end
theorem vec_w {n : Nat} (hn : n ≤ 64) : VI n 0 (n : Int) 1 ∧ RightP n 0 (n : Int) 1 := by
  refine ⟨⟨by omega, by omega, by omega, by omega, by omega, by omega, by omega⟩, ?_⟩
  unfold RightP; omega
theorem setV_w {f g : Nat → Nat} {n : Nat} : setV (rml f n) 0 1 n g = rml g n := by
  apply List.ext_getElem
  · simp
  · intro i h1 h2
    have hi : i < n := by simpa using h2
    have e := setV_get (l := rml f n) (off := 0) (inc := 1) (n := n) (f := g) (hR := by unfold RightP; simp; omega) hi
    have hp : pos 0 1 0 i = i := by unfold pos; omega
    rw [hp] at e
    have e2 := rml_get (g := g) hi
    have e3 := e.trans e2.symm
    simp only [List.getD_eq_getElem?_getD, List.getElem?_eq_getElem h1, List.getElem?_eq_getElem h2, Option.getD_some] at e3
    exact e3
theorem ptr_nf {H : List (List AV)} {b g o s z : Nat} {l la : List Nat} {q : Nat × Nat} (hb : H[b]? = some (fl l)) (hg : l.length = g) (h0 : 0 < la.length) : ptrEq H (.slm b g o s z) 0 (aD q la) 0 = some false := by
  cases la with
  | nil => simp at h0
  | cons a la => simp [aD, ptrEq, curG_of hb hg, fl]
section
attribute [local irreducible] Ex exOps exD opX opE thenX blkX RetQ Spec CSpec Fr condK guardK guardD ckK valK pickK loadK faK callK argK gK fK rK RetV lpX prK
section
variable (H : List (List AV)) (n : Nat) (hn : n ≤ 64) (f : Nat → Nat) (q : Nat × Nat) (la : List Nat) (mo ld : Int) (hI : MI la.length mo n n ld) (hG : GoodP la.length mo n n ld) (P : AV) (p : List Int) (hP : ∀ H, IL H P p) (hpl : p.length = n) (hpv : pivP p) (hz : ∀ k, k < n → feq (mel la mo ld k k) 0 = false)
include hn hI hG hP hpl hpv hz in
theorem slv_w : CSpec Tryz.prog 46 [(.agg [aD q la, .int .i64 mo, .int .i64 (n : Int), .int .i64 (n : Int), .int .i64 ld, P]), vt (.slm (H.length + 0) n 0 n 1) 0 (n : Int) 1] (H ++ [fl (rml f n)]) (.int .i64 0) (H ++ [fl (rml (up2 (mel la mo ld) (lo1 (mel la mo ld) (tkF p f n) n) n n) n)]) := by
  obtain ⟨v1, v2⟩ := vec_w hn
  have hs : ∀ g X, (H ++ [fl (rml g n)]).set (H.length + 0) X = H ++ [X] := fun g X => by rw [hs_new (N' := [X]) rfl rfl]
  have hmeet : ∀ g N, CSpec Tryz.prog 142 [mt (.slm (H.length + 0) n 0 n 1) 0 1 (n : Int) 1, mt (aD q la) mo (n : Int) (n : Int) ld] (H ++ [fl (rml g n)] ++ N) (.bool false) (H ++ [fl (rml g n)] ++ N) := fun g N =>
    meet_f _ _ n 0 1 n 1 rfl v1.mat _ la.length mo n n ld rfl hI (fun hs1 hs2 => ptr_nf (l := rml g n) (by rw [List.append_assoc]; exact hg_new (j := 0) rfl rfl) (by simp) hs2)
  have hvec : ∀ g N, CSpec Tryz.prog 103 [(.agg [aD q la, .int .i64 mo, .int .i64 (n : Int), .int .i64 (n : Int), .int .i64 ld, P]), vt (.slm (H.length + 0) n 0 n 1) 0 (n : Int) 1] (H ++ [fl (rml g n)] ++ N) (.int .i64 0) (H ++ [fl (rml g n)] ++ N) := fun g N => by
    exact vec_0 (H ++ [fl (rml g n)]) (aD q la) la (aD_FL _ q la) mo n n ld hI (.slm (H.length + 0) n 0 n 1) (rml g n) (FL.old (hg_new (j := 0) rfl rfl) (by simp) (by simp)) 0 n 1 (by simpa using v1) P p (hP _) (by omega) ⟨hG, rfl, by omega, hpv⟩ (by simpa using v2) rfl (fun N => hmeet g N) (fun N => szero_n _ _ la (aD_FL _ q la) mo ld n hI hG hz) N
  have h := slv_0 (H ++ [fl (rml f n)]) (H.length + 0) (rml f n) (by simp) 0 1 n (by simpa using v1) (by simpa using v2) (aD q la) (by simp [aD, mx, mxL_fl]) la.length mo ld hI hG (mel la mo ld) (fun g => ⟨la, aD_FL _ q la, rfl, fun i j _ _ => rfl⟩) (fun g N => by rw [setV_w, hs, rml_len]; exact hmeet g N) P p hpl (by omega) hpv (fun X N => hP _) f hz (fun N => by rw [setV_w, hs, rml_len]; exact hvec f N)
  rw [setV_w, setV_w, hs, hs, rml_len] at h
  exact h
end
section
variable (H : List (List AV)) (n : Nat) (hn : n ≤ 64) (f : Nat → Nat) (q : Nat × Nat) (la : List Nat) (mo ld : Int) (hI : MI la.length mo n n ld) (hG : GoodP la.length mo n n ld) (P : AV) (p : List Int) (hP : ∀ H, IL H P p) (hpl : p.length = n) (hpv : pivP p) (hz : ∀ k, k < n → feq (mel la mo ld k k) 0 = false)
include hn hI hG hP hpl hpv hz in
theorem slt_w : CSpec Tryz.prog 48 [(.agg [aD q la, .int .i64 mo, .int .i64 (n : Int), .int .i64 (n : Int), .int .i64 ld, P]), vt (.slm (H.length + 0) n 0 n 1) 0 (n : Int) 1] (H ++ [fl (rml f n)]) (.int .i64 0) (H ++ [fl (rml (tkB p (lt3 (mel la mo ld) (ut4 (mel la mo ld) f n) n n) n) n)]) := by
  obtain ⟨v1, v2⟩ := vec_w hn
  have hs : ∀ g X, (H ++ [fl (rml g n)]).set (H.length + 0) X = H ++ [X] := fun g X => by rw [hs_new (N' := [X]) rfl rfl]
  have hmeet : ∀ g N, CSpec Tryz.prog 142 [mt (.slm (H.length + 0) n 0 n 1) 0 1 (n : Int) 1, mt (aD q la) mo (n : Int) (n : Int) ld] (H ++ [fl (rml g n)] ++ N) (.bool false) (H ++ [fl (rml g n)] ++ N) := fun g N =>
    meet_f _ _ n 0 1 n 1 rfl v1.mat _ la.length mo n n ld rfl hI (fun hs1 hs2 => ptr_nf (l := rml g n) (by rw [List.append_assoc]; exact hg_new (j := 0) rfl rfl) (by simp) hs2)
  have hvec : ∀ g N, CSpec Tryz.prog 103 [(.agg [aD q la, .int .i64 mo, .int .i64 (n : Int), .int .i64 (n : Int), .int .i64 ld, P]), vt (.slm (H.length + 0) n 0 n 1) 0 (n : Int) 1] (H ++ [fl (rml g n)] ++ N) (.int .i64 0) (H ++ [fl (rml g n)] ++ N) := fun g N => by
    exact vec_0 (H ++ [fl (rml g n)]) (aD q la) la (aD_FL _ q la) mo n n ld hI (.slm (H.length + 0) n 0 n 1) (rml g n) (FL.old (hg_new (j := 0) rfl rfl) (by simp) (by simp)) 0 n 1 (by simpa using v1) P p (hP _) (by omega) ⟨hG, rfl, by omega, hpv⟩ (by simpa using v2) rfl (fun N => hmeet g N) (fun N => szero_n _ _ la (aD_FL _ q la) mo ld n hI hG hz) N
  have h := slt_0 (H ++ [fl (rml f n)]) (H.length + 0) (rml f n) (by simp) 0 1 n (by simpa using v1) (by simpa using v2) (aD q la) (by simp [aD, mx, mxL_fl]) la.length mo ld hI hG (mel la mo ld) (fun g => ⟨la, aD_FL _ q la, rfl, fun i j _ _ => rfl⟩) (fun g N => by rw [setV_w, hs, rml_len]; exact hmeet g N) P p hpl (by omega) hpv (fun X N => hP _) f hz (fun N => by rw [setV_w, hs, rml_len]; exact hvec f N)
  rw [setV_w, setV_w, hs, hs, rml_len] at h
  exact h
end
set_option maxHeartbeats 4000000 in
theorem zero_f (H : List (List AV)) (A : AV) (a : Nat → Nat → Nat) (n : Nat) (hA : FL H A (rmA a n n)) (hn : n ≤ 64) (hz : ∀ k, k < n → feq (a k k) 0 = false) :
    CSpec Tryz.prog 13 [mM A n n] H (.bool false) H := by
  refine .mk (fun args w => Tryz.call13 args w) (Spec.intro' (fn := Tryz.f13) Tryz.func13 rfl (by kernel_rfl) (by simp) false [] (draw := drawX Tryz.prog ⟨false, _, []⟩) dOk ?_)
  simp only [argE, Nat.reduceAdd]
  repeat' (first
    | (refine gateE ?_; (first | refine b_c0 ?_ | refine b_nil ?_ | fail))
    | (refine gateO ?_; (first | refine m14 ?_ | (refine m17 ?_; first | refine m19 ?_ | refine m18 ?_) | (refine m07 ?_; (first | refine m15 ?_ | refine m16 ?_ | fail)) | (refine m45 ?_; (first | refine v_to ((k + 1 : Nat) : Int) (by omega) (by omega) ?_ | refine v_bbT (by exact rfl) ?_ | refine v_k ?_ | fail)) | (refine m00 ?_; (first | refine v_to ((k + 1 : Nat) : Int) (by omega) (by omega) ?_ | refine m52 ?_ | refine m53 ?_ | refine v_eP ?_ | refine m47 ?_ | refine m48 ?_ | refine m49 ?_ | refine m50 ?_ | refine v_k ?_ | refine m51 ?_ | fail)) | refine m42 ?_ | refine b_assignI ?_ | refine b_assignN ?_ | refine m08 ?_ | refine b_callB ?_ | refine m01 ?_ | fail))
    | (refine gateT ?_; (first | refine b_thn ?_ | refine b_thr ?_ | refine b_the ?_ | fail))
    | (refine gateX ?_; (first | refine b_seq ?_ | refine b_region ?_ | (refine m06 ?_; (first | refine c_T ?_ | refine c_F ?_ | refine c_P ?_ ?_ | refine c_B ?_ ?_ | fail)) | refine b_ret ?_ | refine b_skip ?_ | refine b_block ?_ | refine b_exit ?_ | (refine b_loop [1, 3] n (fun k => ⟨[(1, .loc 1 0), (3, .val (.int .i64 ((k : Nat) : Int)))], [(1, [.int .i64 (n : Int), .int .i64 (n : Int), A])], H ++ []⟩) (by exact rfl) ?_ ?_ <;> (first | intro k hk K hK | intro K) <;> (try dsimp only at *)) | fail))
    | refine m21 ?_
    | refine a_nil ?_
    | (refine gateK ?_; (first | refine c_call (tat_m _ _ a n n (FL.app hA _) (by omega) (by omega) k k (by omega) (by omega)) (OldOk.app (by simp)) ?_ | refine c_call (tat_m _ _ a n n (FL.app hA _) (by omega) (by omega) z z (by omega) (by omega)) (OldOk.app (by simp)) ?_ | fail))
    | (refine gateB ?_; (first | refine b_bln ?_ | refine b_blr ?_ | refine b_ble ?_ | refine m57 ?_ | fail))
    | (refine gateL ?_; (first | refine lp_n ?_ | refine lp_r ?_ | refine lp_e ?_ | fail))
    | (refine pr_k (by exact rfl) ?_; first | exact hK | (exfalso; simp only [show cn 0 = 0 from by decide] at *; have := hz k (by omega); simp_all; done) | (exfalso; first | omega | (simp_all; done) | (simp_all; omega)))
    | (refine gateQ ?_; refine m05 ?_)
    | (refine gateR ?_; (first | refine m04 ?_ | refine m02 ?_ | refine m03 ?_ | refine rk_nil ?_ | fail))
    | intro _)
  all_goals first
    | (exfalso; omega)
    | (exfalso; simp only [show cn 0 = 0 from by decide] at *; have := hz k (by omega); simp_all; done)
    | (exfalso; simp only [show cn 0 = 0 from by decide] at *; simp_all; done)
    | (refine rv_old rfl (by simp [mx, mxL, resOne, aOf, aOf1]) ?_; exact rfl)

set_option maxHeartbeats 4000000 in
theorem zero_t (H : List (List AV)) (A : AV) (a : Nat → Nat → Nat) (n : Nat) (hA : FL H A (rmA a n n)) (hn : n ≤ 64) (z : Nat) (hzn : z < n) (hz : ∀ k, k < z → feq (a k k) 0 = false) (hz1 : feq (a z z) 0 = true) :
    CSpec Tryz.prog 13 [mM A n n] H (.bool true) H := by
  refine .mk (fun args w => Tryz.call13 args w) (Spec.intro' (fn := Tryz.f13) Tryz.func13 rfl (by kernel_rfl) (by simp) false [] (draw := drawX Tryz.prog ⟨false, _, []⟩) dOk ?_)
  simp only [argE, Nat.reduceAdd]
  repeat' (first
    | (refine gateE ?_; (first | refine b_c0 ?_ | refine b_nil ?_ | fail))
    | (refine gateO ?_; (first | refine m14 ?_ | (refine m17 ?_; first | refine m19 ?_ | refine m18 ?_) | (refine m07 ?_; (first | refine m15 ?_ | refine m16 ?_ | fail)) | (refine m45 ?_; (first | refine v_to ((k + 1 : Nat) : Int) (by omega) (by omega) ?_ | refine v_bbT (by exact rfl) ?_ | refine v_k ?_ | fail)) | (refine m00 ?_; (first | refine v_to ((k + 1 : Nat) : Int) (by omega) (by omega) ?_ | refine m52 ?_ | refine m53 ?_ | refine v_eP ?_ | refine m47 ?_ | refine m48 ?_ | refine m49 ?_ | refine m50 ?_ | refine v_k ?_ | refine m51 ?_ | fail)) | refine m42 ?_ | refine b_assignI ?_ | refine b_assignN ?_ | refine m08 ?_ | refine b_callB ?_ | refine m01 ?_ | fail))
    | (refine gateT ?_; (first | refine b_thn ?_ | refine b_thr ?_ | refine b_the ?_ | fail))
    | (refine gateX ?_; (first | refine b_seq ?_ | refine b_region ?_ | (refine m06 ?_; (first | refine c_T ?_ | refine c_F ?_ | refine c_P ?_ ?_ | refine c_B ?_ ?_ | fail)) | refine b_ret ?_ | refine b_skip ?_ | refine b_block ?_ | refine b_exit ?_ | (refine b_loop [1, 3] z (fun k => ⟨[(1, .loc 1 0), (3, .val (.int .i64 ((k : Nat) : Int)))], [(1, [.int .i64 (n : Int), .int .i64 (n : Int), A])], H ++ []⟩) (by exact rfl) ?_ ?_ <;> (first | intro k hk K hK | intro K) <;> (try dsimp only at *)) | fail))
    | refine m21 ?_
    | refine a_nil ?_
    | (refine gateK ?_; (first | refine c_call (tat_m _ _ a n n (FL.app hA _) (by omega) (by omega) k k (by omega) (by omega)) (OldOk.app (by simp)) ?_ | refine c_call (tat_m _ _ a n n (FL.app hA _) (by omega) (by omega) z z (by omega) (by omega)) (OldOk.app (by simp)) ?_ | fail))
    | (refine gateB ?_; (first | refine b_bln ?_ | refine b_blr ?_ | refine b_ble ?_ | refine m57 ?_ | fail))
    | (refine gateL ?_; (first | refine lp_n ?_ | refine lp_r ?_ | refine lp_e ?_ | fail))
    | (refine pr_k (by exact rfl) ?_; first | exact hK | (exfalso; simp only [show cn 0 = 0 from by decide] at *; have := hz k (by omega); simp_all; done) | (exfalso; first | omega | (simp_all; done) | (simp_all; omega)))
    | (refine gateQ ?_; refine m05 ?_)
    | (refine gateR ?_; (first | refine m04 ?_ | refine m02 ?_ | refine m03 ?_ | refine rk_nil ?_ | fail))
    | intro _)
  all_goals first
    | (exfalso; omega)
    | (exfalso; simp only [show cn 0 = 0 from by decide] at *; have := hz k (by omega); simp_all; done)
    | (exfalso; simp only [show cn 0 = 0 from by decide] at *; simp_all; done)
    | (refine rv_old rfl (by simp [mx, mxL, resOne, aOf, aOf1]) ?_; exact rfl)


end
section
attribute [local irreducible] Ex exOps exD opX opE thenX blkX RetQ Spec CSpec Fr condK guardK guardD ckK valK pickK loadK faK callK argK gK fK rK RetV lpX prK
end
theorem FLz (H : List (List AV)) (l : List Nat) (n : Nat) (h : l.length = n) : FL H (.sl none n (fl l)) l := by subst h; exact FL.fz H none l
section
attribute [local irreducible] Ex exOps exD opX opE thenX blkX RetQ Spec CSpec Fr condK guardK guardD ckK valK pickK loadK faK callK argK gK fK rK RetV lpX prK
end
/-! ### what is left, number by number -/
section
attribute [local irreducible] Ex exOps exD opX opE thenX blkX RetQ Spec CSpec Fr condK guardK guardD ckK valK pickK loadK faK callK argK gK fK rK RetV lpX prK
end
section
attribute [local irreducible] Ex exOps exD opX opE thenX blkX RetQ Spec CSpec Fr condK guardK guardD ckK valK pickK loadK faK callK argK gK fK rK RetV lpX prK
end
section
attribute [local irreducible] Ex exOps exD opX opE thenX blkX RetQ Spec CSpec Fr condK guardK guardD ckK valK pickK loadK faK callK argK gK fK rK RetV lpX prK
end
end Go.Sx

set_option linter.unusedVariables false
set_option linter.unusedSimpArgs false
set_option maxRecDepth 20000
/-! ### how great a matrix is, of which products alone are known: stage by stage -/
namespace Go.Sx
/-- a whole number as a float -/
def iF (n : Int) : Nat := cn (FloatKind.f64.nearest n)
def sgF (x : Nat) : Nat := if (flt (cn 0) x || feq x (cn 0)) = true then 4607182418800017408 else 13830554455654793216
def sgL (x : List Nat) : List Nat := x.map sgF
@[simp] theorem sgL_len (x : List Nat) : (sgL x).length = x.length := by simp [sgL]
structure MS where
  n : Nat
  st : Nat
  est : Nat
  v : List Nat
  s : List Nat
  j : Nat
  ct : Nat
def LV (l : List Nat) : AV := if l = [] then .slnil else .sl none l.length (fl l)
theorem LV_FL (H : List (List AV)) (l : List Nat) : FL H (LV l) l := by
  unfold LV; split
  · rename_i h; subst h; exact FL.nil H
  · exact FL.fz H none l
theorem LV_mx (l : List Nat) : mx (LV l) = 0 := by
  unfold LV; split
  · rfl
  · simp only [mx, mxL_fl]
theorem LV_ne {l : List Nat} (h : 0 < l.length) : LV l = .sl none l.length (fl l) := by
  unfold LV; rw [if_neg (by intro e; subst e; simp at h)]
/-- a machine's memory -/
def mCe (M : MS) : List AV := [.int .i64 (M.n : Int), .int .i64 (M.st : Int), .flt M.est, LV M.v, LV M.s, .int .i64 (M.j : Int), .int .i64 (M.ct : Int)]
@[simp] theorem mCe_len (M : MS) : (mCe M).length = 7 := rfl
theorem mCe_mx (M : MS) : mxL (mCe M) = 0 := by simp [mCe, mxL, mx, LV_mx]
def yB (n : Nat) : Nat → Nat := fun _ => fdiv 4607182418800017408 (iF (n : Int))
def yU (j : Nat) : Nat → Nat := fun i => if i = j then 4607182418800017408 else 0
def yL (n : Nat) : Nat → Nat := fun i => if i % 2 = 1 then fneg (fadd 4607182418800017408 (fdiv (iF (i : Int)) (iF ((n : Int) - 1)))) else fadd 4607182418800017408 (fdiv (iF (i : Int)) (iF ((n : Int) - 1)))
/-- a greater estimate is kept -/
def bet (M : MS) (t : Nat) (x : List Nat) : MS := if flt M.est t = true then { M with est := t, v := x } else M
def t5 (n t : Nat) : Nat := fmul 4611686018427387904 (fdiv t (iF (3 * (n : Int))))
/-- a product is handed in: what comes of the machine, what is asked for, how -/
def nxt (M : MS) (x : List Nat) : MS × List Nat × Int :=
  match M.st with
  | 0 => ({ M with st := 1 }, rml (yB M.n) M.n, 1)
  | 1 => if 1 < M.n then ({ M with est := asumF x, v := x, s := sgL x, st := 2 }, sgL x, 2) else ({ M with est := asumF x, v := x, st := 6 }, [], 0)
  | 2 => ({ M with j := moN x x.length, ct := 2, st := 3 }, rml (yU (moN x x.length)) M.n, 1)
  | 3 => if sgL x = M.s ∨ (flt (asumF x) M.est || feq (asumF x) M.est) = true then ({ bet M (asumF x) x with st := 5 }, rml (yL M.n) M.n, 1)
    else ({ bet M (asumF x) x with s := sgL x, st := 4 }, sgL x, 2)
  | 4 => if feq (absF (x.getD M.j 0)) (absF (x.getD (moN x x.length) 0)) = false ∧ M.ct < 5 then ({ M with j := moN x x.length, ct := M.ct + 1, st := 3 }, rml (yU (moN x x.length)) M.n, 1)
    else ({ M with j := moN x x.length, st := 5 }, rml (yL M.n) M.n, 1)
  | 5 => ({ bet M (t5 M.n (asumF x)) x with st := 6 }, [], 0)
  | _ => (M, [], 0)
/-- what a machine is, between two products -/
structure MOk (M : MS) : Prop where
  n1 : 1 ≤ M.n
  n64 : M.n ≤ 64
  j : M.j < M.n
  ct : M.ct ≤ 5
  s : ∀ y ∈ M.s, y = 4607182418800017408 ∨ y = 13830554455654793216
  v : M.v.length ≤ M.n
  sl : M.s.length ≤ M.n
theorem sgF_two (x : Nat) : sgF x = 4607182418800017408 ∨ sgF x = 13830554455654793216 := by unfold sgF; split <;> simp
theorem sgL_two {x : List Nat} : ∀ y ∈ sgL x, y = 4607182418800017408 ∨ y = 13830554455654793216 := by
  intro y hy
  obtain ⟨z, _, rfl⟩ := List.mem_map.1 hy
  exact sgF_two z
theorem bet_n (M : MS) (t : Nat) (x : List Nat) : (bet M t x).n = M.n ∧ (bet M t x).j = M.j ∧ (bet M t x).ct = M.ct ∧ (bet M t x).s = M.s ∧ (bet M t x).st = M.st := by
  unfold bet; split <;> simp
theorem bet_v {M : MS} {t : Nat} {x : List Nat} (hv : M.v.length ≤ M.n) (hx : x.length = M.n) : (bet M t x).v.length ≤ M.n := by
  unfold bet; split
  · simp [hx]
  · exact hv
/-- how far a machine is from its end -/
def mu (M : MS) : Nat :=
  match M.st with
  | 0 => 20
  | 1 => 19
  | 2 => 18
  | 3 => 2 * (5 - M.ct) + 4
  | 4 => 2 * (5 - M.ct) + 3
  | 5 => 1
  | _ => 0
theorem nxt_ok {M : MS} {x : List Nat} (h : MOk M) (hx : M.st = 0 ∨ x.length = M.n) (h5 : M.st ≤ 5) (hs0 : M.st ≤ 1 → M.s = [] ∧ M.v = []) :
    (nxt M x).1.n = M.n ∧ (((nxt M x).2.2 = 0 ∧ (nxt M x).1.st = 6) ∨ (((nxt M x).2.2 = 1 ∨ (nxt M x).2.2 = 2) ∧ (nxt M x).2.1.length = M.n ∧ MOk (nxt M x).1 ∧ (nxt M x).1.st ≤ 5 ∧ 1 ≤ (nxt M x).1.st ∧ mu (nxt M x).1 < mu M ∧ ((nxt M x).1.st ≤ 1 → (nxt M x).1.s = [] ∧ (nxt M x).1.v = []))) := by
  obtain ⟨a1, a2, a3, a4, a5, a7, a8⟩ := h
  have hml : ∀ x : List Nat, 0 < x.length → moN x x.length < x.length := fun x h => moN_lt x _ h
  have hc : M.st = 0 ∨ M.st = 1 ∨ M.st = 2 ∨ M.st = 3 ∨ M.st = 4 ∨ M.st = 5 := by omega
  rcases hc with e | e | e | e | e | e
  · obtain ⟨b1, b2⟩ := hs0 (by omega)
    simp only [nxt, e]
    exact ⟨by simp, .inr ⟨.inl (by simp), by simp, ⟨a1, a2, a3, a4, a5, a7, a8⟩, by simp, by simp, by simp [mu, e], fun _ => ⟨b1, b2⟩⟩⟩
  · have hx' : x.length = M.n := by omega
    simp only [nxt, e]
    split
    · exact ⟨by simp, .inr ⟨.inr (by simp), by simp [hx'], ⟨a1, a2, a3, a4, sgL_two, by simp [hx'], by simp [hx']⟩, by simp, by simp, by simp [mu, e], by simp⟩⟩
    · exact ⟨by simp, .inl ⟨by simp, by simp⟩⟩
  · have hx' : x.length = M.n := by omega
    have := hml x (by omega)
    simp only [nxt, e]
    exact ⟨by simp, .inr ⟨.inl (by simp), by simp, ⟨a1, a2, by simp; omega, by simp, a5, a7, a8⟩, by simp, by simp, by simp [mu, e], by simp⟩⟩
  · have hx' : x.length = M.n := by omega
    obtain ⟨c1, c2, c3, c4, c5⟩ := bet_n M (asumF x) x
    have c6 := bet_v (t := asumF x) a7 hx'
    simp only [nxt, e]
    split
    · exact ⟨c1, .inr ⟨.inl (by simp), by simp, ⟨by simpa [c1] using a1, by simpa [c1] using a2, by simpa [c1, c2] using a3, by simpa [c3] using a4, by simpa [c4] using a5, by simpa [c1] using c6, by simpa [c1, c4] using a8⟩, by simp, by simp, by simp [mu, e], by simp⟩⟩
    · exact ⟨c1, .inr ⟨.inr (by simp), by simp [hx'], ⟨by simpa [c1] using a1, by simpa [c1] using a2, by simpa [c1, c2] using a3, by simpa [c3] using a4, sgL_two, by simpa [c1] using c6, by simp [c1, hx']⟩, by simp, by simp, by simp [mu, e, c3], by simp⟩⟩
  · have hx' : x.length = M.n := by omega
    have := hml x (by omega)
    simp only [nxt, e]
    split
    · rename_i h9
      exact ⟨by simp, .inr ⟨.inl (by simp), by simp, ⟨a1, a2, by simp; omega, by simp; omega, a5, a7, a8⟩, by simp, by simp, by simp [mu, e]; omega, by simp⟩⟩
    · exact ⟨by simp, .inr ⟨.inl (by simp), by simp, ⟨a1, a2, by simp; omega, a4, a5, a7, a8⟩, by simp, by simp, by simp [mu, e], by simp⟩⟩
  · obtain ⟨c1, c2, c3, c4, c5⟩ := bet_n M (t5 M.n (asumF x)) x
    simp only [nxt, e]
    exact ⟨c1, .inl ⟨by simp, by simp⟩⟩
/-! ### until it is done -/
section
variable (f1 f2 : List Nat → List Nat) (M : MS)
/-- what a product is -/
def prM (r : MS × List Nat × Int) : List Nat := if r.2.2 = 2 then f2 r.2.1 else f1 r.2.1
def runM : Nat → MS × List Nat × Int
  | 0 => nxt M []
  | k + 1 => nxt (runM k).1 (prM f1 f2 (runM k))
end
/-- a machine ends -/
theorem run_end {f1 f2 : List Nat → List Nat} {M : MS} (h : MOk M) (h0 : M.st = 0) (hs : M.s = [] ∧ M.v = []) (hf1 : ∀ y, y.length = M.n → (f1 y).length = M.n) (hf2 : ∀ y, y.length = M.n → (f2 y).length = M.n) :
    ∃ N, (runM f1 f2 M N).2.2 = 0 ∧ (runM f1 f2 M N).1.n = M.n ∧ ∀ k, k < N → ((runM f1 f2 M k).2.2 = 1 ∨ (runM f1 f2 M k).2.2 = 2) ∧ (runM f1 f2 M k).2.1.length = M.n ∧ (runM f1 f2 M k).1.n = M.n ∧ MOk (runM f1 f2 M k).1 ∧ (runM f1 f2 M k).1.st ≤ 5 ∧ 1 ≤ (runM f1 f2 M k).1.st ∧ ((runM f1 f2 M k).1.st ≤ 1 → (runM f1 f2 M k).1.s = [] ∧ (runM f1 f2 M k).1.v = []) := by
  have key : ∀ d k, mu (runM f1 f2 M k).1 ≤ d → ((runM f1 f2 M k).2.2 = 1 ∨ (runM f1 f2 M k).2.2 = 2) → (runM f1 f2 M k).2.1.length = M.n → (runM f1 f2 M k).1.n = M.n → MOk (runM f1 f2 M k).1 → (runM f1 f2 M k).1.st ≤ 5 → 1 ≤ (runM f1 f2 M k).1.st → ((runM f1 f2 M k).1.st ≤ 1 → (runM f1 f2 M k).1.s = [] ∧ (runM f1 f2 M k).1.v = []) →
      ∃ N, k < N ∧ (runM f1 f2 M N).2.2 = 0 ∧ (runM f1 f2 M N).1.n = M.n ∧ ∀ i, k ≤ i → i < N → ((runM f1 f2 M i).2.2 = 1 ∨ (runM f1 f2 M i).2.2 = 2) ∧ (runM f1 f2 M i).2.1.length = M.n ∧ (runM f1 f2 M i).1.n = M.n ∧ MOk (runM f1 f2 M i).1 ∧ (runM f1 f2 M i).1.st ≤ 5 ∧ 1 ≤ (runM f1 f2 M i).1.st ∧ ((runM f1 f2 M i).1.st ≤ 1 → (runM f1 f2 M i).1.s = [] ∧ (runM f1 f2 M i).1.v = []) := by
    intro d
    induction d with
    | zero =>
      intro k hmu hk hl hn hok h5 h1 hz
      exfalso
      unfold mu at hmu
      have hc : (runM f1 f2 M k).1.st = 1 ∨ (runM f1 f2 M k).1.st = 2 ∨ (runM f1 f2 M k).1.st = 3 ∨ (runM f1 f2 M k).1.st = 4 ∨ (runM f1 f2 M k).1.st = 5 := by omega
      rcases hc with e | e | e | e | e <;> rw [e] at hmu <;> simp at hmu
    | succ d ih =>
      intro k hmu hk hl hn hok h5 h1 hz
      have hpl : (prM f1 f2 (runM f1 f2 M k)).length = M.n := by
        unfold prM; split
        · exact hf2 _ hl
        · exact hf1 _ hl
      obtain ⟨g1, g2⟩ := nxt_ok (x := prM f1 f2 (runM f1 f2 M k)) hok (.inr (by rw [hpl, hn])) h5 hz
      have er : runM f1 f2 M (k + 1) = nxt (runM f1 f2 M k).1 (prM f1 f2 (runM f1 f2 M k)) := rfl
      rw [← er, hn] at g1 g2
      have here : ∀ i, k ≤ i → i < k + 1 → i = k := fun i a b => by omega
      rcases g2 with ⟨g3, g4⟩ | ⟨g3, g4, g5, g6, g7, g8, g9⟩
      · exact ⟨k + 1, by omega, g3, g1, fun i a b => by rw [here i a b]; exact ⟨hk, hl, hn, hok, h5, h1, hz⟩⟩
      · obtain ⟨N, n1, n2, n3, n4⟩ := ih (k + 1) (by omega) g3 g4 g1 g5 g6 g7 g9
        refine ⟨N, by omega, n2, n3, fun i a b => ?_⟩
        by_cases hi : i = k
        · rw [hi]; exact ⟨hk, hl, hn, hok, h5, h1, hz⟩
        · exact n4 i (by omega) b
  obtain ⟨g1, g2⟩ := nxt_ok (x := []) h (.inl h0) (by omega) (fun _ => hs)
  have er : runM f1 f2 M 0 = nxt M [] := rfl
  rw [← er] at g1 g2
  rcases g2 with ⟨g3, g4⟩ | ⟨g3, g4, g5, g6, g7, g8, g9⟩
  · exact ⟨0, g3, g1, fun k hk => absurd hk (by omega)⟩
  · obtain ⟨N, n1, n2, n3, n4⟩ := key _ 0 (Nat.le_refl _) g3 g4 g1 g5 g6 g7 g9
    exact ⟨N, n2, n3, fun k hk => n4 k (by omega) hk⟩
/-- the vector of an estimate -/
theorem nxt_v {M : MS} {x : List Nat} (hst : 1 ≤ M.st ∧ M.st ≤ 5) (hx : x.length = M.n) (hv : 2 ≤ M.st → M.v.length = M.n) : (nxt M x).1.v.length = M.n := by
  have hb : ∀ t, 2 ≤ M.st → (bet M t x).v.length = M.n := fun t h => by
    unfold bet; split
    · exact hx
    · exact hv h
  rcases (by omega : M.st = 1 ∨ M.st = 2 ∨ M.st = 3 ∨ M.st = 4 ∨ M.st = 5) with e | e | e | e | e <;> simp only [nxt, e]
  · split <;> exact hx
  · exact hv (by omega)
  · split <;> exact hb _ (by omega)
  · split <;> exact hv (by omega)
  · exact hb _ (by omega)
theorem run_v {f1 f2 : List Nat → List Nat} {M : MS} {N : Nat} (h0 : M.st = 0) (hf1 : ∀ y, y.length = M.n → (f1 y).length = M.n) (hf2 : ∀ y, y.length = M.n → (f2 y).length = M.n)
    (h : ∀ k, k < N → (runM f1 f2 M k).2.1.length = M.n ∧ (runM f1 f2 M k).1.n = M.n ∧ (runM f1 f2 M k).1.st ≤ 5 ∧ 1 ≤ (runM f1 f2 M k).1.st) : ∀ k, k < N → (runM f1 f2 M (k + 1)).1.v.length = M.n := by
  have key : ∀ k, k < N → (2 ≤ (runM f1 f2 M k).1.st → (runM f1 f2 M k).1.v.length = M.n) ∧ (runM f1 f2 M (k + 1)).1.v.length = M.n := by
    intro k
    induction k with
    | zero =>
      intro hk
      obtain ⟨a1, a2, a3, a4⟩ := h 0 hk
      have e : (runM f1 f2 M 0).1.st = 1 := by simp [runM, nxt, h0]
      refine ⟨fun h2 => by omega, ?_⟩
      have hp : (prM f1 f2 (runM f1 f2 M 0)).length = M.n := by unfold prM; split; exact hf2 _ a1; exact hf1 _ a1
      have := nxt_v (M := (runM f1 f2 M 0).1) (x := prM f1 f2 (runM f1 f2 M 0)) ⟨a4, a3⟩ (by rw [hp, a2]) (fun h2 => by omega)
      rw [a2] at this; exact this
    | succ k ih =>
      intro hk
      obtain ⟨_, i2⟩ := ih (by omega)
      obtain ⟨a1, a2, a3, a4⟩ := h (k + 1) hk
      refine ⟨fun _ => i2, ?_⟩
      have hp : (prM f1 f2 (runM f1 f2 M (k + 1))).length = M.n := by unfold prM; split; exact hf2 _ a1; exact hf1 _ a1
      have := nxt_v (M := (runM f1 f2 M (k + 1)).1) (x := prM f1 f2 (runM f1 f2 M (k + 1))) ⟨a4, a3⟩ (by rw [hp, a2]) (fun _ => by rw [i2, a2])
      rw [a2] at this; exact this
  exact fun k hk => (key k hk).2
end Go.Sx

set_option linter.unusedVariables false
set_option linter.unusedSimpArgs false
set_option maxRecDepth 20000
/-! ### a machine's memory: a block of seven cells -/
namespace Go.Sx
def mDc (n st : Int) (est : Nat) (V S : AV) (j ct : Int) : List AV := [.int .i64 n, .int .i64 st, .flt est, V, S, .int .i64 j, .int .i64 ct]
theorem mCe_D (M : MS) : mCe M = mDc (M.n : Int) (M.st : Int) M.est (LV M.v) (LV M.s) (M.j : Int) (M.ct : Int) := rfl
theorem mDc_mx {n st : Int} {est : Nat} {V S : AV} {j ct : Int} (hV : mx V = 0) (hS : mx S = 0) : mxL (mDc n st est V S j ct) = 0 := by simp [mDc, mxL, mx, hV, hS]
abbrev mP (mid : Nat) : AV := .eptr (.slm mid 7 0 1 7) 0
section
variable {P : Program} {cfg : Cfg} {e : List (Nat × EV)} {L : List (Nat × List AV)} {H N : List (List AV)} {K : St → Prop} {ty : TypeId} {pos : String} {aft : Array Edge} {gd : Option (Nat × Bool)} {dd : Nat}
theorem l_mM {t : TypeId} {mid off : Nat} {cs : List AV} {c : AV} [i : TyI P t 1 false] (hb : mid < H.length) (hg : cs.length = 7) (hl : cs[off]? = some c) (hk : K ⟨(dd, .val c) :: e, L, H.set mid cs ++ N⟩) :
    loadK P t dd K ⟨e, L, H.set mid cs ++ N⟩ (.val (.eptr (.slm mid 7 0 1 7) off)) :=
  l_o1 (hb_set hb) hg (by rw [Nat.zero_add]; exact hl) hk
theorem b_stM {t : TypeId} {x v : Operand} {mid off : Nat} {a : Bool} {cs cs' : List AV} {c : AV} {ev : EV} [ti : TyI P t 1 a] (hx : St.ev ⟨e, L, H.set mid cs ++ N⟩ x = .val (.eptr (.slm mid 7 0 1 7) off)) (hv : St.ev ⟨e, L, H.set mid cs ++ N⟩ v = ev) (hvs : ev.asV.bind AV.cells = some [c])
    (hb : mid < H.length) (hg : cs.length = 7) (ho : off < 7) (hm : mx c = 0) (hcs : cs.set off c = cs') (h : K ⟨e, L, H.set mid cs' ++ N⟩) :
    opX P cfg ⟨none, .store t x v, ty, pos, aft, gd⟩ K ⟨e, L, H.set mid cs ++ N⟩ := by
  subst hcs
  refine b_stH hx hv hvs rfl (hg_old (hb_set hb)) hg (by simp; omega) (.inr (by simp [mxL, hm])) rfl ?_
  rw [Nat.zero_add, sc_one, hs_old (by simpa using hb), List.set_set]; exact h
end
section
variable {H N : List (List AV)} {mid : Nat} {c c' : List AV} {v : AV}
theorem set_app9 (hb : mid < H.length) (B : List (List AV)) (y : List AV) : (H ++ B).set mid c ++ [y] = H.set mid c ++ (B ++ [y]) := by rw [hs_old hb, List.append_assoc]
theorem set_app0 (hb : mid < H.length) (B : List (List AV)) : (H ++ B).set mid c = H.set mid c ++ B := hs_old hb
theorem bx_at (hb : mid < H.length) : ((H ++ [[v]]).set mid c ++ N)[H.length + 0]? = some [v] := by
  rw [hs_old hb, List.append_assoc]; exact hg_new (by simp) rfl
theorem md_at (hb : mid < H.length) (B : List (List AV)) : ((H ++ B).set mid c ++ N)[mid]? = some c := hg_old (hb_set (by simp; omega))
theorem OldOk.mdl {n : Nat} {N' : List (List AV)} (hn : n ≤ H.length) (hm : mxL c' = 0) : OldOk n (H.set mid c ++ N) (H.set mid c' ++ N') := by
  have h := OldOk.set (A := H.set mid c) (N := N) (N' := N') (n := n) (i := mid) (cs := c') (by simpa using hn) (by rw [hm]; exact Nat.zero_le _)
  rwa [List.set_set] at h
end
theorem k_mnM {e e' : List (Nat × EV)} {L : List (Nat × List AV)} {H N : List (List AV)} {K : St → Prop} {nY : NY} {o : Oper} {mid : Nat} {c c' : List AV} (hb : mid < H.length) (hW : ∀ id, nY.W id = true → id ≠ mid) (h : K ⟨e', L, H.set mid c' ++ N⟩) : ckK (.mn false) nY o ⟨e, L, H.set mid c ++ N⟩ K ⟨e', L, H.set mid c' ++ N⟩ := by
  refine ⟨⟨fun _ _ => rfl, fun id hw _ => ?_⟩, h⟩
  have hne : id ≠ mid := hW id (by rcases hw with hw | hw; exact absurd hw (by simp); exact hw)
  rcases Nat.lt_or_ge id H.length with h1 | h1
  · rw [List.getElem?_append_left (by simpa using h1), List.getElem?_append_left (by simpa using h1), List.getElem?_set_ne (by omega), List.getElem?_set_ne (by omega)]
  · rw [List.getElem?_append_right (by simpa using h1), List.getElem?_append_right (by simpa using h1)]; simp
theorem cn_1 : cn 4607182418800017408 = 4607182418800017408 := by decide
theorem cn_2 : cn 4611686018427387904 = 4611686018427387904 := by decide
theorem cn_m1 : cn 13830554455654793216 = 13830554455654793216 := by decide
/-- what is written so far -/
def wrF (g : Nat → Nat) (k : Nat) : Nat → Nat := fun i => if i < k then g i else 0
theorem wr_zero (g : Nat → Nat) (n : Nat) : List.replicate n 0 = rml (wrF g 0) n := by
  apply List.ext_getElem
  · simp
  · intro i h1 h2; simp [rml, wrF]
theorem wr_step {g : Nat → Nat} {n k : Nat} (hk : k < n) : (rml (wrF g k) n).set k (g k) = rml (wrF g (k + 1)) n := by
  apply List.ext_getElem
  · simp
  · intro i h1 h2
    rw [List.getElem_set]
    simp only [rml, List.getElem_map, List.getElem_range]
    unfold wrF
    by_cases h : k = i
    · subst h; rw [if_pos rfl, if_pos (by omega)]
    · rw [if_neg h]
      by_cases h9 : i < k
      · rw [if_pos h9, if_pos (by omega)]
      · rw [if_neg h9, if_neg (by omega)]
theorem wr_all (g : Nat → Nat) (n : Nat) : rml (wrF g n) n = rml g n := rml_congr fun i hi => by unfold wrF; rw [if_pos hi]
theorem vecL_all (l : List Nat) : vecL l 0 (l.length : Int) 1 = l := by
  apply List.ext_getElem
  · simp
  · intro i h1 h2
    have e := vecL_get (l := l) (off := 0) (n := (l.length : Int)) (inc := 1) (k := i) (by simpa using h1)
    rw [show ((0 : Int) + (i : Int) * 1).toNat = i by omega] at e
    simp only [List.getD_eq_getElem?_getD, List.getElem?_eq_getElem h1, List.getElem?_eq_getElem h2, Option.getD_some] at e
    exact e
theorem vec_ok {l : List Nat} (h : l.length ≤ 64) : VI l.length 0 (l.length : Int) 1 ∧ RightP l.length 0 (l.length : Int) 1 := by
  refine ⟨⟨by omega, by omega, by omega, by omega, by omega, by omega, by omega⟩, ?_⟩
  unfold RightP; omega
/-- two lists of signs are the same, or there is a first place where they aren't -/
theorem sg_feq {x y : Nat} (hx : x = 4607182418800017408 ∨ x = 13830554455654793216) (hy : y = 4607182418800017408 ∨ y = 13830554455654793216) : feq x y = decide (x = y) := by
  rcases hx with rfl | rfl <;> rcases hy with rfl | rfl <;> decide +kernel
theorem first_ne (l m : List Nat) (h : l.length = m.length) : l = m ∨ ∃ z, z < l.length ∧ (∀ k, k < z → l.getD k 0 = m.getD k 0) ∧ l.getD z 0 ≠ m.getD z 0 := by
  obtain ⟨z, h1, h2, h3⟩ := first_bad (fun k => l.getD k 0 = m.getD k 0) l.length
  by_cases hz : z < l.length
  · exact .inr ⟨z, hz, h2, h3 hz⟩
  · left
    apply List.ext_getElem h
    intro i a b
    have := h2 i (by omega)
    simpa [List.getD_eq_getElem?_getD, List.getElem?_eq_getElem a, List.getElem?_eq_getElem b] using this
end Go.Sx

set_option linter.unusedVariables false
set_option linter.unusedSimpArgs false
set_option maxRecDepth 20000
namespace Go.Sx
open Go.Proofs

theorem fr_nz {n k z : Nat} {A N : List (List AV)} {l : List Nat} (hA : A.length = n) (h : N[k]? = some (fl l)) (hl : l.length = z) : Fr n [] (A ++ N) (.slm (n + k) z 0 z 1) (.sl none z (fl l)) :=
  Fr.fz (by omega) (by simp) (hg_new hA h) (by simpa using hl) (gc_all _ (by simp [hl])) (Frs.old (by rw [mxL_fl]; exact Nat.zero_le _))
attribute [local irreducible] Ex exOps exD opX opE thenX blkX RetQ Spec CSpec Fr condK guardK guardD ckK valK pickK loadK faK callK argK gK fK rK RetV lpX prK
set_option maxHeartbeats 4000000 in
theorem clone_z (H : List (List AV)) (D : AV) (l : List Nat) (hF : FL H D l) (hB : l.length ≤ 2 ^ 30) (hN : NN D) :
    CSpec Tryz.prog 106 [D] H (.sl none l.length (fl l)) H := by
  refine .mk (fun args w => Tryz.call106 args w) (Spec.intro' (fn := Tryz.f106) Tryz.func106 rfl (by kernel_rfl) (by simp) false [] (draw := drawX Tryz.prog ⟨false, _, []⟩) dOk ?_)
  simp only [argE, Nat.reduceAdd]
  repeat' (first
    | (refine gateE ?_; (first | refine b_c0 ?_ | refine b_nil ?_ | fail))
    | (refine gateO ?_; (first | refine m14 ?_ | refine b_nilF hN (by (conv => {lhs; whnf}); done) (by exact rfl) ?_ | refine b_bslN (by exact rfl) (by exact rfl) (by decide) (by exact rfl) (by (conv => {lhs; whnf}); done) ?_ | refine b_appN (by (conv => {lhs; whnf}); done) (by (conv => {lhs; whnf}); done) (by exact rfl) (by exact rfl) (by exact src_fl' hF) (by simp) (by exact rfl) (by simp; omega) (.inl (Nat.le_refl _)) (by exact rfl) (by (conv => {lhs; simp only [List.nil_append, fl_app, il_app]}); done) (by (conv => {lhs; simp only [List.set_cons_zero, List.set_cons_succ]}); done) (by (conv => {lhs; simp only [fl_len, il_len, List.length_append, List.length_nil, Nat.zero_add]}); done) (by (conv => {lhs; simp only [Nat.zero_add]}); done) ?_ | (refine m45 ?_; (first | refine v_bbT (by exact rfl) ?_ | refine v_k ?_ | fail)) | (refine m00 ?_; (first | refine m52 ?_ | refine m53 ?_ | refine v_eP ?_ | refine m49 ?_ | refine m50 ?_ | refine v_k ?_ | refine m51 ?_ | fail)) | refine m42 ?_ | refine b_assignI ?_ | refine b_assignN ?_ | refine m08 ?_ | refine b_bslZ (by exact rfl) (by exact rfl) (by decide) ?_ | fail))
    | (refine gateT ?_; (first | refine b_thn ?_ | refine b_thr ?_ | refine b_the ?_ | fail))
    | (refine gateX ?_; (first | refine b_seq ?_ | refine b_region ?_ | (refine m06 ?_; (first | refine c_T ?_ | refine c_F ?_ | refine c_P ?_ ?_ | refine c_B ?_ ?_ | fail)) | refine b_ret ?_ | refine b_skip ?_ | refine b_block ?_ | refine b_exit ?_ | fail))
    | refine m44 ?_
    | refine m40 ?_
    | (refine gk_nilN (by (conv => {lhs; simp only [List.nil_append, List.cons_append]}); done) ?_; first | refine ⟨by exact rfl, ?_⟩ | skip)
    | refine gk_nil ?_
    | (intro N' hN'; simp only [List.nil_append, List.cons_append] at hN'; subst hN')
    | (refine gateQ ?_; refine m05 ?_)
    | (refine gateR ?_; (first | refine m04 ?_ | refine m02 ?_ | refine m03 ?_ | refine rk_nil ?_ | fail))
    | (refine ⟨by simp [oneC], fun N' hN' => ?_⟩; simp only [List.nil_append, List.cons_append] at hN'; subst hN')
    | intro _)
  all_goals first
    | exact rv_fr rfl (fr_nz rfl rfl rfl)

set_option maxHeartbeats 4000000 in
theorem lvec_c (H : List (List AV)) (X : AV) (l : List Nat) (hF : FL H X l) :
    CSpec Tryz.prog 149 [X] H (vt X 0 (l.length : Int) 1) H := by
  refine .mk (fun args w => Tryz.call149 args w) (Spec.intro' (fn := Tryz.f149) Tryz.func149 rfl (by kernel_rfl) (by simp) false [] (draw := drawX Tryz.prog ⟨false, _, []⟩) dOk ?_)
  simp only [argE, Nat.reduceAdd]
  repeat' (first
    | (refine gateE ?_; (first | refine b_c0 ?_ | refine b_nil ?_ | fail))
    | (refine gateO ?_; (first | refine m14 ?_ | refine b_lenA (by (conv => {lhs; whnf}); done) (by exact hF.len) ?_ | refine b_lenA (by (conv => {lhs; whnf}); done) (by first | rfl | assumption) ?_ | refine m25 ?_ | refine m24 ?_ | refine b_build ?_ | fail))
    | (refine gateT ?_; (first | refine b_thn ?_ | refine b_thr ?_ | refine b_the ?_ | fail))
    | (refine gateX ?_; (first | refine b_seq ?_ | refine b_region ?_ | (refine m06 ?_; (first | refine c_T ?_ | refine c_F ?_ | refine c_P ?_ ?_ | refine c_B ?_ ?_ | fail)) | refine b_ret ?_ | refine b_skip ?_ | refine b_block ?_ | refine b_exit ?_ | fail))
    | refine m58 ?_
    | refine fk_nil ?_
    | (refine gateQ ?_; refine m05 ?_)
    | (refine gateR ?_; (first | refine m04 ?_ | refine m02 ?_ | refine m03 ?_ | refine rk_nil ?_ | fail))
    | intro _)
  all_goals first
    | (exfalso; contradiction)
    | (exfalso; omega)
    | (refine rv_old rfl (by have h9 := hF.mx; simp [mx, mxL, resOne, aOf, aOf1, vt, h9]) ?_; simp only [cn_1, cn_2, cn_m1]; exact rfl)
    | (refine rv_old rfl (by have h9 := hF.mx; simp [mx, mxL, resOne, aOf, aOf1, vt, h9]) ?_; exact rfl)
    | (exfalso; simp_all; done)

set_option maxHeartbeats 4000000 in
theorem kb_c (H : List (List AV)) (mid : Nat) (cs : List AV) (hm : H[mid]? = some cs) (h7 : cs.length = 7) (bk : Nat) (hbk : H[bk]? = some [mP mid]) (n : Int) (hc : cs[0]? = some (.int .i64 n)) (i : Int) :
    CSpec Tryz.prog 147 [.int .i64 i, .eptr (.slm bk 1 0 1 1) 0] H (.flt (fdiv 4607182418800017408 (iF n))) H := by
  refine .mk (fun args w => Tryz.call147 args w) (Spec.intro' (fn := Tryz.f147) Tryz.func147 rfl (by kernel_rfl) (by simp) false [] (draw := drawX Tryz.prog ⟨false, _, []⟩) dOk ?_)
  simp only [argE, Nat.reduceAdd]
  repeat' (first
    | (refine gateE ?_; (first | refine b_c0 ?_ | refine b_nil ?_ | fail))
    | (refine gateO ?_; (first | (refine m17 ?_; first | refine m19 ?_ | refine m18 ?_) | (refine m07 ?_; (first | refine m15 ?_ | refine m16 ?_ | refine l_o1 hbk (by exact rfl) (by exact rfl) ?_ | refine l_o1 hm h7 (by rw [Nat.zero_add]; exact hc) ?_ | fail)) | refine b_nilC (by (conv => {lhs; whnf}); done) ?_ | (refine m00 ?_; (first | refine m49 ?_ | refine m50 ?_ | refine v_qc (by omega) (by omega) ?_ | refine v_k ?_ | refine m51 ?_ | fail)) | refine m42 ?_ | refine b_assignI ?_ | refine b_assignN ?_ | refine m08 ?_ | (refine m46 ?_; (first | refine m49 ?_ | refine m50 ?_ | refine v_qc (by omega) (by omega) ?_ | refine v_k ?_ | refine m51 ?_ | fail)) | refine b_cnvF (by (conv => {lhs; whnf}); done) (by exact rfl) ?_ | refine b_cnvIF (by (conv => {lhs; whnf}); done) ?_ | fail))
    | (refine gateT ?_; (first | refine b_thn ?_ | refine b_thr ?_ | refine b_the ?_ | fail))
    | (refine gateX ?_; (first | refine b_seq ?_ | refine b_region ?_ | (refine m06 ?_; (first | refine c_T ?_ | refine c_F ?_ | refine c_P ?_ ?_ | refine c_B ?_ ?_ | fail)) | refine b_ret ?_ | refine b_skip ?_ | refine b_block ?_ | refine b_exit ?_ | fail))
    | (refine gateQ ?_; refine m05 ?_)
    | (refine gateR ?_; (first | refine m04 ?_ | refine m02 ?_ | refine m03 ?_ | refine rk_nil ?_ | fail))
    | intro _)
  all_goals first
    | (exfalso; contradiction)
    | (exfalso; omega)
    | (refine rv_old rfl (by simp [mx, mxL, resOne, aOf, aOf1]) ?_; simp only [cn_1, cn_2, cn_m1]; exact rfl)
    | (refine rv_old rfl (by simp [mx, mxL, resOne, aOf, aOf1]) ?_; exact rfl)
    | (exfalso; simp_all; done)

set_option maxHeartbeats 4000000 in
theorem ks_c (H : List (List AV)) (mid : Nat) (cs : List AV) (hm : H[mid]? = some cs) (h7 : cs.length = 7) (bk : Nat) (hbk : H[bk]? = some [mP mid]) (X : AV) (hc : cs[4]? = some X) (x : List Nat) (hX : FL H X x) (i : Nat) (hi : i < x.length) :
    CSpec Tryz.prog 172 [.int .i64 (i : Int), .eptr (.slm bk 1 0 1 1) 0] H (.flt (x.getD i 0)) H := by
  refine .mk (fun args w => Tryz.call172 args w) (Spec.intro' (fn := Tryz.f172) Tryz.func172 rfl (by kernel_rfl) (by simp) false [] (draw := drawX Tryz.prog ⟨false, _, []⟩) dOk ?_)
  simp only [argE, Nat.reduceAdd]
  repeat' (first
    | (refine gateE ?_; (first | refine b_c0 ?_ | refine b_nil ?_ | fail))
    | (refine gateO ?_; (first | refine m14 ?_ | (refine m17 ?_; first | refine m19 ?_ | refine m18 ?_) | (refine m07 ?_; (first | refine m15 ?_ | refine m16 ?_ | refine l_o1 hbk (by exact rfl) (by exact rfl) ?_ | refine l_o1 hm h7 (by rw [Nat.zero_add]; exact hc) ?_ | refine l_FL (FL.app hX _) hi ?_ | fail)) | refine b_nilC (by (conv => {lhs; whnf}); done) ?_ | refine b_iaN (by (conv => {lhs; whnf}); done) (by (conv => {lhs; whnf}); done) (by exact hX.len) (by omega) ?_ | refine m42 ?_ | refine b_assignI ?_ | refine b_assignN ?_ | refine m08 ?_ | fail))
    | (refine gateT ?_; (first | refine b_thn ?_ | refine b_thr ?_ | refine b_the ?_ | fail))
    | (refine gateX ?_; (first | refine b_seq ?_ | refine b_region ?_ | (refine m06 ?_; (first | refine c_T ?_ | refine c_F ?_ | refine c_P ?_ ?_ | refine c_B ?_ ?_ | fail)) | refine b_ret ?_ | refine b_skip ?_ | refine b_block ?_ | refine b_exit ?_ | fail))
    | (refine gateQ ?_; refine m05 ?_)
    | (refine gateR ?_; (first | refine m04 ?_ | refine m02 ?_ | refine m03 ?_ | refine rk_nil ?_ | fail))
    | intro _)
  all_goals first
    | (exfalso; contradiction)
    | (exfalso; omega)
    | (refine rv_old rfl (by simp [mx, mxL, resOne, aOf, aOf1]) ?_; simp only [cn_1, cn_2, cn_m1]; exact rfl)
    | (refine rv_old rfl (by simp [mx, mxL, resOne, aOf, aOf1]) ?_; exact rfl)
    | (exfalso; simp_all; done)

set_option maxHeartbeats 4000000 in
theorem ku_c (H : List (List AV)) (mid : Nat) (cs : List AV) (hm : H[mid]? = some cs) (h7 : cs.length = 7) (bk : Nat) (hbk : H[bk]? = some [mP mid]) (j : Nat) (hc : cs[5]? = some (.int .i64 (j : Int))) (i : Nat) :
    CSpec Tryz.prog 173 [.int .i64 (i : Int), .eptr (.slm bk 1 0 1 1) 0] H (.flt (yU j i)) H := by
  refine .mk (fun args w => Tryz.call173 args w) (Spec.intro' (fn := Tryz.f173) Tryz.func173 rfl (by kernel_rfl) (by simp) false [] (draw := drawX Tryz.prog ⟨false, _, []⟩) dOk ?_)
  simp only [argE, Nat.reduceAdd]
  repeat' (first
    | (refine gateE ?_; (first | refine b_c0 ?_ | refine b_nil ?_ | fail))
    | (refine gateO ?_; (first | refine m14 ?_ | (refine m17 ?_; first | refine m19 ?_ | refine m18 ?_) | (refine m07 ?_; (first | refine m15 ?_ | refine m16 ?_ | refine l_o1 hbk (by exact rfl) (by exact rfl) ?_ | refine l_o1 hm h7 (by rw [Nat.zero_add]; exact hc) ?_ | fail)) | refine b_nilC (by (conv => {lhs; whnf}); done) ?_ | (refine m45 ?_; (first | refine v_bbT (by exact rfl) ?_ | refine v_k ?_ | fail)) | (refine m00 ?_; (first | refine m52 ?_ | refine m53 ?_ | refine v_eP ?_ | refine m49 ?_ | refine m50 ?_ | refine v_k ?_ | refine m51 ?_ | fail)) | refine m42 ?_ | refine b_assignI ?_ | refine b_assignN ?_ | refine m08 ?_ | fail))
    | (refine gateT ?_; (first | refine b_thn ?_ | refine b_thr ?_ | refine b_the ?_ | fail))
    | (refine gateX ?_; (first | refine b_seq ?_ | refine b_region ?_ | (refine m06 ?_; (first | refine c_T ?_ | refine c_F ?_ | refine c_P ?_ ?_ | refine c_B ?_ ?_ | fail)) | refine b_ret ?_ | refine b_skip ?_ | refine b_block ?_ | refine b_exit ?_ | fail))
    | (refine gateQ ?_; refine m05 ?_)
    | (refine gateR ?_; (first | refine m04 ?_ | refine m02 ?_ | refine m03 ?_ | refine rk_nil ?_ | fail))
    | intro _)
  all_goals first
    | (refine rv_old rfl (by simp [mx, mxL, resOne, aOf, aOf1]) ?_; unfold yU; rw [if_pos (by omega)]; exact rfl)
    | (refine rv_old rfl (by simp [mx, mxL, resOne, aOf, aOf1]) ?_; unfold yU; rw [if_neg (by omega)]; exact rfl)

set_option maxHeartbeats 4000000 in
theorem kl_c (H : List (List AV)) (mid : Nat) (cs : List AV) (hm : H[mid]? = some cs) (h7 : cs.length = 7) (bk : Nat) (hbk : H[bk]? = some [mP mid]) (n : Nat) (hn : n ≤ 64) (hc : cs[0]? = some (.int .i64 (n : Int))) (i : Nat) (hi : i < 64) :
    CSpec Tryz.prog 176 [.int .i64 (i : Int), .eptr (.slm bk 1 0 1 1) 0] H (.flt (yL n i)) H := by
  refine .mk (fun args w => Tryz.call176 args w) (Spec.intro' (fn := Tryz.f176) Tryz.func176 rfl (by kernel_rfl) (by simp) false [] (draw := drawX Tryz.prog ⟨false, _, []⟩) dOk ?_)
  simp only [argE, Nat.reduceAdd]
  repeat' (first
    | (refine gateE ?_; (first | refine b_c0 ?_ | refine b_nil ?_ | fail))
    | (refine gateO ?_; (first | refine m14 ?_ | (refine m17 ?_; first | refine m19 ?_ | refine m18 ?_) | (refine m07 ?_; (first | refine m15 ?_ | refine m16 ?_ | refine l_o1 hbk (by exact rfl) (by exact rfl) ?_ | refine l_o1 hm h7 (by rw [Nat.zero_add]; exact hc) ?_ | fail)) | refine b_nilC (by (conv => {lhs; whnf}); done) ?_ | (refine m45 ?_; (first | refine v_bbT (by exact rfl) ?_ | refine v_k ?_ | fail)) | (refine m00 ?_; (first | refine m52 ?_ | refine m53 ?_ | refine v_eP ?_ | refine m49 ?_ | refine m50 ?_ | refine v_mod (by omega) (by omega) ?_ | refine v_qc (by omega) (by omega) ?_ | refine v_k ?_ | refine m51 ?_ | fail)) | refine m42 ?_ | refine b_assignI ?_ | refine b_assignN ?_ | refine m08 ?_ | (refine m20 ?_; (first | refine m52 ?_ | refine m53 ?_ | refine v_eP ?_ | refine m49 ?_ | refine m50 ?_ | refine v_mod (by omega) (by omega) ?_ | refine v_qc (by omega) (by omega) ?_ | refine v_k ?_ | refine m51 ?_ | fail)) | (refine m46 ?_; (first | refine m52 ?_ | refine m53 ?_ | refine v_eP ?_ | refine m49 ?_ | refine m50 ?_ | refine v_mod (by omega) (by omega) ?_ | refine v_qc (by omega) (by omega) ?_ | refine v_k ?_ | refine m51 ?_ | fail)) | refine b_cnvF (by (conv => {lhs; whnf}); done) (by exact rfl) ?_ | refine b_cnvIF (by (conv => {lhs; whnf}); done) ?_ | fail))
    | (refine gateT ?_; (first | refine b_thn ?_ | refine b_thr ?_ | refine b_the ?_ | fail))
    | (refine gateX ?_; (first | refine b_seq ?_ | refine b_region ?_ | (refine m06 ?_; (first | refine c_T ?_ | refine c_F ?_ | refine c_P ?_ ?_ | refine c_B ?_ ?_ | fail)) | refine b_ret ?_ | refine b_skip ?_ | refine b_block ?_ | refine b_exit ?_ | fail))
    | (refine gateQ ?_; refine m05 ?_)
    | (refine gateR ?_; (first | refine m04 ?_ | refine m02 ?_ | refine m03 ?_ | refine rk_nil ?_ | fail))
    | intro _)
  all_goals first
    | (refine rv_old rfl (by simp [mx, mxL, resOne, aOf, aOf1]) ?_; unfold yL; rw [if_pos (by omega)]; simp only [cn_1]; exact rfl)
    | (refine rv_old rfl (by simp [mx, mxL, resOne, aOf, aOf1]) ?_; unfold yL; rw [if_neg (by omega)]; simp only [cn_1]; exact rfl)

set_option maxHeartbeats 4000000 in
theorem ask_c (H : List (List AV)) (mid : Nat) (hb : mid < H.length) (n : Nat) (hn : n ≤ 64) (st0 : Int) (est : Nat) (V S : AV) (hV : mx V = 0) (hS : mx S = 0) (j ct : Int) (st kind : Int) (fid : Nat) (caps : List AV) (g : Nat → Nat) (hcl : ∀ N i, i < n → CSpec Tryz.prog fid ([.int .i64 (i : Int)] ++ caps) (H.set mid (mDc (n : Int) st est V S j ct) ++ N) (.flt (g i)) (H.set mid (mDc (n : Int) st est V S j ct) ++ N)) (H0 H' : List (List AV)) (h0 : H.set mid (mDc (n : Int) st0 est V S j ct) = H0) (h' : H.set mid (mDc (n : Int) st est V S j ct) ++ [fl (rml g n)] = H') (m : Nat) (hm9 : H.length = m) :
    CSpec Tryz.prog 146 [mP mid, .int .i64 st, .int .i64 kind, .func fid [] caps] H0 (.tup [.slm m n 0 n 1, .int .i64 kind]) H' := by
  subst h0 h' hm9
  refine .mk (fun args w => Tryz.call146 args w) (Spec.intro' (fn := Tryz.f146) Tryz.func146 rfl (by kernel_rfl) (by simp) false [] (draw := drawX Tryz.prog ⟨false, _, []⟩) dOk ?_)
  simp only [argE, Nat.reduceAdd]
  repeat' (first
    | (refine gateE ?_; (first | refine b_c0 ?_ | refine b_nil ?_ | fail))
    | (refine gateO ?_; (first | refine m41 ?_ | refine b_moveI ?_ | refine m14 ?_ | (refine m17 ?_; first | refine m19 ?_ | refine m18 ?_) | (refine m07 ?_; (first | refine m15 ?_ | refine m16 ?_ | refine l_mM hb (by exact rfl) (by exact rfl) ?_ | fail)) | refine b_nilC (by (conv => {lhs; whnf}); done) ?_ | refine b_stM (by (conv => {lhs; whnf}); done) (by (conv => {lhs; whnf}); done) (by exact rfl) hb (by exact rfl) (by decide) (by exact rfl) (by exact rfl) ?_ | refine b_mkf (n₀ := H.length) (by (conv => {lhs; whnf}); done) (by (conv => {lhs; whnf}); done) (by simp) (by (conv => {lhs; whnf}); done) (by (conv => {lhs; simp only [List.nil_append, List.cons_append]}); done) (by exact rfl) (by omega) ?_ | refine b_lenA (by (conv => {lhs; whnf}); done) (by exact rfl) ?_ | refine b_iaN (by (conv => {lhs; whnf}); done) (by (conv => {lhs; whnf}); done) (by exact rfl) (by omega) ?_ | refine b_stN (m := rml (wrF g k) n) (m' := rml (wrF g (k + 1)) n) (by (conv => {lhs; whnf}); done) (by (conv => {lhs; whnf}); done) (by simp) (by exact rfl) (by simp) (by simp; omega) (by rw [Nat.zero_add]; exact wr_step hk) (by exact rfl) ?_ | (refine m00 ?_; (first | refine v_to ((k + 1 : Nat) : Int) (by omega) (by omega) ?_ | refine m47 ?_ | refine m48 ?_ | refine m49 ?_ | refine m50 ?_ | refine v_k ?_ | refine m51 ?_ | fail)) | refine m42 ?_ | refine b_assignI ?_ | refine b_assignN ?_ | refine m08 ?_ | refine b_callB ?_ | refine m39 ?_ | refine b_lenA (by (conv => {lhs; whnf}); done) (by first | rfl | assumption) ?_ | refine m25 ?_ | fail))
    | (refine gateT ?_; (first | refine b_thn ?_ | refine b_thr ?_ | refine b_the ?_ | fail))
    | (refine gateX ?_; (first | refine b_seq ?_ | refine b_region ?_ | (refine m06 ?_; (first | refine c_T ?_ | refine c_F ?_ | refine c_P ?_ ?_ | refine c_B ?_ ?_ | fail)) | refine b_ret ?_ | refine b_skip ?_ | refine b_block ?_ | refine b_exit ?_ | (refine b_loop [2, 3, 10, 22, 23] n (fun k => ⟨[(2, .val (.int .i64 kind)), (3, .val (.func fid [] caps)), (10, .val (.slm (H.length + 0) n 0 n 1)), (22, .val (.int .i64 ((n : Nat) : Int))), (23, .val (.int .i64 ((k : Nat) : Int)))], [], H.set mid (mDc (n : Int) st est V S j ct) ++ [fl (rml (wrF g k) n)]⟩) (by rw [← wr_zero]; exact rfl) ?_ ?_ <;> (first | intro k hk K hK | intro K) <;> (try dsimp only at *)) | fail))
    | refine m21 ?_
    | refine a_nil ?_
    | (refine gateK ?_; (first | refine c_call (hcl _ k hk) (OldOk.app (by simp)) ?_ | fail))
    | refine m44 ?_
    | refine m40 ?_
    | (refine gk_nilN (by (conv => {lhs; simp only [List.nil_append, List.cons_append]}); done) ?_; first | refine ⟨by exact rfl, ?_⟩ | skip)
    | refine gk_nil ?_
    | (intro N' hN'; simp only [List.nil_append, List.cons_append] at hN'; subst hN')
    | (refine gateB ?_; (first | refine b_bln ?_ | refine b_blr ?_ | refine b_ble ?_ | refine m57 ?_ | fail))
    | (refine gateL ?_; (first | refine lp_n ?_ | refine lp_r ?_ | refine lp_e ?_ | fail))
    | (refine pr_k (by exact rfl) ?_; first | exact hK | fail | (exfalso; first | omega | (simp_all; done) | (simp_all; omega)))
    | (refine gateQ ?_; refine m05 ?_)
    | (refine gateR ?_; (first | refine m04 ?_ | refine m02 ?_ | refine m03 ?_ | refine rk_nil ?_ | fail))
    | intro _)
  all_goals first
    | (exfalso; omega)
    | (rw [wr_all]; refine rv_kp (j := 0) (cs := fl (rml g n)) (by simp) rfl (by rw [mxL_fl]; exact Nat.zero_le _) ?_; simp only [List.length_set]; exact Fr.tup (Frs.cons (Fr.kp (j := 0) (cs := fl (rml g n)) rfl (hg_new (by simp) rfl) (by simp)) (Frs.cons (Fr.old (by simp [mx])) Frs.nil)))


end Go.Sx

set_option linter.unusedVariables false
set_option linter.unusedSimpArgs false
set_option maxRecDepth 20000
/-! ### a box of old that comes to lead to a new block -/
namespace Go.Sx
def RetVL (H₀ : List (List AV)) (r : AV) (H' H : List (List AV)) (vs : List AV) : Prop :=
  ∃ keep : List Nat, keep.Nodup ∧ (∀ k ∈ keep, H₀.length ≤ k ∧ ∃ cs, H[k]? = some cs) ∧ FrW H₀.length keep H H' ∧ Fr H₀.length keep H (resOne vs) r
theorem b_retL {P : Program} {fn : Func} {H₀ H H' : List (List AV)} {r : AV} {x : XE} {rs : List ResultVar} {e : List (Nat × EV)} {L : List (Nat × List AV)} (hx : x = .ret ∨ x = .normal) (hf : fn.results.toList = rs) (h : rK P rs [] (RetVL H₀ r H' H) ⟨e, L, H⟩) : RetL P fn H₀ r H' x ⟨e, L, H⟩ := by
  obtain ⟨vs, h1, keep, h2, h3, h4, h5⟩ := h
  subst hf
  exact ⟨by rcases hx with rfl | rfl <;> trivial, vs, keep, h1, h2, h3, h4, by simpa using h5⟩
/-- no block leads beyond the blocks there are -/
def MxOk (H : List (List AV)) : Prop := ∀ (id : Nat) cs, H[id]? = some cs → mxL cs ≤ H.length
theorem Spec.mxok {P : Program} {f : Nat} {args : List AV} {H H' : List (List AV)} {r : AV} (h : MxOk H → Spec P f args H r H') : Spec P f args H r H' := by
  intro w g c hw hl
  exact h (fun id cs hc => by obtain ⟨_, _, _, _, _, _, _, _, _, h6⟩ := hw.blk id cs hc; exact h6) w g c hw hl
theorem rvl_one {H : List (List AV)} {b : Nat} {c : List AV} (hb : b < H.length) (hm : MxOk H) (hc : mxL c = 0) (v : AV) (hv : v = .slm H.length c.length 0 c.length 1) :
    RetVL H (.tup []) (H.set b [v] ++ [c]) (H.set b [v] ++ [c]) [] := by
  subst hv
  have hl : (H.set b [AV.slm H.length c.length 0 c.length 1] ++ [c]).length = H.length + 1 := by simp
  have hn : (H.set b [AV.slm H.length c.length 0 c.length 1] ++ [c])[H.length]? = some c := by
    rw [List.getElem?_append_right (by simp)]; simp
  refine ⟨[H.length], by simp, fun k hk => ?_, ⟨by rw [hl]; rfl, fun id cs' hg => ?_⟩, ?_⟩
  · rw [List.mem_singleton.1 hk]; exact ⟨Nat.le_refl _, c, hn⟩
  · rcases Nat.lt_trichotomy id H.length with h | h | h
    · rw [List.getElem?_append_left (by simpa using h), List.getElem?_set] at hg
      by_cases hi : b = id
      · rw [if_pos hi, if_pos hb] at hg
        cases hg
        refine ⟨by rw [hl]; simp [mxL, mx], id, _, ?_, .inl ⟨h, rfl⟩, rfl, ?_⟩
        · rw [List.getElem?_append_left (by simpa using h), List.getElem?_set, if_pos hi, if_pos hb]
        · have := Fr.kp (n₀ := H.length) (keep := [H.length]) (H := H.set b [AV.slm H.length c.length 0 c.length 1] ++ [c]) (id := H.length) (gen := c.length) (off := 0) (len := c.length) (sz := 1) (j := 0) (cs := c) rfl hn rfl
          exact Frs.cons this Frs.nil
      · rw [if_neg hi] at hg
        have h1 := hm id cs' hg
        refine ⟨by rw [hl]; omega, id, cs', ?_, .inl ⟨h, rfl⟩, rfl, Frs.old h1⟩
        rw [List.getElem?_append_left (by simpa using h), List.getElem?_set, if_neg hi]; exact hg
    · subst h
      rw [hn] at hg; cases hg
      exact ⟨by rw [hc]; exact Nat.zero_le _, H.length, c, hn, .inr ⟨Nat.le_refl _, by simp⟩, rfl, Frs.old (by rw [hc]; exact Nat.zero_le _)⟩
    · rw [List.getElem?_eq_none (by rw [hl]; omega)] at hg; cases hg
  · exact Fr.tup Frs.nil
theorem OldOk.zero (H H' : List (List AV)) : OldOk 0 H H' := fun id _ h _ => absurd h (Nat.not_lt_zero id)
theorem Spec.introL' {P : Program} {f : Nat} {fn : Func} {body : Code} {args : List AV} {H H' : List (List AV)} {r : AV} (hf : P.funcs[f]? = some fn) (hb : fn.body = some body)
    (hd : dstsOk fn.ntmps body = true) (hn : args.length ≤ fn.ntmps) (esc : Bool) (fz : List Nat) {draw : Array Oper → (St → Prop) → St → Prop} (hdr : ∀ C : Cx, C.P = P → C.cfg = ⟨esc, 0, fz⟩ → DrawOk C draw)
    (h : Ex P ⟨esc, 0, fz⟩ draw body (RetL P fn H r H') ⟨argE 0 args, [], H ++ []⟩) : Spec P f args H r H' :=
  Spec.introL hf hb hd hn esc fz hdr (by rw [List.append_nil] at h; exact h)
section
variable {P : Program} {cfg : Cfg} {e : List (Nat × EV)} {L : List (Nat × List AV)} {A N : List (List AV)} {K : St → Prop} {ty : TypeId} {pos : String} {aft : Array Edge} {gd : Option (Nat × Bool)} {dd : Nat}
theorem b_stBx {t : TypeId} {x v : Operand} {b : Nat} {a : Bool} {c0 c : AV} {ev : EV} [ti : TyI P t 1 a] (hx : St.ev ⟨e, L, A ++ N⟩ x = .val (.eptr (.slm b 1 0 1 1) 0)) (hv : St.ev ⟨e, L, A ++ N⟩ v = ev) (hvs : ev.asV.bind AV.cells = some [c])
    (hc : A[b]? = some [c0]) (hm : cfg.n0 ≤ b ∨ mx c ≤ cfg.n0) (h : K ⟨e, L, A.set b [c] ++ N⟩) :
    opX P cfg ⟨none, .store t x v, ty, pos, aft, gd⟩ K ⟨e, L, A ++ N⟩ := by
  refine b_stH hx hv hvs rfl (hg_old hc) rfl (by simp) (by rcases hm with h | h; exact .inl h; exact .inr (by simpa [mxL] using h)) rfl ?_
  rw [Nat.zero_add, sc_one, hs_old (List.getElem?_eq_some_iff.1 hc).1]; exact h
theorem b_appO {t tx : TypeId} {s x : Operand} {q m by_ el' z' : Nat} {z c : AV} {cs : List AV} [ei : EI P t 1 by_ [z]] [si : SlI P tx el' z'] (hs : St.ev ⟨e, L, A ++ N⟩ s = .val (.slm q m 0 m 1)) (hx : St.ev ⟨e, L, A ++ N⟩ x = .val (.sl none 1 [c]))
    (hc : A[q]? = some cs) (hg : cs.length = m) (hm : m + 1 ≤ 2 ^ 32) (hmx : mx c = 0) (hz : (decide (by_ ≤ 2 ^ 10) && decide (0 < by_)) = true)
    (h : K ⟨(dd, .val (.slm q (m + 1) 0 (m + 1) 1)) :: e, L, A.set q (cs ++ [c]) ++ N⟩) :
    opX P cfg ⟨some dd, .call { callee := .builtin .append, args := #[s, x], argTypes := #[t, tx] }, ty, pos, aft, gd⟩ K ⟨e, L, A ++ N⟩ := by
  subst hg
  refine b_app1 (m := 1) (xs := [c]) hs hx (by simp [srcX, slen, sread, gc]) (hg_old hc) rfl (by omega) hm (.inr (by simp [mxL, hmx])) (by simpa using hz) ?_
  rw [hs_old (List.getElem?_eq_some_iff.1 hc).1]; exact h
end
/-- a result that is told as what nobody writes any more -/
theorem Spec.frz {P : Program} {f : Nat} {args : List AV} {H N : List (List AV)} {r r' : AV} (h : Spec P f args H r (H ++ N)) (hr : Fr H.length [] (H ++ N) r r') : Spec P f args H r' H := by
  intro w g c hw hl
  refine (h w g c hw hl).mono fun e w' ⟨v, g', h1, h2, h3, h4⟩ => ?_
  have hom : ∀ id cs, id < H.length → (H ++ N)[id]? = some cs → mxL cs ≤ H.length := fun id cs hid hc => by
    rw [List.getElem?_append_left hid] at hc
    obtain ⟨_, _, _, _, _, _, _, _, _, h6⟩ := hw.blk id cs hc; exact h6
  obtain ⟨k1, k2⟩ := fr_world hw h2 h3 hom (List.nodup_nil) (by simp)
  have e1 : frH H.length [] (H ++ N) = H := by simp [frH]
  rw [e1] at k1 k2
  obtain ⟨d, hd⟩ := hr
  exact ⟨v, _, h1, k1, k2, Fr_rep h2 (by simp) d r r' v hd h4⟩
theorem CSpec.frz {P : Program} {f : Nat} {args : List AV} {H N : List (List AV)} {r r' : AV} (he : Enters P f) (h : CSpec P f args H r (H ++ N)) (hr : Fr H.length [] (H ++ N) r r') : CSpec P f args H r' H := .inl ⟨he, (h.spec he).frz hr⟩
end Go.Sx

set_option linter.unusedVariables false
set_option linter.unusedSimpArgs false
set_option maxRecDepth 20000
namespace Go.Sx
open Go.Proofs
attribute [local irreducible] Ex exOps exD opX opE thenX blkX RetQ Spec CSpec Fr condK guardK guardD ckK valK pickK loadK faK callK argK gK fK rK RetV lpX prK
set_option maxHeartbeats 4000000 in
theorem sg1_0 (G : List (List AV)) (D : AV) (x : List Nat) (hF : ∀ N, FL (G ++ N) D x) (i : Nat) (hi : i < x.length) (b : Nat) (hb : G[b]? = some [.slnil]) :
    CSpec Tryz.prog 175 [.int .i64 (i : Int), .eptr D i, .eptr (.slm b 1 0 1 1) 0] G (.tup []) (G.set b [.slm G.length 1 0 1 1] ++ [fl [(sgF (x.getD i 0))]]) := by
  have hbl : b < G.length := (List.getElem?_eq_some_iff.1 hb).1
  refine .mk (fun args w => Tryz.call175 args w) (Spec.mxok (fun hmx => Spec.introL' (fn := Tryz.f175) Tryz.func175 rfl (by kernel_rfl) (by simp) false [12] (draw := drawX Tryz.prog ⟨false, 0, [12]⟩) dOk ?_))
  simp only [argE, Nat.reduceAdd]
  repeat' (first
    | (refine gateE ?_; (first | refine b_c0 ?_ | refine b_nil ?_ | fail))
    | (refine gateO ?_; (first | refine m14 ?_ | (refine m07 ?_; (first | refine m15 ?_ | refine m16 ?_ | refine l_FL (hF _) hi ?_ | refine l_o1 hb (by exact rfl) (by exact rfl) ?_ | fail)) | refine b_nilC (by (conv => {lhs; whnf}); done) ?_ | refine b_appZ (by (conv => {lhs; whnf}); done) (by (conv => {lhs; whnf}); done) (by exact rfl) (by decide) (by exact rfl) (by exact rfl) (by exact rfl) (by (conv => {lhs; whnf}); done) (by exact rfl) ?_ | refine b_stBx (by (conv => {lhs; whnf}); done) (by (conv => {lhs; whnf}); done) (by exact rfl) hb (.inl (Nat.zero_le _)) ?_ | (refine m00 ?_; (first | refine m47 ?_ | refine m48 ?_ | refine m49 ?_ | refine m50 ?_ | refine v_k ?_ | refine m51 ?_ | fail)) | refine m42 ?_ | refine b_assignI ?_ | refine b_assignN ?_ | refine m08 ?_ | refine m25 ?_ | refine b_bslZ (by exact rfl) (by exact rfl) (by decide) ?_ | fail))
    | (refine gateT ?_; (first | refine b_thn ?_ | refine b_thr ?_ | refine b_the ?_ | fail))
    | (refine gateX ?_; (first | refine b_seq ?_ | refine b_region ?_ | (refine m06 ?_; (first | refine c_T ?_ | refine c_F ?_ | refine c_P ?_ ?_ | refine c_B ?_ ?_ | fail)) | refine b_ret ?_ | refine b_skip ?_ | refine b_block ?_ | refine b_exit ?_ | fail))
    | refine m44 ?_
    | refine m40 ?_
    | (refine gk_nilN (by (conv => {lhs; simp only [List.nil_append, List.cons_append]}); done) ?_; first | refine ⟨by exact rfl, ?_⟩ | skip)
    | refine gk_nil ?_
    | (intro N' hN'; simp only [List.nil_append, List.cons_append] at hN'; subst hN')
    | (refine b_retL (by simp) (by (conv => {lhs; whnf}); done) ?_)
    | (refine gateR ?_; (first | refine m04 ?_ | refine m02 ?_ | refine m03 ?_ | refine rk_nil ?_ | fail))
    | intro _)
  all_goals first
    | (have e9 : sgF (x.getD i 0) = 4607182418800017408 := if_pos ‹(flt (cn 0) (x.getD i 0) || feq (x.getD i 0) (cn 0)) = true›; rw [e9]; exact rvl_one (c := fl [4607182418800017408]) hbl hmx (by rw [mxL_fl]) _ rfl)
    | (have e9 : sgF (x.getD i 0) = 13830554455654793216 := if_neg (by rw [‹(flt (cn 0) (x.getD i 0) || feq (x.getD i 0) (cn 0)) = false›]; exact Bool.false_ne_true); rw [e9]; exact rvl_one (c := fl [13830554455654793216]) hbl hmx (by rw [mxL_fl]) _ rfl)

set_option maxHeartbeats 4000000 in
theorem sg1_s (G : List (List AV)) (D : AV) (x : List Nat) (hF : ∀ N, FL (G ++ N) D x) (i : Nat) (hi : i < x.length) (b : Nat) (q m : Nat) (c : List Nat) (hb : G[b]? = some [.slm q m 0 m 1]) (hq : G[q]? = some (fl c)) (hm : c.length = m) (hne : q ≠ b) (hm2 : m < 2 ^ 30) :
    CSpec Tryz.prog 175 [.int .i64 (i : Int), .eptr D i, .eptr (.slm b 1 0 1 1) 0] G (.tup []) ((G.set q (fl (c ++ [(sgF (x.getD i 0))]))).set b [.slm q (m + 1) 0 (m + 1) 1]) := by
  have hbl : b < G.length := (List.getElem?_eq_some_iff.1 hb).1
  have hql : q < G.length := (List.getElem?_eq_some_iff.1 hq).1
  refine .mk (fun args w => Tryz.call175 args w) (Spec.intro' (fn := Tryz.f175) Tryz.func175 rfl (by kernel_rfl) (by simp) false [12] (draw := drawX Tryz.prog ⟨false, _, [12]⟩) dOk ?_)
  simp only [argE, Nat.reduceAdd]
  repeat' (first
    | (refine gateE ?_; (first | refine b_c0 ?_ | refine b_nil ?_ | fail))
    | (refine gateO ?_; (first | refine m14 ?_ | (refine m07 ?_; (first | refine m15 ?_ | refine m16 ?_ | refine l_FL (hF _) hi ?_ | refine l_o1 hb (by exact rfl) (by exact rfl) ?_ | fail)) | refine b_nilC (by (conv => {lhs; whnf}); done) ?_ | refine b_appO (by (conv => {lhs; whnf}); done) (by (conv => {lhs; whnf}); done) hq (by simpa using hm) (by omega) (by exact rfl) (by exact rfl) ?_ | refine b_stBx (by (conv => {lhs; whnf}); done) (by (conv => {lhs; whnf}); done) (by exact rfl) (by rw [List.getElem?_set_ne hne]; exact hb) (.inr (by show q + 1 ≤ G.length; omega)) ?_ | (refine m00 ?_; (first | refine m47 ?_ | refine m48 ?_ | refine m49 ?_ | refine m50 ?_ | refine v_k ?_ | refine m51 ?_ | fail)) | refine m42 ?_ | refine b_assignI ?_ | refine b_assignN ?_ | refine m08 ?_ | refine m25 ?_ | refine b_bslZ (by exact rfl) (by exact rfl) (by decide) ?_ | fail))
    | (refine gateT ?_; (first | refine b_thn ?_ | refine b_thr ?_ | refine b_the ?_ | fail))
    | (refine gateX ?_; (first | refine b_seq ?_ | refine b_region ?_ | (refine m06 ?_; (first | refine c_T ?_ | refine c_F ?_ | refine c_P ?_ ?_ | refine c_B ?_ ?_ | fail)) | refine b_ret ?_ | refine b_skip ?_ | refine b_block ?_ | refine b_exit ?_ | fail))
    | refine m44 ?_
    | refine m40 ?_
    | (refine gk_nilN (by (conv => {lhs; simp only [List.nil_append, List.cons_append]}); done) ?_; first | refine ⟨by exact rfl, ?_⟩ | skip)
    | refine gk_nil ?_
    | (intro N' hN'; simp only [List.nil_append, List.cons_append] at hN'; subst hN')
    | (refine gateQ ?_; refine m05 ?_)
    | (refine gateR ?_; (first | refine m04 ?_ | refine m02 ?_ | refine m03 ?_ | refine rk_nil ?_ | fail))
    | intro _)
  all_goals first
    | (have e9 : sgF (x.getD i 0) = 4607182418800017408 := if_pos ‹(flt (cn 0) (x.getD i 0) || feq (x.getD i 0) (cn 0)) = true›; rw [e9]; rw [← fl_app]; refine rv_old (by simp) (by simp [mx, mxL, resOne]) ?_; exact rfl)
    | (have e9 : sgF (x.getD i 0) = 13830554455654793216 := if_neg (by rw [‹(flt (cn 0) (x.getD i 0) || feq (x.getD i 0) (cn 0)) = false›]; exact Bool.false_ne_true); rw [e9]; rw [← fl_app]; refine rv_old (by simp) (by simp [mx, mxL, resOne]) ?_; exact rfl)

set_option maxHeartbeats 4000000 in
theorem each_g (Sf : Nat → List (List AV)) (D : AV) (x : List Nat) (hF : ∀ t N, FL (Sf t ++ N) D x) (h64 : x.length ≤ 64) (fid : Nat) (caps : List AV) (hS : ∀ i, i < x.length → CSpec Tryz.prog fid ([.int .i64 (i : Int), .eptr D i] ++ caps) (Sf i ++ []) (.tup []) (Sf (i + 1) ++ [])) (b : Nat) (hb : b < (Sf 0).length) (c : List AV) (hc : mxL c = 0) (hfin : Sf x.length = (Sf 0).set b [.slm (Sf 0).length c.length 0 c.length 1] ++ [c]) :
    CSpec Tryz.prog 174 [vt D 0 (x.length : Int) 1, .func fid [] caps] (Sf 0) (.tup []) (Sf x.length) := by
  refine .mk (fun args w => Tryz.call174 args w) (Spec.mxok (fun hmx => Spec.introL' (fn := Tryz.f174) Tryz.func174 rfl (by kernel_rfl) (by simp) false [] (draw := drawX Tryz.prog ⟨false, 0, []⟩) dOk ?_))
  simp only [argE, Nat.reduceAdd]
  repeat' (first
    | (refine gateE ?_; (first | refine b_c0 ?_ | refine b_nil ?_ | fail))
    | (refine gateO ?_; (first | refine m41 ?_ | refine b_moveI ?_ | refine m14 ?_ | (refine m17 ?_; first | refine m19 ?_ | refine m18 ?_) | (refine m07 ?_; (first | refine m15 ?_ | refine m16 ?_ | fail)) | refine b_iaM (m := i) (by (conv => {lhs; whnf}); done) (by (conv => {lhs; whnf}); done) (by exact (hF 0 []).len) (by omega) hi ?_ | (refine m00 ?_; (first | refine v_to ((i + 1 : Nat) : Int) (by omega) (by omega) ?_ | refine m49 ?_ | refine m47 ?_ | refine m48 ?_ | refine m49 ?_ | refine m50 ?_ | refine v_k ?_ | refine m51 ?_ | fail)) | refine m08 ?_ | refine b_callB ?_ | refine m39 ?_ | refine m01 ?_ | fail))
    | (refine gateT ?_; (first | refine b_thn ?_ | refine b_thr ?_ | refine b_the ?_ | fail))
    | (refine gateX ?_; (first | refine b_seq ?_ | refine b_region ?_ | (refine m06 ?_; (first | refine c_T ?_ | refine c_F ?_ | refine c_P ?_ ?_ | refine c_B ?_ ?_ | fail)) | refine b_ret ?_ | refine b_skip ?_ | refine b_block ?_ | refine b_exit ?_ | (refine b_loop [1, 2, 6, 7] x.length (fun i => ⟨[(1, .val (.func fid [] caps)), (2, .loc 2 0), (6, .val (.int .i64 ((x.length : Nat) : Int))), (7, .val (.int .i64 ((i : Nat) : Int)))], [(2, [D, .int .i64 0, .int .i64 (x.length : Int), .int .i64 1])], Sf i ++ []⟩) (by exact rfl) ?_ ?_ <;> (first | intro i hi K hK | intro K) <;> (try dsimp only at *)) | fail))
    | refine m21 ?_
    | refine a_nil ?_
    | (refine gateK ?_; (first | refine c_call (hS i hi) (OldOk.zero _ _) ?_ | fail))
    | refine m44 ?_
    | refine m40 ?_
    | (refine gk_nilN (by (conv => {lhs; simp only [List.nil_append, List.cons_append]}); done) ?_; first | refine ⟨by exact rfl, ?_⟩ | skip)
    | refine gk_nil ?_
    | (intro N' hN'; simp only [List.nil_append, List.cons_append] at hN'; subst hN')
    | (refine gateB ?_; (first | refine b_bln ?_ | refine b_blr ?_ | refine b_ble ?_ | refine m57 ?_ | fail))
    | (refine gateL ?_; (first | refine lp_n ?_ | refine lp_r ?_ | refine lp_e ?_ | fail))
    | (refine pr_k (by exact rfl) ?_; first | exact hK | fail | (exfalso; first | omega | (simp_all; done) | (simp_all; omega)))
    | (refine b_retL (by simp) (by (conv => {lhs; whnf}); done) ?_)
    | (refine gateR ?_; (first | refine m04 ?_ | refine m02 ?_ | refine m03 ?_ | refine rk_nil ?_ | fail))
    | intro _)
  all_goals first
    | (rw [hfin, List.append_nil]; exact rvl_one hb hmx hc _ rfl)


def sgH (H : List (List AV)) (D : AV) (x : List Nat) : Nat → List (List AV)
  | 0 => H ++ [[D, .int .i64 0, .int .i64 (x.length : Int), .int .i64 1], [.slnil]]
  | k + 1 => H ++ [[D, .int .i64 0, .int .i64 (x.length : Int), .int .i64 1], [.slm (H.length + 2) (k + 1) 0 (k + 1) 1], fl (sgL (x.take (k + 1)))]
theorem sgL_take {x : List Nat} {k : Nat} (hk : k < x.length) : sgL (x.take (k + 1)) = sgL (x.take k) ++ [sgF (x.getD k 0)] := by
  unfold sgL
  rw [List.take_add_one, List.map_append]
  simp [List.getD_eq_getElem?_getD, List.getElem?_eq_getElem hk]

theorem sg_step (H : List (List AV)) (D : AV) (x : List Nat) (hF : ∀ N, FL (H ++ N) D x) (h64 : x.length ≤ 64) (i : Nat) (hi : i < x.length) :
    CSpec Tryz.prog 175 ([.int .i64 (i : Int), .eptr D i] ++ [.eptr (.slm (H.length + 1) 1 0 1 1) 0]) (sgH H D x i ++ []) (.tup []) (sgH H D x (i + 1) ++ []) := by
  have hF' : ∀ (i : Nat) N, FL (sgH H D x i ++ N) D x := fun i N => by
    cases i with
    | zero => simp only [sgH, List.append_assoc]; exact hF _
    | succ k => simp only [sgH, List.append_assoc]; exact hF _
  rw [List.append_nil, List.append_nil]
  cases i with
  | zero =>
    have h := sg1_0 (sgH H D x 0) D x (hF' 0) 0 hi (H.length + 1) (by simp [sgH])
    have e : (sgH H D x 0).set (H.length + 1) [.slm (sgH H D x 0).length 1 0 1 1] ++ [fl [sgF (x.getD 0 0)]] = sgH H D x (0 + 1) := by
      have e1 := sgL_take (x := x) (k := 0) hi
      simp only [sgH]
      rw [e1]
      simp [sgL]
    rw [e] at h
    exact h
  | succ k =>
    have h := sg1_s (sgH H D x (k + 1)) D x (hF' (k + 1)) (k + 1) hi (H.length + 1) (H.length + 2) (k + 1) (sgL (x.take (k + 1))) (by simp [sgH]) (by simp [sgH]) (by simp; omega) (by omega) (by omega)
    have e : ((sgH H D x (k + 1)).set (H.length + 2) (fl (sgL (x.take (k + 1)) ++ [sgF (x.getD (k + 1) 0)]))).set (H.length + 1) [.slm (H.length + 2) (k + 1 + 1) 0 (k + 1 + 1) 1] = sgH H D x (k + 1 + 1) := by
      have e1 := sgL_take (x := x) (k := k + 1) hi
      simp only [sgH]
      rw [e1]
      simp
    rw [e] at h
    exact h
theorem sg_each (H : List (List AV)) (D : AV) (x : List Nat) (hF : ∀ N, FL (H ++ N) D x) (h1 : 1 ≤ x.length) (h64 : x.length ≤ 64) :
    CSpec Tryz.prog 174 [vt D 0 (x.length : Int) 1, .func 175 [] [.eptr (.slm (H.length + 1) 1 0 1 1) 0]] (H ++ [[D, .int .i64 0, .int .i64 (x.length : Int), .int .i64 1], [.slnil]]) (.tup []) (H ++ [[D, .int .i64 0, .int .i64 (x.length : Int), .int .i64 1], [.slm (H.length + 2) x.length 0 x.length 1], fl (sgL x)]) := by
  have hF' : ∀ (i : Nat) N, FL (sgH H D x i ++ N) D x := fun i N => by
    cases i with
    | zero => simp only [sgH, List.append_assoc]; exact hF _
    | succ k => simp only [sgH, List.append_assoc]; exact hF _
  obtain ⟨n, hn⟩ : ∃ n, x.length = n + 1 := ⟨x.length - 1, by omega⟩
  have e : sgH H D x x.length = H ++ [[D, .int .i64 0, .int .i64 (x.length : Int), .int .i64 1], [.slm (H.length + 2) x.length 0 x.length 1], fl (sgL x)] := by
    have : sgH H D x x.length = sgH H D x (n + 1) := by rw [hn]
    rw [this]; simp only [sgH]
    rw [← hn, List.take_length]
  have h := each_g (sgH H D x) D x hF' h64 175 [.eptr (.slm (H.length + 1) 1 0 1 1) 0] (fun i hi => sg_step H D x hF h64 i hi) (H.length + 1) (by simp [sgH]) (fl (sgL x)) (by rw [mxL_fl]) (by rw [e]; simp [sgH])
  rw [e] at h
  exact h
set_option maxHeartbeats 4000000 in
theorem sign_c (H : List (List AV)) (D : AV) (x : List Nat) (hF : FL H D x) (h1 : 1 ≤ x.length) (h64 : x.length ≤ 64) :
    CSpec Tryz.prog 152 [vt D 0 (x.length : Int) 1] H (.tup [.sl none x.length (fl (sgL x)), .int .i64 0]) H := by
  obtain ⟨vn, vo1, vo2, vn1, vn2, vi1, vi2⟩ := (vec_ok h64).1
  refine .mk (fun args w => Tryz.call152 args w) (Spec.intro' (fn := Tryz.f152) Tryz.func152 rfl (by kernel_rfl) (by simp) true [] (draw := drawX Tryz.prog ⟨true, _, []⟩) dOk ?_)
  simp only [argE, Nat.reduceAdd]
  repeat' (first
    | (refine gateE ?_; (first | refine b_c0 ?_ | refine b_nil ?_ | fail))
    | (refine gateO ?_; (first | (refine m07 ?_; (first | refine m15 ?_ | refine m16 ?_ | refine l_nA (by exact rfl) (by exact rfl) (by exact rfl) (by exact rfl) ?_ | refine l_n1 (by exact rfl) (by exact rfl) (by exact rfl) (by exact rfl) ?_ | fail)) | refine b_boxE (by (conv => {lhs; whnf}); done) (by exact rfl) (by exact rfl) (by exact rfl) (by (conv => {lhs; whnf}); done) (by (conv => {lhs; simp only [List.nil_append, List.cons_append]}); done) ?_ | refine b_mkF ?_ | refine b_allocE (by exact rfl) (by exact rfl) (by exact rfl) (by (conv => {lhs; whnf}); done) ?_ | refine m42 ?_ | refine b_assignI ?_ | refine b_assignN ?_ | refine m08 ?_ | (refine m20 ?_; (first | refine m49 ?_ | refine m50 ?_ | refine v_nT ?_ | refine v_nF ?_ | refine v_nP ?_ | refine v_k ?_ | refine m51 ?_ | fail)) | refine b_callB ?_ | refine m01 ?_ | refine m24 ?_ | fail))
    | (refine gateT ?_; (first | refine b_thn ?_ | refine b_thr ?_ | refine b_the ?_ | fail))
    | (refine gateX ?_; (first | refine b_seq ?_ | refine b_region ?_ | (refine m06 ?_; (first | refine c_T ?_ | refine c_F ?_ | refine c_P ?_ ?_ | refine c_B ?_ ?_ | fail)) | refine b_ret ?_ | refine b_skip ?_ | refine b_block ?_ | refine b_exit ?_ | fail))
    | refine m21 ?_
    | refine a_nil ?_
    | (refine gateK ?_; (first | refine c_call (right_r _ D x (hF.app _) 0 x.length 1 (vec_ok h64).1 true (decide_eq_true (vec_ok h64).2)) (OldOk.app (by simp)) ?_ | refine c_call (sg_each H D x (fun N => hF.app N) h1 h64) (OldOk.app (by simp)) ?_ | fail))
    | refine m44 ?_
    | refine m40 ?_
    | (refine gk_nilN (by (conv => {lhs; simp only [List.nil_append, List.cons_append]}); done) ?_; first | refine ⟨by exact rfl, ?_⟩ | skip)
    | refine gk_nil ?_
    | (intro N' hN'; simp only [List.nil_append, List.cons_append] at hN'; subst hN')
    | (refine gateQ ?_; refine m05 ?_)
    | (refine gateR ?_; (first | refine m04 ?_ | refine m02 ?_ | refine m03 ?_ | refine rk_nil ?_ | fail))
    | intro _)
  all_goals first
    | (exfalso; contradiction)
    | (exfalso; omega)
    | (refine rv_fr rfl ?_; exact Fr.tup (Frs.cons (fr_nz (k := 2) rfl rfl (by simp)) (Frs.cons (Fr.old (by simp [mx])) Frs.nil)))

set_option maxHeartbeats 4000000 in
theorem eq_t (H : List (List AV)) (X Y : AV) (l m : List Nat) (hX : FL H X l) (hY : FL H Y m) (hB : l.length ≤ 2 ^ 30) (hB2 : m.length ≤ 2 ^ 30) (hlen : l.length = m.length) (he : ∀ k, k < l.length → feq (l.getD k 0) (m.getD k 0) = true) :
    CSpec Tryz.prog 153 [X, Y] H (.bool true) H := by
  refine .mk (fun args w => Tryz.call153 args w) (Spec.intro' (fn := Tryz.f153) Tryz.func153 rfl (by kernel_rfl) (by simp) false [] (draw := drawX Tryz.prog ⟨false, _, []⟩) dOk ?_)
  simp only [argE, Nat.reduceAdd]
  repeat' (first
    | (refine gateE ?_; (first | refine b_c0 ?_ | refine b_nil ?_ | fail))
    | (refine gateO ?_; (first | refine m41 ?_ | refine b_moveI ?_ | refine m14 ?_ | (refine m07 ?_; (first | refine m15 ?_ | refine m16 ?_ | refine l_FL (FL.app hX _) (by omega) ?_ | refine l_FL (FL.app hY _) (by omega) ?_ | fail)) | refine b_lenA (by (conv => {lhs; whnf}); done) (by exact hX.len) ?_ | refine b_lenA (by (conv => {lhs; whnf}); done) (by exact hY.len) ?_ | refine b_iaN (by (conv => {lhs; whnf}); done) (by (conv => {lhs; whnf}); done) (by exact hX.len) (by omega) ?_ | refine b_iaN (by (conv => {lhs; whnf}); done) (by (conv => {lhs; whnf}); done) (by exact hY.len) (by omega) ?_ | (refine m00 ?_; (first | refine v_to ((k + 1 : Nat) : Int) (by omega) (by omega) ?_ | refine m54 ?_ | refine m55 ?_ | refine v_neP ?_ | refine m47 ?_ | refine m48 ?_ | refine m49 ?_ | refine m50 ?_ | refine v_k ?_ | refine m51 ?_ | fail)) | refine m42 ?_ | refine b_assignI ?_ | refine b_assignN ?_ | refine m08 ?_ | refine b_lenA (by (conv => {lhs; whnf}); done) (by first | rfl | assumption) ?_ | fail))
    | (refine gateD ?_; (first | refine m36 ?_ | refine d_nil ?_ | fail))
    | (refine gateC ?_; (first | refine k_lt ?_ | refine k_fz ?_ | refine k_lb (by (conv => {lhs; whnf}); done) ?_ | refine k_ms ?_ | refine k_bx (by exact rfl) (by exact rfl) ?_ | refine m34 ?_ | refine m35 ?_ | refine m33 ?_ | refine k_mn ?_ | refine m56 ?_ | refine k_mnF ?_ | refine k_mnL (by exact rfl) ?_ | fail))
    | (refine gateT ?_; (first | refine b_thn ?_ | refine b_thr ?_ | refine b_the ?_ | fail))
    | (refine gateX ?_; (first | refine b_seq ?_ | refine b_region ?_ | (refine m06 ?_; (first | refine c_T ?_ | refine c_F ?_ | refine c_P ?_ ?_ | refine c_B ?_ ?_ | fail)) | refine b_ret ?_ | refine b_skip ?_ | refine b_block ?_ | refine b_exit ?_ | refine b_draw (id := 6) [] [] [(0, .lt), (1, .lt), (2, .lt), (3, .ld true), (4, .lt), (5, .lt), (6, .lt), (7, .ld true), (8, .ld true)] (by kernel_rfl) ?_ | (refine b_loop [0, 1, 12, 13] l.length (fun k => ⟨[(0, .val X), (1, .val Y), (12, .val (.int .i64 ((l.length : Nat) : Int))), (13, .val (.int .i64 ((k : Nat) : Int)))], [], H ++ []⟩) (by exact rfl) ?_ ?_ <;> (first | intro k hk K hK | intro K) <;> (try dsimp only at *)) | fail))
    | (refine gateB ?_; (first | refine b_bln ?_ | refine b_blr ?_ | refine b_ble ?_ | refine m57 ?_ | fail))
    | (refine gateL ?_; (first | refine lp_n ?_ | refine lp_r ?_ | refine lp_e ?_ | fail))
    | (refine pr_k (by exact rfl) ?_; first | exact hK | (exfalso; have := he k (by omega); simp_all; done) | (exfalso; first | omega | (simp_all; done) | (simp_all; omega)))
    | (refine gateQ ?_; refine m05 ?_)
    | (refine gateR ?_; (first | refine m04 ?_ | refine m02 ?_ | refine m03 ?_ | refine rk_nil ?_ | fail))
    | intro _)
  all_goals first
    | (exfalso; contradiction)
    | (exfalso; omega)
    | (refine rv_old rfl (by simp [mx, mxL, resOne, aOf, aOf1]) ?_; simp only [cn_1, cn_2, cn_m1]; exact rfl)
    | (refine rv_old rfl (by simp [mx, mxL, resOne, aOf, aOf1]) ?_; exact rfl)
    | (exfalso; simp_all; done)

set_option maxHeartbeats 4000000 in
theorem eq_f (H : List (List AV)) (X Y : AV) (l m : List Nat) (hX : FL H X l) (hY : FL H Y m) (hB : l.length ≤ 2 ^ 30) (hB2 : m.length ≤ 2 ^ 30) (hlen : l.length = m.length) (z : Nat) (hz : z < l.length) (he : ∀ k, k < z → feq (l.getD k 0) (m.getD k 0) = true) (hz1 : feq (l.getD z 0) (m.getD z 0) = false) :
    CSpec Tryz.prog 153 [X, Y] H (.bool false) H := by
  refine .mk (fun args w => Tryz.call153 args w) (Spec.intro' (fn := Tryz.f153) Tryz.func153 rfl (by kernel_rfl) (by simp) false [] (draw := drawX Tryz.prog ⟨false, _, []⟩) dOk ?_)
  simp only [argE, Nat.reduceAdd]
  repeat' (first
    | (refine gateE ?_; (first | refine b_c0 ?_ | refine b_nil ?_ | fail))
    | (refine gateO ?_; (first | refine m41 ?_ | refine b_moveI ?_ | refine m14 ?_ | (refine m07 ?_; (first | refine m15 ?_ | refine m16 ?_ | refine l_FL (FL.app hX _) (by omega) ?_ | refine l_FL (FL.app hY _) (by omega) ?_ | fail)) | refine b_lenA (by (conv => {lhs; whnf}); done) (by exact hX.len) ?_ | refine b_lenA (by (conv => {lhs; whnf}); done) (by exact hY.len) ?_ | refine b_iaN (by (conv => {lhs; whnf}); done) (by (conv => {lhs; whnf}); done) (by exact hX.len) (by omega) ?_ | refine b_iaN (by (conv => {lhs; whnf}); done) (by (conv => {lhs; whnf}); done) (by exact hY.len) (by omega) ?_ | (refine m00 ?_; (first | refine v_to ((k + 1 : Nat) : Int) (by omega) (by omega) ?_ | refine m54 ?_ | refine m55 ?_ | refine v_neP ?_ | refine m47 ?_ | refine m48 ?_ | refine m49 ?_ | refine m50 ?_ | refine v_k ?_ | refine m51 ?_ | fail)) | refine m42 ?_ | refine b_assignI ?_ | refine b_assignN ?_ | refine m08 ?_ | refine b_lenA (by (conv => {lhs; whnf}); done) (by first | rfl | assumption) ?_ | fail))
    | (refine gateD ?_; (first | refine m36 ?_ | refine d_nil ?_ | fail))
    | (refine gateC ?_; (first | refine k_lt ?_ | refine k_fz ?_ | refine k_lb (by (conv => {lhs; whnf}); done) ?_ | refine k_ms ?_ | refine k_bx (by exact rfl) (by exact rfl) ?_ | refine m34 ?_ | refine m35 ?_ | refine m33 ?_ | refine k_mn ?_ | refine m56 ?_ | refine k_mnF ?_ | refine k_mnL (by exact rfl) ?_ | fail))
    | (refine gateT ?_; (first | refine b_thn ?_ | refine b_thr ?_ | refine b_the ?_ | fail))
    | (refine gateX ?_; (first | refine b_seq ?_ | refine b_region ?_ | (refine m06 ?_; (first | refine c_T ?_ | refine c_F ?_ | refine c_P ?_ ?_ | refine c_B ?_ ?_ | fail)) | refine b_ret ?_ | refine b_skip ?_ | refine b_block ?_ | refine b_exit ?_ | refine b_draw (id := 6) [] [] [(0, .lt), (1, .lt), (2, .lt), (3, .ld true), (4, .lt), (5, .lt), (6, .lt), (7, .ld true), (8, .ld true)] (by kernel_rfl) ?_ | (refine b_loop [0, 1, 12, 13] z (fun k => ⟨[(0, .val X), (1, .val Y), (12, .val (.int .i64 ((l.length : Nat) : Int))), (13, .val (.int .i64 ((k : Nat) : Int)))], [], H ++ []⟩) (by exact rfl) ?_ ?_ <;> (first | intro k hk K hK | intro K) <;> (try dsimp only at *)) | fail))
    | (refine gateB ?_; (first | refine b_bln ?_ | refine b_blr ?_ | refine b_ble ?_ | refine m57 ?_ | fail))
    | (refine gateL ?_; (first | refine lp_n ?_ | refine lp_r ?_ | refine lp_e ?_ | fail))
    | (refine pr_k (by exact rfl) ?_; first | exact hK | (exfalso; have := he k (by omega); simp_all; done) | (exfalso; first | omega | (simp_all; done) | (simp_all; omega)))
    | (refine gateQ ?_; refine m05 ?_)
    | (refine gateR ?_; (first | refine m04 ?_ | refine m02 ?_ | refine m03 ?_ | refine rk_nil ?_ | fail))
    | intro _)
  all_goals first
    | (exfalso; contradiction)
    | (exfalso; omega)
    | (refine rv_old rfl (by simp [mx, mxL, resOne, aOf, aOf1]) ?_; simp only [cn_1, cn_2, cn_m1]; exact rfl)
    | (refine rv_old rfl (by simp [mx, mxL, resOne, aOf, aOf1]) ?_; exact rfl)
    | (exfalso; simp_all; done)

set_option maxHeartbeats 4000000 in
theorem eq_l (H : List (List AV)) (X Y : AV) (l m : List Nat) (hX : FL H X l) (hY : FL H Y m) (hB : l.length ≤ 2 ^ 30) (hB2 : m.length ≤ 2 ^ 30) (hlen : l.length ≠ m.length) :
    CSpec Tryz.prog 153 [X, Y] H (.bool false) H := by
  refine .mk (fun args w => Tryz.call153 args w) (Spec.intro' (fn := Tryz.f153) Tryz.func153 rfl (by kernel_rfl) (by simp) false [] (draw := drawX Tryz.prog ⟨false, _, []⟩) dOk ?_)
  simp only [argE, Nat.reduceAdd]
  repeat' (first
    | (refine gateE ?_; (first | refine b_c0 ?_ | refine b_nil ?_ | fail))
    | (refine gateO ?_; (first | refine m41 ?_ | refine b_moveI ?_ | refine m14 ?_ | (refine m07 ?_; (first | refine m15 ?_ | refine m16 ?_ | refine l_FL (FL.app hX _) (by omega) ?_ | refine l_FL (FL.app hY _) (by omega) ?_ | fail)) | refine b_lenA (by (conv => {lhs; whnf}); done) (by exact hX.len) ?_ | refine b_lenA (by (conv => {lhs; whnf}); done) (by exact hY.len) ?_ | refine b_iaN (by (conv => {lhs; whnf}); done) (by (conv => {lhs; whnf}); done) (by exact hX.len) (by omega) ?_ | refine b_iaN (by (conv => {lhs; whnf}); done) (by (conv => {lhs; whnf}); done) (by exact hY.len) (by omega) ?_ | (refine m00 ?_; (first | refine v_to ((k + 1 : Nat) : Int) (by omega) (by omega) ?_ | refine m54 ?_ | refine m55 ?_ | refine v_neP ?_ | refine m47 ?_ | refine m48 ?_ | refine m49 ?_ | refine m50 ?_ | refine v_k ?_ | refine m51 ?_ | fail)) | refine m42 ?_ | refine b_assignI ?_ | refine b_assignN ?_ | refine m08 ?_ | refine b_lenA (by (conv => {lhs; whnf}); done) (by first | rfl | assumption) ?_ | fail))
    | (refine gateD ?_; (first | refine m36 ?_ | refine d_nil ?_ | fail))
    | (refine gateC ?_; (first | refine k_lt ?_ | refine k_fz ?_ | refine k_lb (by (conv => {lhs; whnf}); done) ?_ | refine k_ms ?_ | refine k_bx (by exact rfl) (by exact rfl) ?_ | refine m34 ?_ | refine m35 ?_ | refine m33 ?_ | refine k_mn ?_ | refine m56 ?_ | refine k_mnF ?_ | refine k_mnL (by exact rfl) ?_ | fail))
    | (refine gateT ?_; (first | refine b_thn ?_ | refine b_thr ?_ | refine b_the ?_ | fail))
    | (refine gateX ?_; (first | refine b_seq ?_ | refine b_region ?_ | (refine m06 ?_; (first | refine c_T ?_ | refine c_F ?_ | refine c_P ?_ ?_ | refine c_B ?_ ?_ | fail)) | refine b_ret ?_ | refine b_skip ?_ | refine b_block ?_ | refine b_exit ?_ | refine b_draw (id := 6) [] [] [(0, .lt), (1, .lt), (2, .lt), (3, .ld true), (4, .lt), (5, .lt), (6, .lt), (7, .ld true), (8, .ld true)] (by kernel_rfl) ?_ | (refine b_loop [0, 1, 12, 13] l.length (fun k => ⟨[(0, .val X), (1, .val Y), (12, .val (.int .i64 ((l.length : Nat) : Int))), (13, .val (.int .i64 ((k : Nat) : Int)))], [], H ++ []⟩) (by exact rfl) ?_ ?_ <;> (first | intro k hk K hK | intro K) <;> (try dsimp only at *)) | fail))
    | (refine gateB ?_; (first | refine b_bln ?_ | refine b_blr ?_ | refine b_ble ?_ | refine m57 ?_ | fail))
    | (refine gateL ?_; (first | refine lp_n ?_ | refine lp_r ?_ | refine lp_e ?_ | fail))
    | (refine pr_k (by exact rfl) ?_; first | exact hK | fail | (exfalso; first | omega | (simp_all; done) | (simp_all; omega)))
    | (refine gateQ ?_; refine m05 ?_)
    | (refine gateR ?_; (first | refine m04 ?_ | refine m02 ?_ | refine m03 ?_ | refine rk_nil ?_ | fail))
    | intro _)
  all_goals first
    | (exfalso; contradiction)
    | (exfalso; omega)
    | (refine rv_old rfl (by simp [mx, mxL, resOne, aOf, aOf1]) ?_; simp only [cn_1, cn_2, cn_m1]; exact rfl)
    | (refine rv_old rfl (by simp [mx, mxL, resOne, aOf, aOf1]) ?_; exact rfl)
    | (exfalso; simp_all; done)


theorem eq_sg (H : List (List AV)) (X Y : AV) (l m : List Nat) (hX : FL H X l) (hY : FL H Y m) (hB : l.length ≤ 2 ^ 30) (hB2 : m.length ≤ 2 ^ 30) (hl : ∀ y ∈ l, y = 4607182418800017408 ∨ y = 13830554455654793216) (hm : ∀ y ∈ m, y = 4607182418800017408 ∨ y = 13830554455654793216) :
    CSpec Tryz.prog 153 [X, Y] H (.bool (decide (l = m))) H := by
  have hg : ∀ (l : List Nat) (k : Nat), k < l.length → l.getD k 0 ∈ l := fun l k hk => by
    rw [List.getD_eq_getElem?_getD, List.getElem?_eq_getElem hk]; exact List.getElem_mem hk
  by_cases hlen : l.length = m.length
  · rcases first_ne l m hlen with h | ⟨z, h1, h2, h3⟩
    · rw [decide_eq_true h]
      subst h
      exact eq_t H X Y l l hX hY hB hB2 rfl (fun k hk => by rw [sg_feq (hl _ (hg l k hk)) (hl _ (hg l k hk))]; simp)
    · rw [decide_eq_false (fun h => h3 (by rw [h]))]
      exact eq_f H X Y l m hX hY hB hB2 hlen z h1 (fun k hk => by rw [sg_feq (hl _ (hg l k (by omega))) (hm _ (hg m k (by omega)))]; exact decide_eq_true (h2 k hk)) (by rw [sg_feq (hl _ (hg l z h1)) (hm _ (hg m z (by omega)))]; exact decide_eq_false h3)
  · rw [decide_eq_false (fun h => hlen (by rw [h]))]
    exact eq_l H X Y l m hX hY hB hB2 hlen

end Go.Sx

set_option linter.unusedVariables false
set_option linter.unusedSimpArgs false
set_option linter.unusedSectionVars false
set_option maxRecDepth 20000
namespace Go.Sx
open Go.Proofs


section
attribute [local irreducible] Ex exOps exD opX opE thenX blkX RetQ Spec CSpec Fr condK guardK guardD ckK valK pickK loadK faK callK argK gK fK rK RetV lpX prK
set_option maxHeartbeats 4000000 in
theorem sum_c (H : List (List AV)) (D : AV) (l : List Nat) (hF : FL H D l) (hB : l.length ≤ 2 ^ 30) :
    CSpec Tryz.prog 131 [D] H (.flt (sumF l)) H := by
  have hs : ∀ k, k < l.length → fadd (fo fadd 0 l k) (l.getD k 0) = fo fadd 0 l (k + 1) := fun k hk => (fo_succ hk).symm
  refine .mk (fun args w => Tryz.call131 args w) (Spec.intro' (fn := Tryz.f131) Tryz.func131 rfl (by kernel_rfl) (by simp) false [] (draw := drawX Tryz.prog ⟨false, _, []⟩) dOk ?_)
  simp only [argE, Nat.reduceAdd]
  repeat' (first
    | (refine gateE ?_; (first | refine b_c0 ?_ | refine b_nil ?_ | fail))
    | (refine gateO ?_; (first | refine m41 ?_ | refine b_moveI ?_ | refine m14 ?_ | (refine m07 ?_; (first | refine m15 ?_ | refine m16 ?_ | refine l_FL (FL.app hF _) (by omega) ?_ | fail)) | refine b_iaN (by (conv => {lhs; whnf}); done) (by (conv => {lhs; whnf}); done) (by exact hF.len) (by omega) ?_ | refine b_lenA (by (conv => {lhs; whnf}); done) (by exact hF.len) ?_ | (refine m00 ?_; (first | refine m47 ?_ | refine m48 ?_ | refine m49 ?_ | refine m50 ?_ | refine v_k ?_ | refine m51 ?_ | fail)) | refine m42 ?_ | refine b_assignI ?_ | refine b_assignN ?_ | refine m08 ?_ | refine b_lenA (by (conv => {lhs; whnf}); done) (by first | rfl | assumption) ?_ | fail))
    | (refine gateT ?_; (first | refine b_thn ?_ | refine b_thr ?_ | refine b_the ?_ | fail))
    | (refine gateX ?_; (first | refine b_seq ?_ | refine b_region ?_ | (refine m06 ?_; (first | refine c_T ?_ | refine c_F ?_ | refine c_P ?_ ?_ | refine c_B ?_ ?_ | fail)) | refine b_ret ?_ | refine b_skip ?_ | refine b_block ?_ | refine b_exit ?_ | (refine b_loop [8, 6, 7, 3] l.length (fun k => ⟨[(8, .val (.int .i64 (k : Int))), (6, .val D), (7, .val (.int .i64 (l.length : Int))), (3, .val (.flt (fo fadd 0 l k)))], [], H ++ []⟩) (by exact rfl) ?_ ?_ <;> (first | intro k hk K hK | intro K) <;> (try dsimp only at *) <;> (try simp only [Int.natCast_add, Int.natCast_one] at *)) | fail))
    | (refine gateB ?_; (first | refine b_bln ?_ | refine b_blr ?_ | refine b_ble ?_ | refine m57 ?_ | fail))
    | (refine gateL ?_; (first | refine lp_n ?_ | refine lp_r ?_ | refine lp_e ?_ | fail))
    | (refine pr_k (by exact rfl) ?_; first | exact hK | (rw [← hs k hk] at hK; exact hK) | (exfalso; first | omega | (simp_all; done) | (simp_all; omega)))
    | (refine gateQ ?_; refine m05 ?_)
    | (refine gateR ?_; (first | refine m04 ?_ | refine m02 ?_ | refine m03 ?_ | refine rk_nil ?_ | fail))
    | intro _)
  all_goals first | refine rv_old rfl (by simp [mx, mxL, aOf, aOf1, resOne]) ?_ | (trace_state; fail)
  all_goals (refine congrArg AV.flt ?_; exact fo_all fadd 0 l)

set_option maxHeartbeats 4000000 in
theorem without_c (H : List (List AV)) (D : AV) (l : List Nat) (hF : FL H D l) (hB : l.length ≤ 2 ^ 30) :
    CSpec Tryz.prog 130 [D] H (.sl none l.length (fl (l.map absF))) H := by
  refine .mk (fun args w => Tryz.call130 args w) (Spec.intro' (fn := Tryz.f130) Tryz.func130 rfl (by kernel_rfl) (by simp) false [15] (draw := drawX Tryz.prog ⟨false, _, [15]⟩) dOk ?_)
  simp only [argE, Nat.reduceAdd]
  repeat' (first
    | (refine gateE ?_; (first | refine b_c0 ?_ | refine b_nil ?_ | fail))
    | (refine gateO ?_; (first | refine m41 ?_ | refine b_moveI ?_ | refine m14 ?_ | (refine m07 ?_; (first | refine m15 ?_ | refine m16 ?_ | refine l_FL (FL.app hF _) (by omega) ?_ | fail)) | refine b_iaN (by (conv => {lhs; whnf}); done) (by (conv => {lhs; whnf}); done) (by exact hF.len) (by omega) ?_ | refine b_lenA (by (conv => {lhs; whnf}); done) (by exact hF.len) ?_ | refine b_grow (i := 0) (N₀ := []) (by (conv => {lhs; whnf}); done) (by (conv => {lhs; whnf}); done) (by exact rfl) (by exact rfl) (by rw [fl_len, mpl_len (by omega)]) (by omega) (by exact rfl) (by exact rfl) (l' := fl (mpl absF l (k + 1))) (by (rw [mpl_succ (by omega)]; simp [fl])) ?_ | (refine m00 ?_; (first | refine m47 ?_ | refine m48 ?_ | refine m49 ?_ | refine m50 ?_ | refine v_k ?_ | refine m51 ?_ | fail)) | refine m42 ?_ | refine b_assignI ?_ | refine b_assignN ?_ | refine m08 ?_ | refine b_callB ?_ | refine b_lenA (by (conv => {lhs; whnf}); done) (by first | rfl | assumption) ?_ | refine b_bslZ (by exact rfl) (by exact rfl) (by decide) ?_ | fail))
    | (refine gateT ?_; (first | refine b_thn ?_ | refine b_thr ?_ | refine b_the ?_ | fail))
    | (refine gateX ?_; (first | refine b_seq ?_ | refine b_region ?_ | (refine m06 ?_; (first | refine c_T ?_ | refine c_F ?_ | refine c_P ?_ ?_ | refine c_B ?_ ?_ | fail)) | refine b_ret ?_ | refine b_skip ?_ | refine b_block ?_ | refine b_exit ?_ | (refine b_loop [8, 6, 7, 3] l.length (fun k => ⟨[(8, .val (.int .i64 (k : Int))), (6, .val D), (7, .val (.int .i64 (l.length : Int))), (3, .val (gV H.length 0 k))], [], H ++ ([] ++ gN (fl (mpl absF l k)))⟩) (by exact rfl) ?_ ?_ <;> (first | intro k hk K hK | intro K) <;> (try dsimp only at *) <;> (try simp only [Int.natCast_add, Int.natCast_one] at *)) | fail))
    | refine m21 ?_
    | refine a_nil ?_
    | (refine gateK ?_; (first | refine c_call (mabs_c _ _) (OldOk.app (by simp)) ?_ | fail))
    | refine m44 ?_
    | refine m40 ?_
    | (refine gk_nilN (by (conv => {lhs; simp only [List.nil_append, List.cons_append]}); done) ?_; refine ⟨by exact rfl, ?_⟩)
    | refine gk_nil ?_
    | (intro N' hN'; simp only [List.nil_append, List.cons_append] at hN'; subst hN')
    | (refine gateB ?_; (first | refine b_bln ?_ | refine b_blr ?_ | refine b_ble ?_ | refine m57 ?_ | fail))
    | (refine gateL ?_; (first | refine lp_n ?_ | refine lp_r ?_ | refine lp_e ?_ | fail))
    | (refine pr_k (by exact rfl) ?_; first | exact hK | (rw [← hs k (by omega), mxF_T (by assumption)] at hK; exact hK) | (rw [← hs k (by omega), mxF_F (by assumption)] at hK; exact hK) | (exfalso; first | omega | (simp_all; done) | (simp_all; omega)))
    | (refine gateQ ?_; refine m05 ?_)
    | (refine gateR ?_; (first | refine m04 ?_ | refine m02 ?_ | refine m03 ?_ | refine rk_nil ?_ | fail))
    | intro _)
  all_goals first
    | (refine rv_fr rfl ?_; rw [mpl_all]; exact gV_fr (N₀ := []) (i := 0) rfl rfl (by simp) (by rw [mxL_fl]; exact Nat.zero_le _))

set_option maxHeartbeats 4000000 in
theorem at_c (H : List (List AV)) (D : AV) (l : List Nat) (hF : FL H D l) (off n inc : Int) (hI : VI l.length off n inc) (hR : RightP l.length off n inc) (i : Int) (hi0 : 0 ≤ i) (hi9 : i < n) :
    CSpec Tryz.prog 168 [vt D off n inc, .int .i64 i] H (.flt (l.getD (off + i * inc).toNat 0)) H := by
  obtain ⟨hm, ho1, ho2, hn1, hn2, hi1, hi2⟩ := id hI
  have hr := right_at hR hi0 hi9
  refine .mk (fun args w => Tryz.call168 args w) (Spec.intro' (fn := Tryz.f168) Tryz.func168 rfl (by kernel_rfl) (by simp) false [] (draw := drawX Tryz.prog ⟨false, _, []⟩) dOk ?_)
  simp only [argE, Nat.reduceAdd]
  repeat' (first
    | (refine gateE ?_; (first | refine b_c0 ?_ | refine b_nil ?_ | fail))
    | (refine gateO ?_; (first | refine m14 ?_ | (refine m17 ?_; first | refine m19 ?_ | refine m18 ?_) | (refine m07 ?_; (first | refine m15 ?_ | refine m16 ?_ | refine l_FL (FL.app hF _) (by omega) ?_ | fail)) | refine b_iaF (by (conv => {lhs; whnf}); done) (by (conv => {lhs; whnf}); done) (by exact hF.len) (by omega) ?_ | (refine m00 ?_; (first | refine m49 ?_ | refine m49 ?_ | refine m50 ?_ | refine v_k ?_ | refine m51 ?_ | fail)) | refine m42 ?_ | refine b_assignI ?_ | refine b_assignN ?_ | refine m08 ?_ | refine m01 ?_ | fail))
    | (refine gateT ?_; (first | refine b_thn ?_ | refine b_thr ?_ | refine b_the ?_ | fail))
    | (refine gateX ?_; (first | refine b_seq ?_ | refine b_region ?_ | (refine m06 ?_; (first | refine c_T ?_ | refine c_F ?_ | refine c_P ?_ ?_ | refine c_B ?_ ?_ | fail)) | refine b_ret ?_ | refine b_skip ?_ | refine b_block ?_ | refine b_exit ?_ | fail))
    | (refine gateQ ?_; refine m05 ?_)
    | (refine gateR ?_; (first | refine m04 ?_ | refine m02 ?_ | refine m03 ?_ | refine rk_nil ?_ | fail))
    | intro _)
  all_goals first | refine rv_old rfl (by simp [mx, mxL, aOf, aOf1, resOne]) ?_ | (trace_state; fail)
  all_goals exact rfl

set_option maxHeartbeats 4000000 in
theorem asum_c (H : List (List AV)) (D : AV) (l : List Nat) (hF : FL H D l) (off n inc : Int) (hI : VI l.length off n inc) (hR : RightP l.length off n inc) :
    CSpec Tryz.prog 162 [vt D off n inc] H (.tup [.flt (asumF (vecL l off n inc)), .int .i64 0]) H := by
  obtain ⟨hm, ho1, ho2, hn1, hn2, hi1, hi2⟩ := id hI
  obtain ⟨m, hmn⟩ : ∃ m : Nat, n = (m : Int) := ⟨n.toNat, by have := hR.1; omega⟩
  have hnt : n.toNat = m := by omega
  have hs : ∀ k, k < m → fadd (fo (fun s x => fadd s (absF x)) 0 (vecL l off n inc) k) (absF (l.getD (off + (k : Int) * inc).toNat 0)) = fo (fun s x => fadd s (absF x)) 0 (vecL l off n inc) (k + 1) := fun k hk => by rw [fo_succ (by rw [vecL_len]; omega), vecL_get (by omega)]
  refine .mk (fun args w => Tryz.call162 args w) (Spec.intro' (fn := Tryz.f162) Tryz.func162 rfl (by kernel_rfl) (by simp) false [] (draw := drawX Tryz.prog ⟨false, _, []⟩) dOk ?_)
  simp only [argE, Nat.reduceAdd]
  repeat' (first
    | (refine gateE ?_; (first | refine b_c0 ?_ | refine b_nil ?_ | fail))
    | (refine gateO ?_; (first | refine m41 ?_ | refine b_moveI ?_ | refine m14 ?_ | (refine m17 ?_; first | refine m19 ?_ | refine m18 ?_) | (refine m07 ?_; (first | refine m15 ?_ | refine m16 ?_ | fail)) | (refine m00 ?_; (first | refine m47 ?_ | refine m48 ?_ | refine m49 ?_ | refine m50 ?_ | refine v_nT ?_ | refine v_nF ?_ | refine v_nP ?_ | refine v_k ?_ | refine m51 ?_ | fail)) | refine m42 ?_ | refine b_assignI ?_ | refine b_assignN ?_ | refine m08 ?_ | (refine m20 ?_; (first | refine m47 ?_ | refine m48 ?_ | refine m49 ?_ | refine m50 ?_ | refine v_nT ?_ | refine v_nF ?_ | refine v_nP ?_ | refine v_k ?_ | refine m51 ?_ | fail)) | refine b_callB ?_ | refine m01 ?_ | fail))
    | (refine gateT ?_; (first | refine b_thn ?_ | refine b_thr ?_ | refine b_the ?_ | fail))
    | (refine gateX ?_; (first | refine b_seq ?_ | refine b_region ?_ | (refine m06 ?_; (first | refine c_T ?_ | refine c_F ?_ | refine c_P ?_ ?_ | refine c_B ?_ ?_ | fail)) | refine b_ret ?_ | refine b_skip ?_ | refine b_block ?_ | refine b_exit ?_ | (refine b_loop [11, 10, 1, 4, 3, 2] n.toNat (fun k => ⟨[(11, .val (.int .i64 (k : Int))), (10, .val (.int .i64 n)), (1, .loc 1 0), (4, .val (.flt (fo (fun s x => fadd s (absF x)) 0 (vecL l off n inc) k))), (3, .val (.int .i64 0)), (2, .val (.flt 0))], [(1, [D, .int .i64 off, .int .i64 n, .int .i64 inc])], H ++ []⟩) (by exact rfl) ?_ ?_ <;> (first | intro k hk K hK | intro K) <;> (try dsimp only at *) <;> (try simp only [Int.natCast_add, Int.natCast_one] at *)) | fail))
    | refine m21 ?_
    | refine a_nil ?_
    | (refine gateK ?_; (first | refine c_call (right_c _ D l (FL.app hF _) off n inc hI) (OldOk.app (by simp)) ?_ | refine c_call (at_c _ D l (FL.app hF _) off n inc hI hR _ (by omega) (by omega)) (OldOk.app (by simp)) ?_ | refine c_call (mabs_c _ _) (OldOk.app (by simp)) ?_ | fail))
    | (refine gateB ?_; (first | refine b_bln ?_ | refine b_blr ?_ | refine b_ble ?_ | refine m57 ?_ | fail))
    | (refine gateL ?_; (first | refine lp_n ?_ | refine lp_r ?_ | refine lp_e ?_ | fail))
    | (refine pr_k (by exact rfl) ?_; first | exact hK | (rw [← hs k (by omega)] at hK; exact hK) | (exfalso; first | omega | (simp_all; done) | (simp_all; omega)))
    | (refine gateQ ?_; refine m05 ?_)
    | (refine gateR ?_; (first | refine m04 ?_ | refine m02 ?_ | refine m03 ?_ | refine rk_nil ?_ | fail))
    | intro _)
  all_goals first
    | (exfalso; contradiction)
    | (refine rv_old rfl (by simp [mx, mxL, aOf, aOf1, resOne]) ?_; refine congrArg (fun x => AV.tup [.flt x, .int .i64 0]) ?_; have := fo_all (fun s x => fadd s (absF x)) 0 (vecL l off n inc); rw [vecL_len] at this; exact this)

set_option maxHeartbeats 4000000 in
theorem rasum_c (H : List (List AV)) (D : AV) (l : List Nat) (hF : FL H D l) (hB : l.length ≤ 2 ^ 30) :
    CSpec Tryz.prog 111 [D] H (.flt (asumF l)) H := by
  have hs : ∀ k, k < l.length → fadd (fo (fun s x => fadd s (absF x)) 0 l k) (absF (l.getD k 0)) = fo (fun s x => fadd s (absF x)) 0 l (k + 1) := fun k hk => by rw [fo_succ hk]
  refine .mk (fun args w => Tryz.call111 args w) (Spec.intro' (fn := Tryz.f111) Tryz.func111 rfl (by kernel_rfl) (by simp) false [] (draw := drawX Tryz.prog ⟨false, _, []⟩) dOk ?_)
  simp only [argE, Nat.reduceAdd]
  repeat' (first
    | (refine gateE ?_; (first | refine b_c0 ?_ | refine b_nil ?_ | fail))
    | (refine gateO ?_; (first | refine m14 ?_ | (refine m07 ?_; (first | refine m15 ?_ | refine m16 ?_ | refine l_FL (FL.app hF _) (by omega) ?_ | fail)) | refine b_iaN (by (conv => {lhs; whnf}); done) (by (conv => {lhs; whnf}); done) (by exact hF.len) (by omega) ?_ | refine b_lenA (by (conv => {lhs; whnf}); done) (by exact hF.len) ?_ | (refine m00 ?_; (first | refine m47 ?_ | refine m48 ?_ | refine m49 ?_ | refine m50 ?_ | refine v_k ?_ | refine m51 ?_ | fail)) | refine m42 ?_ | refine b_assignI ?_ | refine b_assignN ?_ | refine m08 ?_ | refine b_callB ?_ | refine b_lenA (by (conv => {lhs; whnf}); done) (by first | rfl | assumption) ?_ | fail))
    | (refine gateT ?_; (first | refine b_thn ?_ | refine b_thr ?_ | refine b_the ?_ | fail))
    | (refine gateX ?_; (first | refine b_seq ?_ | refine b_region ?_ | (refine m06 ?_; (first | refine c_T ?_ | refine c_F ?_ | refine c_P ?_ ?_ | refine c_B ?_ ?_ | fail)) | refine b_ret ?_ | refine b_skip ?_ | refine b_block ?_ | refine b_exit ?_ | (refine b_loop [4, 0, 3, 2] l.length (fun k => ⟨[(4, .val (.int .i64 (k : Int))), (0, .val D), (3, .val (.flt (fo (fun s x => fadd s (absF x)) 0 l k))), (2, .val (.flt 0))], [], H ++ []⟩) (by exact rfl) ?_ ?_ <;> (first | intro k hk K hK | intro K) <;> (try dsimp only at *) <;> (try simp only [Int.natCast_add, Int.natCast_one] at *)) | fail))
    | refine m21 ?_
    | refine a_nil ?_
    | (refine gateK ?_; (first | refine c_call (rabs_c _ _) (OldOk.app (by simp)) ?_ | refine c_call (plus_c _ _ _) (OldOk.app (by simp)) ?_ | fail))
    | (refine gateB ?_; (first | refine b_bln ?_ | refine b_blr ?_ | refine b_ble ?_ | refine m57 ?_ | fail))
    | (refine gateL ?_; (first | refine lp_n ?_ | refine lp_r ?_ | refine lp_e ?_ | fail))
    | (refine pr_k (by exact rfl) ?_; first | exact hK | (rw [← hs k (by omega)] at hK; exact hK) | (exfalso; first | omega | (simp_all; done) | (simp_all; omega)))
    | (refine gateQ ?_; refine m05 ?_)
    | (refine gateR ?_; (first | refine m04 ?_ | refine m02 ?_ | refine m03 ?_ | refine rk_nil ?_ | fail))
    | intro _)
  all_goals first | refine rv_old rfl (by simp [mx, mxL, aOf, aOf1, resOne]) ?_ | (trace_state; fail)
  all_goals (refine congrArg AV.flt ?_; exact fo_all (fun s x => fadd s (absF x)) 0 l)

set_option maxHeartbeats 4000000 in
theorem vector_c (H : List (List AV)) (D : AV) (l : List Nat) (hF : FL H D l) (hB : l.length ≤ 2 ^ 30) :
    CSpec Tryz.prog 73 [D] H (.tup [.flt (sumF (l.map absF)), .flt (greatF (l.map absF))]) H := by
  refine .mk (fun args w => Tryz.call73 args w) (Spec.intro' (fn := Tryz.f73) Tryz.func73 rfl (by kernel_rfl) (by simp) false [] (draw := drawX Tryz.prog ⟨false, _, []⟩) dOk ?_)
  simp only [argE, Nat.reduceAdd]
  repeat' (first
    | (refine gateE ?_; (first | refine b_c0 ?_ | refine b_nil ?_ | fail))
    | (refine gateO ?_; (first | refine m14 ?_ | refine m42 ?_ | refine b_assignI ?_ | refine b_assignN ?_ | refine m08 ?_ | refine b_callB ?_ | fail))
    | (refine gateT ?_; (first | refine b_thn ?_ | refine b_thr ?_ | refine b_the ?_ | fail))
    | (refine gateX ?_; (first | refine b_seq ?_ | refine b_region ?_ | (refine m06 ?_; (first | refine c_T ?_ | refine c_F ?_ | refine c_P ?_ ?_ | refine c_B ?_ ?_ | fail)) | refine b_ret ?_ | refine b_skip ?_ | refine b_block ?_ | refine b_exit ?_ | fail))
    | refine m21 ?_
    | refine a_nil ?_
    | (refine gateK ?_; (first | refine c_call (without_c _ D l (FL.app hF _) hB) (OldOk.app (by simp)) ?_ | refine c_call (sum_c _ _ (l.map absF) (by have := FL.fz (H ++ []) none (l.map absF); rwa [List.length_map] at this) (by simpa using hB)) (OldOk.app (by simp)) ?_ | refine c_call (great_c _ _ (l.map absF) (by have := FL.fz (H ++ []) none (l.map absF); rwa [List.length_map] at this) (by simpa using hB)) (OldOk.app (by simp)) ?_ | fail))
    | (refine gateQ ?_; refine m05 ?_)
    | (refine gateR ?_; (first | refine m04 ?_ | refine m02 ?_ | refine m03 ?_ | refine rk_nil ?_ | fail))
    | intro _)
  all_goals first | refine rv_old rfl (by simp [mx, mxL, aOf, aOf1, resOne]) ?_ | (trace_state; fail)
  all_goals exact rfl


set_option maxHeartbeats 4000000 in
theorem col_c (H : List (List AV)) (D : AV) (l : List Nat) (hF : FL H D l) (off rows cols ld : Int) (hI : MI l.length off rows cols ld) (hG : GoodP l.length off rows cols ld) (j : Int) (hj : 0 ≤ j) (hj' : j < cols) :
    CSpec Tryz.prog 110 [mt D off rows cols ld, .int .i64 j] H (vt D (cOff off rows ld j) rows 1) H := by
  obtain ⟨hn, ho1, ho2, hr1, hr2, hc1, hc2, hl1, hl2⟩ := id hI
  refine .mk (fun args w => Tryz.call110 args w) (Spec.intro' (fn := Tryz.f110) Tryz.func110 rfl (by kernel_rfl) (by simp) false [] (draw := drawX Tryz.prog ⟨false, _, []⟩) dOk ?_)
  simp only [argE, Nat.reduceAdd]
  repeat' (first
    | (refine gateE ?_; (first | refine b_c0 ?_ | refine b_nil ?_ | refine m13 ?_ | refine m12 ?_ | refine m11 ?_ | (refine m10 ?_; (first | refine g_TT ?_ | refine g_FF ?_ | refine g_TF ?_ | refine g_FT ?_ | refine g_PT ?_ ?_ | refine g_PF ?_ ?_ | refine g_BT ?_ ?_ | refine g_BF ?_ ?_ | fail)) | (refine m09 ?_; (first | refine g_TT ?_ | refine g_FF ?_ | refine g_TF ?_ | refine g_FT ?_ | refine g_PT ?_ ?_ | refine g_PF ?_ ?_ | refine g_BT ?_ ?_ | refine g_BF ?_ ?_ | fail)) | refine m38 ?_ | fail))
    | (refine gateO ?_; (first | refine m14 ?_ | (refine m17 ?_; first | refine m19 ?_ | refine m18 ?_) | (refine m07 ?_; (first | refine m15 ?_ | refine m16 ?_ | fail)) | (refine m00 ?_; (first | refine v_w (by first | omega | (have hp := good_place hG (i := 0) (j := j) (by omega) (by omega) (by omega) (by omega); omega) | fail) ?_ | refine m47 ?_ | refine m48 ?_ | refine m49 ?_ | refine m50 ?_ | refine v_nT ?_ | refine v_nF ?_ | refine v_nP ?_ | refine v_k ?_ | refine m51 ?_ | fail)) | (refine m22 ?_; (first | refine m26 ?_ | refine m27 ?_ | fail)) | (refine m20 ?_; (first | refine v_w (by first | omega | (have hp := good_place hG (i := 0) (j := j) (by omega) (by omega) (by omega) (by omega); omega) | fail) ?_ | refine m47 ?_ | refine m48 ?_ | refine m49 ?_ | refine m50 ?_ | refine v_nT ?_ | refine v_nF ?_ | refine v_nP ?_ | refine v_k ?_ | refine m51 ?_ | fail)) | refine b_callB ?_ | refine m25 ?_ | refine m01 ?_ | refine m24 ?_ | refine b_build ?_ | fail))
    | (refine gateT ?_; (first | refine b_thn ?_ | refine b_thr ?_ | refine b_the ?_ | fail))
    | (refine gateX ?_; (first | refine b_seq ?_ | refine b_region ?_ | (refine m06 ?_; (first | refine c_T ?_ | refine c_F ?_ | refine c_P ?_ ?_ | refine c_B ?_ ?_ | fail)) | refine b_ret ?_ | refine b_skip ?_ | refine b_block ?_ | refine b_exit ?_ | fail))
    | refine m21 ?_
    | refine a_nil ?_
    | (refine gateK ?_; (first | refine c_call (good_c _ D l.length off rows cols ld hF.len hI) (OldOk.app (by simp)) ?_ | fail))
    | refine m58 ?_
    | refine fk_nil ?_
    | (refine gateQ ?_; refine m05 ?_)
    | (refine gateR ?_; (first | refine m04 ?_ | refine m02 ?_ | refine m03 ?_ | refine rk_nil ?_ | fail))
    | intro _)
  all_goals first
    | (exfalso; contradiction)
    | (exfalso; omega)
    | (refine rv_old rfl (by have := hF.mx; simp [mx, mxL, resOne, aOf, aOf1]; omega) ?_; first | (unfold cOff; rw [if_pos (by omega)]; exact rfl) | (unfold cOff; rw [if_neg (by omega)]; exact rfl) | (unfold rOff; rw [if_pos (by omega)]; exact rfl) | (unfold rOff; rw [if_neg (by omega)]; exact rfl) | fail)

set_option maxHeartbeats 4000000 in
theorem one1_c (H : List (List AV)) (D : AV) (l : List Nat) (hF : FL H D l) (off rows cols ld : Int) (hI : MI l.length off rows cols ld) (hG : GoodP l.length off rows cols ld) (b : Nat) (hb : H[b]? = some [D, .int .i64 off, .int .i64 rows, .int .i64 cols, .int .i64 ld]) (j : Int) (hj : 0 ≤ j) (hj' : j < cols) :
    CSpec Tryz.prog 109 [.int .i64 j, .eptr (.slm b 5 0 1 5) 0] H (vt D (cOff off rows ld j) rows 1) H := by
  obtain ⟨hn, ho1, ho2, hr1, hr2, hc1, hc2, hl1, hl2⟩ := id hI
  refine .mk (fun args w => Tryz.call109 args w) (Spec.intro' (fn := Tryz.f109) Tryz.func109 rfl (by kernel_rfl) (by simp) false [] (draw := drawX Tryz.prog ⟨false, _, []⟩) dOk ?_)
  simp only [argE, Nat.reduceAdd]
  repeat' (first
    | (refine gateE ?_; (first | refine b_c0 ?_ | refine b_nil ?_ | fail))
    | (refine gateO ?_; (first | refine m14 ?_ | (refine m07 ?_; (first | refine m15 ?_ | refine m16 ?_ | refine l_oA hb (by exact rfl) (by exact rfl) ?_ | refine l_o1 hb (by exact rfl) (by exact rfl) ?_ | fail)) | refine b_callB ?_ | refine m25 ?_ | refine m24 ?_ | fail))
    | (refine gateT ?_; (first | refine b_thn ?_ | refine b_thr ?_ | refine b_the ?_ | fail))
    | (refine gateX ?_; (first | refine b_seq ?_ | refine b_region ?_ | (refine m06 ?_; (first | refine c_T ?_ | refine c_F ?_ | refine c_P ?_ ?_ | refine c_B ?_ ?_ | fail)) | refine b_ret ?_ | refine b_skip ?_ | refine b_block ?_ | refine b_exit ?_ | fail))
    | refine m21 ?_
    | refine a_nil ?_
    | (refine gateK ?_; (first | refine c_call (col_c _ D l (FL.app hF _) off rows cols ld hI hG j hj hj') (OldOk.app (by simp)) ?_ | fail))
    | (refine gateQ ?_; refine m05 ?_)
    | (refine gateR ?_; (first | refine m04 ?_ | refine m02 ?_ | refine m03 ?_ | refine rk_nil ?_ | fail))
    | intro _)
  all_goals first
    | (refine rv_old rfl (by have := hF.mx; simp [mx, mxL, resOne, aOf, aOf1]; omega) ?_; exact rfl)

def overG (l : List Nat) (vo : Nat → Int) (vn vi : Int) (k : Nat) : Nat := asumF (vecL l (vo k) vn vi)
/-- what over answers -/
def ovV (n : Nat) (off rows cols ld : Int) (x : Nat) : AV :=
  if GoodP n off rows cols ld then (if rows = 0 ∨ cols = 0 then .tup [.flt 0, .int .i64 0] else .tup [.flt x, .int .i64 0]) else .tup [.flt 0, .int .i64 1]
theorem ov_bad {n : Nat} {off rows cols ld : Int} {x : Nat} (h : ¬ GoodP n off rows cols ld) : ovV n off rows cols ld x = .tup [.flt 0, .int .i64 1] := if_neg h
theorem ov_nil {n : Nat} {off rows cols ld : Int} {x : Nat} (h : ¬ ¬ GoodP n off rows cols ld) (h2 : rows = 0 ∨ cols = 0) : ovV n off rows cols ld x = .tup [.flt 0, .int .i64 0] := by
  rw [ovV, if_pos (Decidable.not_not.1 h), if_pos h2]
theorem ov_ok {n : Nat} {off rows cols ld : Int} {x : Nat} (h : ¬ ¬ GoodP n off rows cols ld) (h2 : ¬ rows = 0) (h3 : ¬ cols = 0) : ovV n off rows cols ld x = .tup [.flt x, .int .i64 0] := by
  rw [ovV, if_pos (Decidable.not_not.1 h), if_neg (by omega)]
set_option maxHeartbeats 4000000 in
theorem over_c (H : List (List AV)) (D : AV) (l : List Nat) (hF : FL H D l) (off rows cols ld : Int) (hI : MI l.length off rows cols ld) (m : Nat) (hm : m ≤ 2 ^ 30) (fid : Nat) (caps : List AV) (vo : Nat → Int) (vn vi : Int) (hof : GoodP l.length off rows cols ld → ∀ k, k < m → ∀ N, CSpec Tryz.prog fid ([.int .i64 (k : Int)] ++ caps) (H ++ N) (vt D (vo k) vn vi) (H ++ N)) (hR : GoodP l.length off rows cols ld → ∀ k, k < m → RightP l.length (vo k) vn vi ∧ VI l.length (vo k) vn vi) :
    CSpec Tryz.prog 108 [mt D off rows cols ld, .int .i64 (m : Int), .func fid [] caps] H (ovV l.length off rows cols ld (greatF (rml (overG l vo vn vi) m))) H := by
  obtain ⟨hn, ho1, ho2, hr1, hr2, hc1, hc2, hl1, hl2⟩ := id hI
  refine .mk (fun args w => Tryz.call108 args w) (Spec.intro' (fn := Tryz.f108) Tryz.func108 rfl (by kernel_rfl) (by simp) false [38] (draw := drawX Tryz.prog ⟨false, _, [38]⟩) dOk ?_)
  simp only [argE, Nat.reduceAdd]
  repeat' (first
    | (refine gateE ?_; (first | refine b_c0 ?_ | refine b_nil ?_ | refine m13 ?_ | refine m12 ?_ | refine m11 ?_ | (refine m10 ?_; (first | refine g_TT ?_ | refine g_FF ?_ | refine g_TF ?_ | refine g_FT ?_ | refine g_PT ?_ ?_ | refine g_PF ?_ ?_ | refine g_BT ?_ ?_ | refine g_BF ?_ ?_ | fail)) | (refine m09 ?_; (first | refine g_TT ?_ | refine g_FF ?_ | refine g_TF ?_ | refine g_FT ?_ | refine g_PT ?_ ?_ | refine g_PF ?_ ?_ | refine g_BT ?_ ?_ | refine g_BF ?_ ?_ | fail)) | refine m38 ?_ | fail))
    | (refine gateO ?_; (first | refine m41 ?_ | refine b_moveI ?_ | refine m14 ?_ | (refine m17 ?_; first | refine m19 ?_ | refine m18 ?_) | (refine m07 ?_; (first | refine m15 ?_ | refine m16 ?_ | fail)) | refine b_grow (i := 0) (N₀ := []) (by (conv => {lhs; whnf}); done) (by (conv => {lhs; whnf}); done) (by exact rfl) (by exact rfl) (by simp) (by omega) (by exact rfl) (by exact rfl) (l' := fl (rml (overG l vo vn vi) (k + 1))) (by exact rml_fl _ _) ?_ | (refine m45 ?_; (first | refine v_bbT (by exact rfl) ?_ | refine v_k ?_ | fail)) | (refine m00 ?_; (first | refine m52 ?_ | refine m53 ?_ | refine v_eP ?_ | refine m47 ?_ | refine m48 ?_ | refine m49 ?_ | refine m50 ?_ | refine v_nT ?_ | refine v_nF ?_ | refine v_nP ?_ | refine v_k ?_ | refine m51 ?_ | fail)) | (refine m22 ?_; (first | refine m26 ?_ | refine m27 ?_ | fail)) | refine m42 ?_ | refine b_assignI ?_ | refine b_assignN ?_ | refine m08 ?_ | (refine m20 ?_; (first | refine m52 ?_ | refine m53 ?_ | refine v_eP ?_ | refine m47 ?_ | refine m48 ?_ | refine m49 ?_ | refine m50 ?_ | refine v_nT ?_ | refine v_nF ?_ | refine v_nP ?_ | refine v_k ?_ | refine m51 ?_ | fail)) | refine b_callB ?_ | refine m39 ?_ | refine m23 ?_ | refine m01 ?_ | refine b_bslZ (by exact rfl) (by exact rfl) (by decide) ?_ | fail))
    | (refine gateT ?_; (first | refine b_thn ?_ | refine b_thr ?_ | refine b_the ?_ | fail))
    | (refine gateX ?_; (first | refine b_seq ?_ | refine b_region ?_ | (refine m06 ?_; (first | refine c_T ?_ | refine c_F ?_ | refine c_P ?_ ?_ | refine c_B ?_ ?_ | fail)) | refine b_ret ?_ | refine b_skip ?_ | refine b_block ?_ | refine b_exit ?_ | (refine b_loop [26, 25, 3, 2, 8, 6, 7] m (fun k => ⟨[(26, .val (.int .i64 (k : Int))), (25, .val (.int .i64 (m : Int))), (3, .loc 3 0), (2, .val (.func fid [] caps)), (8, .val (gV H.length 0 k)), (6, .val (.flt 0)), (7, .val (.int .i64 0))], [(3, [D, .int .i64 off, .int .i64 rows, .int .i64 cols, .int .i64 ld])], H ++ ([] ++ gN (fl (rml (overG l vo vn vi) k)))⟩) (by exact rfl) ?_ ?_ <;> (first | intro k hk K hK | intro K) <;> (try dsimp only at *) <;> (try simp only [Int.natCast_add, Int.natCast_one] at *)) | fail))
    | refine m21 ?_
    | refine a_nil ?_
    | (refine gateK ?_; (first | refine c_call (good_c _ D l.length off rows cols ld hF.len hI) (OldOk.app (by simp)) ?_ | refine c_call (hof (by first | assumption | exact Decidable.not_not.1 (by assumption)) k hk _) (OldOk.app (by simp)) ?_ | refine c_call (asum_c _ D l (FL.app hF _) _ _ _ (hR (by first | assumption | exact Decidable.not_not.1 (by assumption)) k hk).2 (hR (by first | assumption | exact Decidable.not_not.1 (by assumption)) k hk).1) (OldOk.app (by simp)) ?_ | refine c_call (great_c _ _ (rml (overG l vo vn vi) m) (by have := @gV_FL H.length 0 (rml (overG l vo vn vi) m) H [] (by exact rfl) rfl; simpa using this) (by simpa using hm)) (OldOk.app (by simp)) ?_ | fail))
    | refine m44 ?_
    | refine m40 ?_
    | (refine gk_nilN (by (conv => {lhs; simp only [List.nil_append, List.cons_append]}); done) ?_; first | refine ⟨by exact rfl, ?_⟩ | skip)
    | refine gk_nil ?_
    | (intro N' hN'; simp only [List.nil_append, List.cons_append] at hN'; subst hN')
    | (refine gateB ?_; (first | refine b_bln ?_ | refine b_blr ?_ | refine b_ble ?_ | refine m57 ?_ | fail))
    | (refine gateL ?_; (first | refine lp_n ?_ | refine lp_r ?_ | refine lp_e ?_ | fail))
    | (refine pr_k (by exact rfl) ?_; first | exact hK | fail | (exfalso; first | omega | (simp_all; done) | (simp_all; omega)))
    | (refine gateQ ?_; refine m05 ?_)
    | (refine gateR ?_; (first | refine m04 ?_ | refine m02 ?_ | refine m03 ?_ | refine rk_nil ?_ | fail))
    | intro _)
  all_goals first | refine rv_old rfl (by simp [mx, mxL, aOf, aOf1, resOne]) ?_ | (trace_state; fail)
  all_goals first
    | exact (ov_bad (by assumption)).symm
    | exact (ov_nil (by assumption) (.inl (by assumption))).symm
    | exact (ov_nil (by assumption) (.inr (by assumption))).symm
    | exact (ov_ok (by assumption) (by assumption) (by assumption)).symm


end
/-- the greatest sum of a column's, of a row's, numbers without signs -/
def oneF (g : Nat → Nat → Nat) (r c : Nat) : Nat := if r = 0 ∨ c = 0 then 0 else greatF (rml (fun j => asumF (colL g r j)) c)
theorem ov_one {l : List Nat} {off ld : Int} {r c : Nat} (hG : GoodP l.length off r c ld) : ovV l.length off r c ld (greatF (rml (overG l (fun j => cOff off r ld (j : Int)) r 1) c)) = .tup [.flt (oneF (mel l off ld) r c), .int .i64 0] := by
  have e : rml (overG l (fun j => cOff off r ld (j : Int)) r 1) c = rml (fun j => asumF (colL (mel l off ld) r j)) c := rml_congr fun k _ => by
    simp only [overG]; rw [vec_col l off r ld k (by omega)]; simp
  rw [ovV, if_pos hG, e, oneF]
  by_cases h : r = 0 ∨ c = 0
  · rw [if_pos (by omega), if_pos h]
  · rw [if_neg (by omega), if_neg h]
section
attribute [local irreducible] Ex exOps exD opX opE thenX blkX RetQ Spec CSpec Fr condK guardK guardD ckK valK pickK loadK faK callK argK gK fK rK RetV lpX prK
set_option maxHeartbeats 4000000 in
theorem one_g (H : List (List AV)) (D : AV) (l : List Nat) (hF : FL H D l) (off rows cols ld : Int) (hI : MI l.length off rows cols ld) (hG : GoodP l.length off rows cols ld) (hB : cols ≤ 2 ^ 30) :
    CSpec Tryz.prog 53 [mt D off rows cols ld] H (.tup [.flt (oneF (mel l off ld) rows.toNat cols.toNat), .int .i64 0]) H := by
  obtain ⟨r, rfl⟩ : ∃ r : Nat, rows = (r : Int) := ⟨rows.toNat, by have := hG.1; omega⟩
  obtain ⟨c, rfl⟩ : ∃ c : Nat, cols = (c : Int) := ⟨cols.toNat, by have := hG.2.1; omega⟩
  simp only [Int.toNat_natCast]
  have hov := @ov_one l off ld r c hG
  obtain ⟨hn, ho1, ho2, hr1, hr2, hc1, hc2, hl1, hl2⟩ := id hI
  refine .mk (fun args w => Tryz.call53 args w) (Spec.intro' (fn := Tryz.f53) Tryz.func53 rfl (by kernel_rfl) (by simp) true [] (draw := drawX Tryz.prog ⟨true, _, []⟩) dOk ?_)
  simp only [argE, Nat.reduceAdd]
  repeat' (first
    | (refine gateE ?_; (first | refine b_c0 ?_ | refine b_nil ?_ | fail))
    | (refine gateO ?_; (first | (refine m17 ?_; first | refine m19 ?_ | refine m18 ?_) | (refine m07 ?_; (first | refine m15 ?_ | refine m16 ?_ | refine l_nA (by exact rfl) (by exact rfl) (by exact rfl) (by exact rfl) ?_ | refine l_n1 (by exact rfl) (by exact rfl) (by exact rfl) (by exact rfl) ?_ | fail)) | refine b_boxE (by (conv => {lhs; whnf}); done) (by exact rfl) (by exact rfl) (by exact rfl) (by (conv => {lhs; whnf}); done) (by (conv => {lhs; simp only [List.nil_append, List.cons_append]}); done) ?_ | refine b_mkF ?_ | refine m42 ?_ | refine b_assignI ?_ | refine b_assignN ?_ | refine m08 ?_ | refine b_callB ?_ | refine m23 ?_ | refine m01 ?_ | fail))
    | (refine gateT ?_; (first | refine b_thn ?_ | refine b_thr ?_ | refine b_the ?_ | fail))
    | (refine gateX ?_; (first | refine b_seq ?_ | refine b_region ?_ | (refine m06 ?_; (first | refine c_T ?_ | refine c_F ?_ | refine c_P ?_ ?_ | refine c_B ?_ ?_ | fail)) | refine b_ret ?_ | refine b_skip ?_ | refine b_block ?_ | refine b_exit ?_ | fail))
    | refine m21 ?_
    | refine a_nil ?_
    | (refine gateK ?_; (first | refine c_call ((hov ▸ over_c _ D l (FL.app hF _) off _ _ ld hI c (by omega) 109 _ (fun j => cOff off r ld (j : Int)) r 1 (fun hG k hk N => one1_c _ D l (FL.app (FL.app hF _) _) off _ _ ld hI hG _ (hg_old (hg_new (by exact rfl) rfl)) k (by omega) (by omega)) (fun hG k hk => ⟨col_right hG (by omega) (by omega), right_VI (col_right hG (by omega) (by omega)) (by omega) (by omega) (by omega) (cOff_le hG (by omega) (by omega) (by omega))⟩))) (OldOk.app (by simp)) ?_ | fail))
    | refine m44 ?_
    | refine m40 ?_
    | (refine gk_nilN (by (conv => {lhs; simp only [List.nil_append, List.cons_append]}); done) ?_; first | refine ⟨by exact rfl, ?_⟩ | skip)
    | refine gk_nil ?_
    | (intro N' hN'; simp only [List.nil_append, List.cons_append] at hN'; subst hN')
    | (refine gateQ ?_; refine m05 ?_)
    | (refine gateR ?_; (first | refine m04 ?_ | refine m02 ?_ | refine m03 ?_ | refine rk_nil ?_ | fail))
    | intro _)
  all_goals first | refine rv_old rfl (by simp [mx, mxL, aOf, aOf1, resOne]) ?_ | (trace_state; fail)
  all_goals exact rfl

set_option maxHeartbeats 4000000 in
theorem tcol_c (H : List (List AV)) (A : AV) (a : List Nat) (hA : FL H A a) (r c : Nat) (ha : a.length = r * c) (hr : r ≤ 1000) (hc : c ≤ 1000) (j : Nat) (hj : j < c) :
    CSpec Tryz.prog 119 [mM A r c, .int .i64 (j : Int)] H (.sl none r (fl (rml (fun k => a.getD (k * c + j) 0) r))) H := by
  have hrc : r * c ≤ 1000000 := by (have := Nat.mul_le_mul hr hc; omega)
  refine .mk (fun args w => Tryz.call119 args w) (Spec.intro' (fn := Tryz.f119) Tryz.func119 rfl (by kernel_rfl) (by simp) false [18] (draw := drawX Tryz.prog ⟨false, _, [18]⟩) dOk ?_)
  simp only [argE, Nat.reduceAdd]
  repeat' (first
    | (refine gateE ?_; (first | refine b_c0 ?_ | refine b_nil ?_ | fail))
    | (refine gateO ?_; (first | refine m14 ?_ | (refine m17 ?_; first | refine m19 ?_ | refine m18 ?_) | (refine m07 ?_; (first | refine m15 ?_ | refine m16 ?_ | fail)) | refine b_grow (i := 0) (N₀ := []) (by (conv => {lhs; whnf}); done) (by (conv => {lhs; whnf}); done) (by exact rfl) (by exact rfl) (by simp) (by omega) (by exact rfl) (by exact rfl) (l' := fl (rml (fun k => a.getD (k * c + j) 0) (k + 1))) (by exact rml_fl (fun k => a.getD (k * c + j) 0) k) ?_ | (refine m00 ?_; (first | refine m47 ?_ | refine m48 ?_ | refine m49 ?_ | refine m50 ?_ | refine v_k ?_ | refine m51 ?_ | fail)) | refine m42 ?_ | refine b_assignI ?_ | refine b_assignN ?_ | refine m08 ?_ | refine b_callB ?_ | refine m01 ?_ | refine b_bslZ (by exact rfl) (by exact rfl) (by decide) ?_ | fail))
    | (refine gateT ?_; (first | refine b_thn ?_ | refine b_thr ?_ | refine b_the ?_ | fail))
    | (refine gateX ?_; (first | refine b_seq ?_ | refine b_region ?_ | (refine m06 ?_; (first | refine c_T ?_ | refine c_F ?_ | refine c_P ?_ ?_ | refine c_B ?_ ?_ | fail)) | refine b_ret ?_ | refine b_skip ?_ | refine b_block ?_ | refine b_exit ?_ | (refine b_loop [6, 1, 2, 5, 4] r (fun k => ⟨[(6, .val (.int .i64 (k : Int))), (1, .val (.int .i64 (j : Int))), (2, .loc 2 0), (5, .val (gV H.length 0 k)), (4, .val .slnil)], [(2, [.int .i64 (r : Int), .int .i64 (c : Int), A])], H ++ ([] ++ gN (fl (rml (fun k => a.getD (k * c + j) 0) k)))⟩) (by exact rfl) ?_ ?_ <;> (first | intro k hk K hK | intro K) <;> (try dsimp only at *) <;> (try simp only [Int.natCast_add, Int.natCast_one] at *)) | fail))
    | refine m21 ?_
    | refine a_nil ?_
    | (refine gateK ?_; (first | refine c_call (tat_c _ A a (FL.app hA _) r c ha hr hc k j (by omega) (by omega)) (OldOk.app (by simp)) ?_ | fail))
    | refine m44 ?_
    | refine m40 ?_
    | (refine gk_nilN (by (conv => {lhs; simp only [List.nil_append, List.cons_append]}); done) ?_; first | refine ⟨by exact rfl, ?_⟩ | skip)
    | refine gk_nil ?_
    | (intro N' hN'; simp only [List.nil_append, List.cons_append] at hN'; subst hN')
    | (refine gateB ?_; (first | refine b_bln ?_ | refine b_blr ?_ | refine b_ble ?_ | refine m57 ?_ | fail))
    | (refine gateL ?_; (first | refine lp_n ?_ | refine lp_r ?_ | refine lp_e ?_ | fail))
    | (refine pr_k (by exact rfl) ?_; first | exact hK | fail | (exfalso; first | omega | (simp_all; done) | (simp_all; omega)))
    | (refine gateQ ?_; refine m05 ?_)
    | (refine gateR ?_; (first | refine m04 ?_ | refine m02 ?_ | refine m03 ?_ | refine rk_nil ?_ | fail))
    | intro _)
  all_goals first
    | (refine rv_fr rfl ?_; exact gV_fr (N₀ := []) (i := 0) rfl rfl (by simp) (by rw [mxL_fl]; exact Nat.zero_le _))

set_option maxHeartbeats 4000000 in
theorem rone_c (H : List (List AV)) (A : AV) (a : List Nat) (hA : FL H A a) (r c : Nat) (ha : a.length = r * c) (hr : r ≤ 1000) (hc : c ≤ 1000) (N : Nat) (hN0 : r = 0 → N = 0) (hN1 : r ≠ 0 → N = c) :
    CSpec Tryz.prog 62 [mM A r c] H (.flt (greatF (rml (fun k => asumF (rml (fun i => a.getD (i * c + k) 0) r)) N))) H := by
  have hrc : r * c ≤ 1000000 := by (have := Nat.mul_le_mul hr hc; omega)
  refine .mk (fun args w => Tryz.call62 args w) (Spec.intro' (fn := Tryz.f62) Tryz.func62 rfl (by kernel_rfl) (by simp) false [21] (draw := drawX Tryz.prog ⟨false, _, [21]⟩) dOk ?_)
  simp only [argE, Nat.reduceAdd]
  repeat' (first
    | (refine gateE ?_; (first | refine b_c0 ?_ | refine b_nil ?_ | refine m13 ?_ | refine m12 ?_ | refine m11 ?_ | (refine m10 ?_; (first | refine g_TT ?_ | refine g_FF ?_ | refine g_TF ?_ | refine g_FT ?_ | refine g_PT ?_ ?_ | refine g_PF ?_ ?_ | refine g_BT ?_ ?_ | refine g_BF ?_ ?_ | fail)) | (refine m09 ?_; (first | refine g_TT ?_ | refine g_FF ?_ | refine g_TF ?_ | refine g_FT ?_ | refine g_PT ?_ ?_ | refine g_PF ?_ ?_ | refine g_BT ?_ ?_ | refine g_BF ?_ ?_ | fail)) | refine m38 ?_ | fail))
    | (refine gateO ?_; (first | refine m14 ?_ | (refine m17 ?_; first | refine m19 ?_ | refine m18 ?_) | (refine m07 ?_; (first | refine m15 ?_ | refine m16 ?_ | fail)) | refine b_grow (i := 0) (N₀ := []) (by (conv => {lhs; whnf}); done) (by (conv => {lhs; whnf}); done) (by exact rfl) (by exact rfl) (by simp) (by omega) (by exact rfl) (by exact rfl) (l' := fl (rml (fun k => asumF (rml (fun i => a.getD (i * c + k) 0) r)) (k + 1))) (by exact rml_fl (fun k => asumF (rml (fun i => a.getD (i * c + k) 0) r)) k) ?_ | (refine m00 ?_; (first | refine m47 ?_ | refine m48 ?_ | refine m49 ?_ | refine m50 ?_ | refine v_k ?_ | refine m51 ?_ | fail)) | (refine m22 ?_; (first | refine m26 ?_ | refine m27 ?_ | fail)) | refine m42 ?_ | refine b_assignI ?_ | refine b_assignN ?_ | refine m08 ?_ | refine b_callB ?_ | refine m01 ?_ | refine b_bslZ (by exact rfl) (by exact rfl) (by decide) ?_ | fail))
    | (refine gateT ?_; (first | refine b_thn ?_ | refine b_thr ?_ | refine b_the ?_ | fail))
    | (refine gateX ?_; (first | refine b_seq ?_ | refine b_region ?_ | (refine m06 ?_; (first | refine c_T ?_ | refine c_F ?_ | refine c_P ?_ ?_ | refine c_B ?_ ?_ | fail)) | refine b_ret ?_ | refine b_skip ?_ | refine b_block ?_ | refine b_exit ?_ | (refine b_loop [4, 1, 3, 2] N (fun k => ⟨[(4, .val (.int .i64 (k : Int))), (1, .loc 1 0), (3, .val (gV H.length 0 k)), (2, .val (.flt 0))], [(1, [.int .i64 (r : Int), .int .i64 (c : Int), A])], H ++ ([] ++ gN (fl (rml (fun k => asumF (rml (fun i => a.getD (i * c + k) 0) r)) k)))⟩) (by exact rfl) ?_ ?_ <;> (first | intro k hk K hK | intro K) <;> (try dsimp only at *) <;> (try simp only [Int.natCast_add, Int.natCast_one] at *)) | fail))
    | refine m21 ?_
    | refine a_nil ?_
    | (refine gateK ?_; (first | refine c_call (tcol_c _ A a (FL.app hA _) r c ha hr hc k (by omega)) (OldOk.app (by simp)) ?_ | refine c_call (rasum_c _ _ (rml (fun i => a.getD (i * c + k) 0) r) (by have := FL.fz (H ++ ([] ++ gN (fl (rml (fun k => asumF (rml (fun i => a.getD (i * c + k) 0) r)) k)))) none (rml (fun i => a.getD (i * c + k) 0) r); simpa using this) (by simp; omega)) (OldOk.app (by simp)) ?_ | refine c_call (rgreat_c _ _ (rml (fun k => asumF (rml (fun i => a.getD (i * c + k) 0) r)) N) (by have := @gV_FL H.length 0 (rml (fun k => asumF (rml (fun i => a.getD (i * c + k) 0) r)) N) H [] (by exact rfl) rfl; simpa using this) (by simp; omega)) (OldOk.app (by simp)) ?_ | fail))
    | refine m44 ?_
    | refine m40 ?_
    | (refine gk_nilN (by (conv => {lhs; simp only [List.nil_append, List.cons_append]}); done) ?_; first | refine ⟨by exact rfl, ?_⟩ | skip)
    | refine gk_nil ?_
    | (intro N' hN'; simp only [List.nil_append, List.cons_append] at hN'; subst hN')
    | (refine gateB ?_; (first | refine b_bln ?_ | refine b_blr ?_ | refine b_ble ?_ | refine m57 ?_ | fail))
    | (refine gateL ?_; (first | refine lp_n ?_ | refine lp_r ?_ | refine lp_e ?_ | fail))
    | (refine pr_k (by exact rfl) ?_; first | exact hK | fail | (exfalso; first | omega | (simp_all; done) | (simp_all; omega)))
    | (refine gateQ ?_; refine m05 ?_)
    | (refine gateR ?_; (first | refine m04 ?_ | refine m02 ?_ | refine m03 ?_ | refine rk_nil ?_ | fail))
    | intro _)
  all_goals first | refine rv_old rfl (by simp [mx, mxL, aOf, aOf1, resOne]) ?_ | (trace_state; fail)
  all_goals exact rfl

theorem rone_m (H : List (List AV)) (A : AV) (g : Nat → Nat → Nat) (r c : Nat) (hA : FL H A (rmA g r c)) (hr : r ≤ 1000) (hc : c ≤ 1000) : CSpec Tryz.prog 62 [mM A r c] H (.flt (oneF g r c)) H := by
  have h := rone_c H A (rmA g r c) hA r c (by simp) hr hc (if r = 0 then 0 else c) (fun h => by simp [h]) (fun h => by simp [h])
  have e : greatF (rml (fun k => asumF (rml (fun i => (rmA g r c).getD (i * c + k) 0) r)) (if r = 0 then 0 else c)) = oneF g r c := by
    unfold oneF
    by_cases h0 : r = 0 ∨ c = 0
    · rw [if_pos h0]
      have : (if r = 0 then 0 else c) = 0 := by rcases h0 with h0 | h0 <;> simp [h0]
      rw [this]; rfl
    · rw [if_neg h0, if_neg (by omega)]
      congr 1
      refine rml_congr fun k hk => ?_
      congr 1
      exact rml_congr fun i hi => rmA_get hi hk
  rwa [e] at h
set_option maxHeartbeats 4000000 in
theorem most_c (H : List (List AV)) (D : AV) (l : List Nat) (hF : FL H D l) (off inc : Int) (n : Nat) (hI : VI l.length off n inc) (hR : RightP l.length off n inc) (hn0 : 0 < n) :
    CSpec Tryz.prog 138 [vt D off n inc] H (.tup [.int .i64 (moN (vecL l off (n : Int) inc) n : Int), .int .i64 0]) H := by
  obtain ⟨hm, ho1, ho2, hn1, hn2, hi1, hi2⟩ := id hI
  have hlt : ∀ k, 0 < k → moN (vecL l off (n : Int) inc) k < k := fun k hk => moN_lt _ k hk
  have hg : ∀ k : Nat, k < n → l.getD (off + (k : Int) * inc).toNat 0 = (vecL l off (n : Int) inc).getD k 0 := fun k hk => (vecL_get (by omega)).symm
  refine .mk (fun args w => Tryz.call138 args w) (Spec.intro' (fn := Tryz.f138) Tryz.func138 rfl (by kernel_rfl) (by simp) false [] (draw := drawX Tryz.prog ⟨false, _, []⟩) dOk ?_)
  simp only [argE, Nat.reduceAdd]
  repeat' (first
    | (refine gateE ?_; (first | refine b_c0 ?_ | refine b_nil ?_ | refine m13 ?_ | refine m12 ?_ | refine m11 ?_ | (refine m10 ?_; (first | refine g_TT ?_ | refine g_FF ?_ | refine g_TF ?_ | refine g_FT ?_ | refine g_PT ?_ ?_ | refine g_PF ?_ ?_ | refine g_BT ?_ ?_ | refine g_BF ?_ ?_ | fail)) | (refine m09 ?_; (first | refine g_TT ?_ | refine g_FF ?_ | refine g_TF ?_ | refine g_FT ?_ | refine g_PT ?_ ?_ | refine g_PF ?_ ?_ | refine g_BT ?_ ?_ | refine g_BF ?_ ?_ | fail)) | refine m38 ?_ | fail))
    | (refine gateO ?_; (first | refine m41 ?_ | refine b_moveI ?_ | refine m14 ?_ | (refine m17 ?_; first | refine m19 ?_ | refine m18 ?_) | (refine m07 ?_; (first | refine m15 ?_ | refine m16 ?_ | fail)) | (refine m00 ?_; (first | refine m47 ?_ | refine m48 ?_ | refine m49 ?_ | refine m50 ?_ | refine v_nT ?_ | refine v_nF ?_ | refine v_nP ?_ | refine v_k ?_ | refine m51 ?_ | fail)) | (refine m22 ?_; (first | refine m26 ?_ | refine m27 ?_ | fail)) | refine m42 ?_ | refine b_assignI ?_ | refine b_assignN ?_ | refine m08 ?_ | (refine m20 ?_; (first | refine m47 ?_ | refine m48 ?_ | refine m49 ?_ | refine m50 ?_ | refine v_nT ?_ | refine v_nF ?_ | refine v_nP ?_ | refine v_k ?_ | refine m51 ?_ | fail)) | refine b_callB ?_ | refine m01 ?_ | fail))
    | (refine gateD ?_; (first | refine m36 ?_ | refine d_nil ?_ | refine m32 ?_ | refine m31 ?_ | refine m30 ?_ | (refine m28 ?_; (first | refine dg_TT ?_ | refine dg_FF ?_ | refine dg_TF ?_ | refine dg_FT ?_ | refine dg_PT ?_ ?_ | refine dg_PF ?_ ?_ | refine dg_BT ?_ ?_ | refine dg_BF ?_ ?_ | fail)) | (refine m29 ?_; (first | refine dg_TT ?_ | refine dg_FF ?_ | refine dg_TF ?_ | refine dg_FT ?_ | refine dg_PT ?_ ?_ | refine dg_PF ?_ ?_ | refine dg_BT ?_ ?_ | refine dg_BF ?_ ?_ | fail)) | refine m37 ?_ | fail))
    | (refine gateC ?_; (first | refine k_lt ?_ | refine m34 ?_ | refine m35 ?_ | refine m33 ?_ | refine k_mn ?_ | refine m56 ?_ | refine k_mnF ?_ | fail))
    | (refine gateT ?_; (first | refine b_thn ?_ | refine b_thr ?_ | refine b_the ?_ | fail))
    | (refine gateX ?_; (first | refine b_seq ?_ | refine b_region ?_ | (refine m06 ?_; (first | refine c_T ?_ | refine c_F ?_ | refine c_P ?_ ?_ | refine c_B ?_ ?_ | fail)) | refine b_ret ?_ | refine b_skip ?_ | refine b_block ?_ | refine b_exit ?_ | refine b_draw (id := 7) [] [] [(0, .lt), (1, .lt), (2, .lt), (3, .ld true), (4, .lt), (7, .ld true), (8, .lt), (5, .mn true), (6, .mn true), (9, .mn true), (10, .mn true), (11, .lt), (12, .lt)] (by kernel_rfl) ?_ | (refine b_loop [11, 10, 1, 4, 3, 2] n (fun k => ⟨[(11, .val (.int .i64 (k : Int))), (10, .val (.int .i64 (n : Int))), (1, .loc 1 0), (4, .val (.int .i64 (moI (vecL l off (n : Int) inc) k))), (3, .val (.int .i64 0)), (2, .val (.int .i64 0))], [(1, [D, .int .i64 off, .int .i64 (n : Int), .int .i64 inc])], H ++ []⟩) (by exact rfl) ?_ ?_ <;> (first | (intro k hk K hK; rcases Nat.eq_zero_or_pos k with h0 | h0) | intro K) <;> (try dsimp only at *) <;> (try simp only [Int.natCast_add, Int.natCast_one] at *) <;> (try (first | (subst h0; simp only [moI_zero, moI_one] at *) | (simp only [moI_pos h0, moI_pos (Nat.succ_pos k)] at *)))) | fail))
    | refine m21 ?_
    | refine a_nil ?_
    | (refine gateK ?_; (first | refine c_call (right_c _ D l (FL.app hF _) off n inc hI) (OldOk.app (by simp)) ?_ | refine c_call (at_c _ D l (FL.app hF _) off _ inc hI hR (k : Int) (by omega) (by omega)) (OldOk.app (by simp)) ?_ | refine c_call (at_c _ D l (FL.app hF _) off _ inc hI hR ((moN _ k : Nat) : Int) (by omega) (by have := hlt k h0; omega)) (OldOk.app (by simp)) ?_ | refine c_call (mabs_c _ _) (OldOk.app (by simp)) ?_ | fail))
    | (refine gateB ?_; (first | refine b_bln ?_ | refine b_blr ?_ | refine b_ble ?_ | refine m57 ?_ | fail))
    | (refine gateL ?_; (first | refine lp_n ?_ | refine lp_r ?_ | refine lp_e ?_ | fail))
    | (refine pr_k (by exact rfl) ?_; first | exact hK | (rw [moN_T h0 (by rw [← hg k hk, ← hg _ (by have := hlt k h0; omega)]; assumption)] at hK; exact hK) | (rw [moN_F h0 (by rw [← hg k hk, ← hg _ (by have := hlt k h0; omega)]; assumption)] at hK; exact hK) | (exfalso; first | omega | (simp_all; done) | (simp_all; omega)))
    | (refine gateQ ?_; refine m05 ?_)
    | (refine gateR ?_; (first | refine m04 ?_ | refine m02 ?_ | refine m03 ?_ | refine rk_nil ?_ | fail))
    | intro _)
  all_goals first
    | (exfalso; contradiction)
    | (refine rv_old rfl (by simp [mx, mxL, aOf, aOf1, resOne]) ?_; rw [moI_pos hn0]; exact rfl)


set_option maxHeartbeats 4000000 in
theorem rmst_c (H : List (List AV)) (D : AV) (l : List Nat) (hF : FL H D l) (hB : l.length ≤ 2 ^ 30) (h0 : 0 < l.length) :
    CSpec Tryz.prog 114 [D] H (.int .i64 (moN l l.length : Int)) H := by
  have hlt : ∀ k, k < l.length - 1 → moN l (k + 1) < l.length := fun k hk => by (have := moN_lt l (k + 1) (by omega); omega)
  refine .mk (fun args w => Tryz.call114 args w) (Spec.intro' (fn := Tryz.f114) Tryz.func114 rfl (by kernel_rfl) (by simp) false [] (draw := drawX Tryz.prog ⟨false, _, []⟩) dOk ?_)
  simp only [argE, Nat.reduceAdd]
  repeat' (first
    | (refine gateE ?_; (first | refine b_c0 ?_ | refine b_nil ?_ | fail))
    | (refine gateO ?_; (first | refine m14 ?_ | (refine m07 ?_; (first | refine m15 ?_ | refine m16 ?_ | refine l_FL (FL.app hF _) (by omega) ?_ | refine l_FL (FL.app hF _) (by have := hlt k hk; omega) ?_ | fail)) | refine b_lenA (by (conv => {lhs; whnf}); done) (by exact hF.len) ?_ | refine b_iaM (m := k + 1) (by (conv => {lhs; whnf}); done) (by (conv => {lhs; whnf}); done) (by exact hF.len) (by omega) (by omega) ?_ | refine b_iaN (by (conv => {lhs; whnf}); done) (by (conv => {lhs; whnf}); done) (by exact hF.len) (by have := hlt k hk; omega) ?_ | (refine m45 ?_; (first | refine v_bbT (by exact rfl) ?_ | refine v_k ?_ | fail)) | (refine m00 ?_; (first | refine m52 ?_ | refine m53 ?_ | refine v_eP ?_ | refine m47 ?_ | refine m48 ?_ | refine m49 ?_ | refine m50 ?_ | refine v_k ?_ | refine m51 ?_ | fail)) | refine m42 ?_ | refine b_assignI ?_ | refine b_assignN ?_ | refine m08 ?_ | refine b_callB ?_ | refine b_lenA (by (conv => {lhs; whnf}); done) (by first | rfl | assumption) ?_ | fail))
    | (refine gateD ?_; (first | refine m36 ?_ | refine d_nil ?_ | fail))
    | (refine gateC ?_; (first | refine k_lt ?_ | refine m34 ?_ | refine m35 ?_ | refine m33 ?_ | refine k_mn ?_ | refine m56 ?_ | refine k_mnF ?_ | refine k_mnL (by exact rfl) ?_ | fail))
    | (refine gateT ?_; (first | refine b_thn ?_ | refine b_thr ?_ | refine b_the ?_ | fail))
    | (refine gateX ?_; (first | refine b_seq ?_ | refine b_region ?_ | (refine m06 ?_; (first | refine c_T ?_ | refine c_F ?_ | refine c_P ?_ ?_ | refine c_B ?_ ?_ | fail)) | refine b_ret ?_ | refine b_skip ?_ | refine b_block ?_ | refine b_exit ?_ | refine b_draw (id := 7) [] [] [(0, .lt), (1, .lt), (2, .lt), (3, .ld true), (5, .lt), (6, .lt), (7, .lt), (8, .ld true), (4, .mn true), (9, .mn true), (10, .lt)] (by kernel_rfl) ?_ | (refine b_loop [4, 0, 3, 2] (l.length - 1) (fun k => ⟨[(4, .val (.int .i64 ((k + 1 : Nat) : Int))), (0, .val D), (3, .val (.int .i64 (moN l (k + 1) : Int))), (2, .val (.int .i64 0))], [], H ++ []⟩) (by exact rfl) ?_ ?_ <;> (first | intro k hk K hK | intro K) <;> (try dsimp only at *) <;> (try simp only [Int.natCast_add, Int.natCast_one] at *)) | fail))
    | refine m21 ?_
    | refine a_nil ?_
    | (refine gateK ?_; (first | refine c_call (rabs_c _ _) (OldOk.app (by simp)) ?_ | fail))
    | (refine gateB ?_; (first | refine b_bln ?_ | refine b_blr ?_ | refine b_ble ?_ | refine m57 ?_ | fail))
    | (refine gateL ?_; (first | refine lp_n ?_ | refine lp_r ?_ | refine lp_e ?_ | fail))
    | (refine pr_k (by exact rfl) ?_; first | exact hK | (rw [moN_T (k := k + 1) (by omega) (by assumption)] at hK; exact hK) | (rw [moN_F (k := k + 1) (by omega) (by assumption)] at hK; exact hK) | (exfalso; first | omega | (simp_all; done) | (simp_all; omega)))
    | (refine gateQ ?_; refine m05 ?_)
    | (refine gateR ?_; (first | refine m04 ?_ | refine m02 ?_ | refine m03 ?_ | refine rk_nil ?_ | fail))
    | intro _)
  all_goals first | refine rv_old rfl (by simp [mx, mxL, aOf, aOf1, resOne]) ?_ | (trace_state; fail)
  all_goals first
    | (exfalso; omega)
    | (rw [show l.length - 1 + 1 = l.length by omega]; exact rfl)

end
end Go.Sx

set_option linter.unusedVariables false
set_option linter.unusedSimpArgs false
set_option maxRecDepth 20000
namespace Go.Sx
open Go.Proofs

theorem rml_slf (l : List Nat) : rml (fun i => l.getD i 0) l.length = l := by
  apply List.ext_getElem
  · simp
  · intro i h1 h2
    have e := rml_get (g := fun i => l.getD i 0) h2
    have a1 : (rml (fun i => l.getD i 0) l.length)[i] = (rml (fun i => l.getD i 0) l.length).getD i 0 := by rw [List.getD_eq_getElem?_getD, List.getElem?_eq_getElem h1]; rfl
    have a2 : l[i] = l.getD i 0 := by rw [List.getD_eq_getElem?_getD, List.getElem?_eq_getElem h2]; rfl
    rw [a1, a2]; exact e
theorem vector_a (H : List (List AV)) (D : AV) (l : List Nat) (hF : FL H D l) (hB : l.length ≤ 2 ^ 30) : CSpec Tryz.prog 73 [D] H (.tup [.flt (asumF l), .flt (greatF (l.map absF))]) H := by
  have h := vector_c H D l hF hB
  rwa [asum_sum] at h
theorem lvec_n (H : List (List AV)) (X : AV) (x : List Nat) (hX : FL H X x) (n : Nat) (hx : x.length = n) : CSpec Tryz.prog 149 [X] H (vt X 0 (n : Int) 1) H := by subst hx; exact lvec_c H X x hX
theorem sign_n (H : List (List AV)) (X : AV) (x : List Nat) (hX : FL H X x) (n : Nat) (hx : x.length = n) (h1 : 1 ≤ n) (h64 : n ≤ 64) : CSpec Tryz.prog 152 [vt X 0 (n : Int) 1] H (.tup [.sl none n (fl (sgL x)), .int .i64 0]) H := by subst hx; exact sign_c H X x hX h1 h64
theorem clone_n9 (H : List (List AV)) (X : AV) (x : List Nat) (hX : FL H X x) (n : Nat) (hx : x.length = n) (h64 : n ≤ 64) (hN : NN X) : CSpec Tryz.prog 106 [X] H (.sl none n (fl x)) H := by subst hx; exact clone_z H X x hX (by omega) hN
attribute [local irreducible] Ex exOps exD opX opE thenX blkX RetQ Spec CSpec Fr condK guardK guardD ckK valK pickK loadK faK callK argK gK fK rK RetV lpX prK
set_option maxHeartbeats 4000000 in
theorem unit_c (H : List (List AV)) (mid : Nat) (hb : mid < H.length) (n : Nat) (hn1 : 1 ≤ n) (hn : n ≤ 64) (st : Int) (est : Nat) (V S : AV) (hV : mx V = 0) (hS : mx S = 0) (j ct : Nat) (H0 H' : List (List AV)) (h0 : H.set mid (mDc (n : Int) st est V S (j : Int) (ct : Int)) = H0) (h' : H.set mid (mDc (n : Int) 3 est V S (j : Int) (ct : Int)) ++ [fl (rml (yU j) n)] = H') (m : Nat) (hm9 : H.length = m) :
    CSpec Tryz.prog 150 [mP mid] H0 (.tup [.slm m n 0 n 1, .int .i64 1]) H' := by
  subst h0 h' hm9
  refine .mk (fun args w => Tryz.call150 args w) (Spec.intro' (fn := Tryz.f150) Tryz.func150 rfl (by kernel_rfl) (by simp) true [] (draw := drawX Tryz.prog ⟨true, _, []⟩) dOk ?_)
  simp only [argE, Nat.reduceAdd]
  repeat' (first
    | (refine gateE ?_; (first | refine b_c0 ?_ | refine b_nil ?_ | fail))
    | (refine gateO ?_; (first | (refine m07 ?_; (first | refine m15 ?_ | refine m16 ?_ | refine l_nA (by simp) (by exact rfl) (by exact rfl) (by exact rfl) ?_ | refine l_n1 (n := H.length) (by simp) (by exact rfl) (by exact rfl) (by exact rfl) ?_ | refine l_mM hb (by exact rfl) (by exact rfl) ?_ | fail)) | refine b_boxE (n := H.length) (by (conv => {lhs; whnf}); done) (by exact rfl) (by exact rfl) (by simp) (by (conv => {lhs; whnf}); done) (by (conv => {lhs; simp only [List.nil_append, List.cons_append]}); done) ?_ | refine b_mkF ?_ | refine m42 ?_ | refine b_assignI ?_ | refine b_assignN ?_ | refine m08 ?_ | refine b_callB ?_ | refine m23 ?_ | refine m01 ?_ | fail))
    | (refine gateT ?_; (first | refine b_thn ?_ | refine b_thr ?_ | refine b_the ?_ | fail))
    | (refine gateX ?_; (first | refine b_seq ?_ | refine b_region ?_ | (refine m06 ?_; (first | refine c_T ?_ | refine c_F ?_ | refine c_P ?_ ?_ | refine c_B ?_ ?_ | fail)) | refine b_ret ?_ | refine b_skip ?_ | refine b_block ?_ | refine b_exit ?_ | fail))
    | refine m43 ?_
    | refine a_consI ?_
    | refine m21 ?_
    | refine a_nil ?_
    | (refine gateK ?_; (first | refine c_call (ask_c (H ++ [[mP mid]]) mid (by simp; omega) n hn _ _ _ _ (by first | assumption | simp only [mx, mxL_fl]) (by first | assumption | simp only [mx, mxL_fl]) _ _ 3 1 173 _ (yU j) (fun N i hi => ku_c _ mid _ (md_at hb _) (by exact rfl) _ (bx_at hb) j (by exact rfl) i) _ _ (set_app0 hb _) (set_app9 hb _ _) _ (by simp; rfl)) (OldOk.mdl (by simp) (mDc_mx (by first | assumption | simp only [mx, mxL_fl]) (by first | assumption | simp only [mx, mxL_fl]))) ?_ | fail))
    | refine m44 ?_
    | refine m40 ?_
    | (refine gk_nilN (by (conv => {lhs; simp only [List.nil_append, List.cons_append]}); done) ?_; first | refine ⟨by exact rfl, ?_⟩ | skip)
    | refine gk_nil ?_
    | (intro N' hN'; simp only [List.nil_append, List.cons_append] at hN'; subst hN')
    | (refine gateQ ?_; refine m05 ?_)
    | (refine gateR ?_; (first | refine m04 ?_ | refine m02 ?_ | refine m03 ?_ | refine rk_nil ?_ | fail))
    | intro _)
  all_goals first
    | (exfalso; contradiction)
    | (exfalso; omega)
    | (exfalso; simp_all; done)
    | (refine rv_kp (j := 1) (cs := fl (rml (yU j) n)) (by simp) (by exact rfl) (by rw [mxL_fl]; exact Nat.zero_le _) ?_; simp only [List.length_set]; exact Fr.tup (Frs.cons (Fr.kp (j := 0) (cs := fl (rml (yU j) n)) rfl (hg_new (by simp) rfl) (by simp [*])) (Frs.cons (Fr.old (by simp [mx])) Frs.nil)))

set_option maxHeartbeats 4000000 in
theorem final_c (H : List (List AV)) (mid : Nat) (hb : mid < H.length) (n : Nat) (hn1 : 1 ≤ n) (hn : n ≤ 64) (st : Int) (est : Nat) (V S : AV) (hV : mx V = 0) (hS : mx S = 0) (j ct : Nat) (H0 H' : List (List AV)) (h0 : H.set mid (mDc (n : Int) st est V S (j : Int) (ct : Int)) = H0) (h' : H.set mid (mDc (n : Int) 5 est V S (j : Int) (ct : Int)) ++ [fl (rml (yL n) n)] = H') (m : Nat) (hm9 : H.length = m) :
    CSpec Tryz.prog 154 [mP mid] H0 (.tup [.slm m n 0 n 1, .int .i64 1]) H' := by
  subst h0 h' hm9
  refine .mk (fun args w => Tryz.call154 args w) (Spec.intro' (fn := Tryz.f154) Tryz.func154 rfl (by kernel_rfl) (by simp) true [] (draw := drawX Tryz.prog ⟨true, _, []⟩) dOk ?_)
  simp only [argE, Nat.reduceAdd]
  repeat' (first
    | (refine gateE ?_; (first | refine b_c0 ?_ | refine b_nil ?_ | fail))
    | (refine gateO ?_; (first | (refine m07 ?_; (first | refine m15 ?_ | refine m16 ?_ | refine l_nA (by simp) (by exact rfl) (by exact rfl) (by exact rfl) ?_ | refine l_n1 (n := H.length) (by simp) (by exact rfl) (by exact rfl) (by exact rfl) ?_ | refine l_mM hb (by exact rfl) (by exact rfl) ?_ | fail)) | refine b_boxE (n := H.length) (by (conv => {lhs; whnf}); done) (by exact rfl) (by exact rfl) (by simp) (by (conv => {lhs; whnf}); done) (by (conv => {lhs; simp only [List.nil_append, List.cons_append]}); done) ?_ | refine b_mkF ?_ | refine m42 ?_ | refine b_assignI ?_ | refine b_assignN ?_ | refine m08 ?_ | refine b_callB ?_ | refine m23 ?_ | refine m01 ?_ | fail))
    | (refine gateT ?_; (first | refine b_thn ?_ | refine b_thr ?_ | refine b_the ?_ | fail))
    | (refine gateX ?_; (first | refine b_seq ?_ | refine b_region ?_ | (refine m06 ?_; (first | refine c_T ?_ | refine c_F ?_ | refine c_P ?_ ?_ | refine c_B ?_ ?_ | fail)) | refine b_ret ?_ | refine b_skip ?_ | refine b_block ?_ | refine b_exit ?_ | fail))
    | refine m43 ?_
    | refine a_consI ?_
    | refine m21 ?_
    | refine a_nil ?_
    | (refine gateK ?_; (first | refine c_call (ask_c (H ++ [[mP mid]]) mid (by simp; omega) n hn _ _ _ _ (by first | assumption | simp only [mx, mxL_fl]) (by first | assumption | simp only [mx, mxL_fl]) _ _ 5 1 176 _ (yL n) (fun N i hi => kl_c _ mid _ (md_at hb _) (by exact rfl) _ (bx_at hb) n hn (by exact rfl) i (by omega)) _ _ (set_app0 hb _) (set_app9 hb _ _) _ (by simp; rfl)) (OldOk.mdl (by simp) (mDc_mx (by first | assumption | simp only [mx, mxL_fl]) (by first | assumption | simp only [mx, mxL_fl]))) ?_ | fail))
    | refine m44 ?_
    | refine m40 ?_
    | (refine gk_nilN (by (conv => {lhs; simp only [List.nil_append, List.cons_append]}); done) ?_; first | refine ⟨by exact rfl, ?_⟩ | skip)
    | refine gk_nil ?_
    | (intro N' hN'; simp only [List.nil_append, List.cons_append] at hN'; subst hN')
    | (refine gateQ ?_; refine m05 ?_)
    | (refine gateR ?_; (first | refine m04 ?_ | refine m02 ?_ | refine m03 ?_ | refine rk_nil ?_ | fail))
    | intro _)
  all_goals first
    | (exfalso; contradiction)
    | (exfalso; omega)
    | (exfalso; simp_all; done)
    | (refine rv_kp (j := 1) (cs := fl (rml (yL n) n)) (by simp) (by exact rfl) (by rw [mxL_fl]; exact Nat.zero_le _) ?_; simp only [List.length_set]; exact Fr.tup (Frs.cons (Fr.kp (j := 0) (cs := fl (rml (yL n) n)) rfl (hg_new (by simp) rfl) (by simp [*])) (Frs.cons (Fr.old (by simp [mx])) Frs.nil)))

set_option maxHeartbeats 4000000 in
theorem signs_c (H : List (List AV)) (mid : Nat) (hb : mid < H.length) (n : Nat) (hn1 : 1 ≤ n) (hn : n ≤ 64) (st : Int) (est : Nat) (V S : AV) (hV : mx V = 0) (hS : mx S = 0) (j ct : Nat) (st1 : Int) (X : AV) (x : List Nat) (hX : ∀ c N, FL (H.set mid c ++ N) X x) (hx : x.length = n) (hN : NN X) (H0 H' : List (List AV)) (h0 : H.set mid (mDc (n : Int) st est V S (j : Int) (ct : Int)) = H0) (h' : H.set mid (mDc (n : Int) st1 est V (.sl none n (fl (sgL x))) (j : Int) (ct : Int)) ++ [fl (sgL x)] = H') (m : Nat) (hm9 : H.length = m) :
    CSpec Tryz.prog 148 [mP mid, .int .i64 st1, X] H0 (.tup [.slm m n 0 n 1, .int .i64 2]) H' := by
  subst h0 h' hm9
  refine .mk (fun args w => Tryz.call148 args w) (Spec.intro' (fn := Tryz.f148) Tryz.func148 rfl (by kernel_rfl) (by simp) true [] (draw := drawX Tryz.prog ⟨true, _, []⟩) dOk ?_)
  simp only [argE, Nat.reduceAdd]
  repeat' (first
    | (refine gateE ?_; (first | refine b_c0 ?_ | refine b_nil ?_ | fail))
    | (refine gateO ?_; (first | refine m14 ?_ | (refine m17 ?_; first | refine m19 ?_ | refine m18 ?_) | (refine m07 ?_; (first | refine m15 ?_ | refine m16 ?_ | refine l_nA (by simp) (by exact rfl) (by exact rfl) (by exact rfl) ?_ | refine l_n1 (n := H.length) (by simp) (by exact rfl) (by exact rfl) (by exact rfl) ?_ | refine l_mM hb (by exact rfl) (by exact rfl) ?_ | fail)) | refine b_nilC (by (conv => {lhs; whnf}); done) ?_ | refine b_boxE (n := H.length) (by (conv => {lhs; whnf}); done) (by exact rfl) (by exact rfl) (by simp) (by (conv => {lhs; whnf}); done) (by (conv => {lhs; simp only [List.nil_append, List.cons_append]}); done) ?_ | refine b_mkF ?_ | refine b_stM (by (conv => {lhs; whnf}); done) (by (conv => {lhs; whnf}); done) (by exact rfl) hb (by exact rfl) (by decide) (by first | exact (by exact rfl) | simp only [mx, mxL_fl]) (by exact rfl) ?_ | refine m42 ?_ | refine b_assignI ?_ | refine b_assignN ?_ | refine m08 ?_ | refine b_callB ?_ | refine m23 ?_ | refine m25 ?_ | refine m01 ?_ | fail))
    | (refine gateD ?_; (first | refine m36 ?_ | refine d_nil ?_ | fail))
    | (refine gateC ?_; (first | refine k_lt ?_ | refine k_fz ?_ | refine k_lb (by (conv => {lhs; whnf}); done) ?_ | refine k_ms ?_ | refine k_bx (by exact rfl) (by exact rfl) ?_ | refine m34 ?_ | refine m35 ?_ | refine m33 ?_ | refine k_mn ?_ | refine m56 ?_ | refine k_mnF ?_ | refine k_mnL (by exact rfl) ?_ | fail))
    | (refine gateT ?_; (first | refine b_thn ?_ | refine b_thr ?_ | refine b_the ?_ | fail))
    | (refine gateX ?_; (first | refine b_seq ?_ | refine b_region ?_ | (refine m06 ?_; (first | refine c_T ?_ | refine c_F ?_ | refine c_P ?_ ?_ | refine c_B ?_ ?_ | fail)) | refine b_ret ?_ | refine b_skip ?_ | refine b_block ?_ | refine b_exit ?_ | refine b_draw (id := 1) [] [9] [(0, .ld true), (1, .lt), (2, .mn true), (3, .mn true), (4, .lt), (5, .lt), (6, .lt), (7, .lt), (8, .lt), (9, .mn false)] (by kernel_rfl) ?_ | fail))
    | refine m43 ?_
    | refine a_consI ?_
    | refine m21 ?_
    | refine a_nil ?_
    | (refine gateK ?_; (first | refine c_call (lvec_n _ X x (hX _ _) n hx) (OldOk.app (by simp)) ?_ | refine c_call (sign_n _ X x (hX _ _) n hx hn1 hn) (OldOk.app (by simp)) ?_ | refine c_call (ask_c (H ++ [[mP mid]]) mid (by simp; omega) n hn _ _ _ _ (by first | assumption | simp only [mx, mxL_fl]) (by first | assumption | simp only [mx, mxL_fl]) _ _ st1 2 172 _ (fun i => (sgL x).getD i 0) (fun N i hi => ks_c _ mid _ (md_at hb _) (by exact rfl) _ (bx_at hb) (.sl none n (fl (sgL x))) (by exact rfl) (sgL x) (FLz _ _ _ (by simp [hx])) i (by simp; omega)) _ _ (set_app0 hb _) (set_app9 hb _ _) _ (by simp; rfl)) (OldOk.mdl (by simp) (mDc_mx (by first | assumption | simp only [mx, mxL_fl]) (by first | assumption | simp only [mx, mxL_fl]))) ?_ | fail))
    | refine m44 ?_
    | refine m40 ?_
    | (refine gk_nilN (by (conv => {lhs; simp only [List.nil_append, List.cons_append]}); done) ?_; first | refine ⟨by exact rfl, ?_⟩ | skip)
    | refine gk_nil ?_
    | (intro N' hN'; simp only [List.nil_append, List.cons_append] at hN'; subst hN')
    | (refine gateQ ?_; refine m05 ?_)
    | (refine gateR ?_; (first | refine m04 ?_ | refine m02 ?_ | refine m03 ?_ | refine rk_nil ?_ | fail))
    | intro _)
  all_goals (have hrs : rml (fun i => (sgL x).getD i 0) n = sgL x := by rw [← hx, ← sgL_len x]; exact rml_slf _)
  all_goals (try rw [hrs])
  all_goals first
    | (exfalso; contradiction)
    | (exfalso; omega)
    | (exfalso; simp_all; done)
    | (refine rv_kp (j := 1) (cs := fl (sgL x)) (by simp) (by exact rfl) (by rw [mxL_fl]; exact Nat.zero_le _) ?_; simp only [List.length_set]; exact Fr.tup (Frs.cons (Fr.kp (j := 0) (cs := fl (sgL x)) rfl (hg_new (by simp) rfl) (by simp [*])) (Frs.cons (Fr.old (by simp [mx])) Frs.nil)))

set_option maxHeartbeats 4000000 in
theorem better_t (H : List (List AV)) (mid : Nat) (hb : mid < H.length) (n : Nat) (hn1 : 1 ≤ n) (hn : n ≤ 64) (st : Int) (est : Nat) (V S : AV) (hV : mx V = 0) (hS : mx S = 0) (j ct : Nat) (X : AV) (x : List Nat) (hX : ∀ c N, FL (H.set mid c ++ N) X x) (hx : x.length = n) (hN : NN X) (t : Nat) (ht : flt est t = true) (H0 H' : List (List AV)) (h0 : H.set mid (mDc (n : Int) st est V S (j : Int) (ct : Int)) = H0) (h' : H.set mid (mDc (n : Int) st t (.sl none n (fl x)) S (j : Int) (ct : Int)) = H') :
    CSpec Tryz.prog 151 [mP mid, .flt t, X] H0 (.tup []) H' := by
  subst h0 h'
  refine .mk (fun args w => Tryz.call151 args w) (Spec.intro' (fn := Tryz.f151) Tryz.func151 rfl (by kernel_rfl) (by simp) false [] (draw := drawX Tryz.prog ⟨false, _, []⟩) dOk ?_)
  simp only [argE, Nat.reduceAdd]
  repeat' (first
    | (refine gateE ?_; (first | refine b_c0 ?_ | refine b_nil ?_ | fail))
    | (refine gateO ?_; (first | refine m14 ?_ | (refine m17 ?_; first | refine m19 ?_ | refine m18 ?_) | (refine m07 ?_; (first | refine m15 ?_ | refine m16 ?_ | refine l_nA (by simp) (by exact rfl) (by exact rfl) (by exact rfl) ?_ | refine l_n1 (n := H.length) (by simp) (by exact rfl) (by exact rfl) (by exact rfl) ?_ | refine l_mM hb (by exact rfl) (by exact rfl) ?_ | fail)) | refine b_nilC (by (conv => {lhs; whnf}); done) ?_ | refine b_stM (by (conv => {lhs; whnf}); done) (by (conv => {lhs; whnf}); done) (by exact rfl) hb (by exact rfl) (by decide) (by first | exact (by exact rfl) | simp only [mx, mxL_fl]) (by exact rfl) ?_ | (refine m00 ?_; (first | refine m47 ?_ | refine m48 ?_ | refine m49 ?_ | refine m50 ?_ | refine v_k ?_ | refine m51 ?_ | fail)) | refine b_callB ?_ | refine m25 ?_ | fail))
    | (refine gateT ?_; (first | refine b_thn ?_ | refine b_thr ?_ | refine b_the ?_ | fail))
    | (refine gateX ?_; (first | refine b_seq ?_ | refine b_region ?_ | (refine m06 ?_; (first | refine c_T ?_ | refine c_F ?_ | refine c_P ?_ ?_ | refine c_B ?_ ?_ | fail)) | refine b_ret ?_ | refine b_skip ?_ | refine b_block ?_ | refine b_exit ?_ | fail))
    | refine m21 ?_
    | refine a_nil ?_
    | (refine gateK ?_; (first | refine c_call (clone_n9 _ X x (hX _ _) n hx hn hN) (OldOk.app (by simp)) ?_ | fail))
    | (refine gateQ ?_; refine m05 ?_)
    | (refine gateR ?_; (first | refine m04 ?_ | refine m02 ?_ | refine m03 ?_ | refine rk_nil ?_ | fail))
    | intro _)
  all_goals first
    | (exfalso; simp_all; done)
    | (refine rv_old (by simp) (by simp [mx, mxL, resOne]) ?_; exact rfl)

set_option maxHeartbeats 4000000 in
theorem better_f (H : List (List AV)) (mid : Nat) (hb : mid < H.length) (n : Nat) (hn1 : 1 ≤ n) (hn : n ≤ 64) (st : Int) (est : Nat) (V S : AV) (hV : mx V = 0) (hS : mx S = 0) (j ct : Nat) (X : AV) (x : List Nat) (hX : ∀ c N, FL (H.set mid c ++ N) X x) (hx : x.length = n) (hN : NN X) (t : Nat) (ht : ¬ flt est t = true) (H0 H' : List (List AV)) (h0 : H.set mid (mDc (n : Int) st est V S (j : Int) (ct : Int)) = H0) (h' : H.set mid (mDc (n : Int) st est V S (j : Int) (ct : Int)) = H') :
    CSpec Tryz.prog 151 [mP mid, .flt t, X] H0 (.tup []) H' := by
  subst h0 h'
  refine .mk (fun args w => Tryz.call151 args w) (Spec.intro' (fn := Tryz.f151) Tryz.func151 rfl (by kernel_rfl) (by simp) false [] (draw := drawX Tryz.prog ⟨false, _, []⟩) dOk ?_)
  simp only [argE, Nat.reduceAdd]
  repeat' (first
    | (refine gateE ?_; (first | refine b_c0 ?_ | refine b_nil ?_ | fail))
    | (refine gateO ?_; (first | refine m14 ?_ | (refine m17 ?_; first | refine m19 ?_ | refine m18 ?_) | (refine m07 ?_; (first | refine m15 ?_ | refine m16 ?_ | refine l_nA (by simp) (by exact rfl) (by exact rfl) (by exact rfl) ?_ | refine l_n1 (n := H.length) (by simp) (by exact rfl) (by exact rfl) (by exact rfl) ?_ | refine l_mM hb (by exact rfl) (by exact rfl) ?_ | fail)) | refine b_nilC (by (conv => {lhs; whnf}); done) ?_ | refine b_stM (by (conv => {lhs; whnf}); done) (by (conv => {lhs; whnf}); done) (by exact rfl) hb (by exact rfl) (by decide) (by first | exact (by exact rfl) | simp only [mx, mxL_fl]) (by exact rfl) ?_ | (refine m00 ?_; (first | refine m47 ?_ | refine m48 ?_ | refine m49 ?_ | refine m50 ?_ | refine v_k ?_ | refine m51 ?_ | fail)) | refine b_callB ?_ | refine m25 ?_ | fail))
    | (refine gateT ?_; (first | refine b_thn ?_ | refine b_thr ?_ | refine b_the ?_ | fail))
    | (refine gateX ?_; (first | refine b_seq ?_ | refine b_region ?_ | (refine m06 ?_; (first | refine c_T ?_ | refine c_F ?_ | refine c_P ?_ ?_ | refine c_B ?_ ?_ | fail)) | refine b_ret ?_ | refine b_skip ?_ | refine b_block ?_ | refine b_exit ?_ | fail))
    | refine m21 ?_
    | refine a_nil ?_
    | (refine gateK ?_; (first | refine c_call (clone_n9 _ X x (hX _ _) n hx hn hN) (OldOk.app (by simp)) ?_ | fail))
    | (refine gateQ ?_; refine m05 ?_)
    | (refine gateR ?_; (first | refine m04 ?_ | refine m02 ?_ | refine m03 ?_ | refine rk_nil ?_ | fail))
    | intro _)
  all_goals first
    | (exfalso; simp_all; done)
    | (refine rv_old (by simp) (by simp [mx, mxL, resOne]) ?_; exact rfl)


theorem better_c (H : List (List AV)) (mid : Nat) (hb : mid < H.length) (n : Nat) (hn1 : 1 ≤ n) (hn : n ≤ 64) (st : Int) (est : Nat) (V S : AV) (hV : mx V = 0) (hS : mx S = 0) (j ct : Nat) (X : AV) (x : List Nat) (hX : ∀ c N, FL (H.set mid c ++ N) X x) (hx : x.length = n) (hN : NN X) (t : Nat) (H0 H' : List (List AV)) (h0 : H.set mid (mDc (n : Int) st est V S (j : Int) (ct : Int)) = H0) (h' : H.set mid (mDc (n : Int) st (if flt est t = true then t else est) (if flt est t = true then .sl none n (fl x) else V) S (j : Int) (ct : Int)) = H') : CSpec Tryz.prog 151 [mP mid, .flt t, X] H0 (.tup []) H' := by
  by_cases ht : flt est t = true
  · rw [if_pos ht, if_pos ht] at h'
    exact better_t H mid hb n hn1 hn st est V S hV hS j ct X x hX hx hN t ht H0 H' h0 h'
  · rw [if_neg ht, if_neg ht] at h'
    exact better_f H mid hb n hn1 hn st est V S hV hS j ct X x hX hx hN t ht H0 H' h0 h'

end Go.Sx
