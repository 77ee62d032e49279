/- A part of the proofs of this seat: YG. No condition is set. -/
import Derived.Test.YthjjpbcmimpjbaaGreatYA
import Derived.Test.YthjjpbcmimpjbaaGreatYF
set_option linter.unusedVariables false
set_option maxRecDepth 20000
namespace Go.Sx
open Go.Proofs
def fzL : List (Nat × List Nat) := [(6, [18]), (40, [45, 83]), (101, [21]), (108, [38]), (130, [15]), (167, [40]), (175, [12])]
def escL : List Nat := [8, 43, 53, 98, 102, 148, 150, 152, 154]
def ordL : List (Nat × Nat × List Nat × (Bool × List Nat) × List (Nat × List Nat) × List Nat × DTr) := [(39, 7, [], (false, []), [], [14], .lin [(0, .lt), (1, .ld true), (2, .lt), (3, .lt), (4, .lt), (5, .lt), (6, .lt), (7, .lt), (8, .lt), (9, .ld true), (10, .lt), (11, .lt), (12, .lt), (13, .lt), (14, .mn false)]),
  (40, 23, [], (false, []), [], [12], .lin [(0, .ld true), (1, .lt), (2, .lt), (3, .lt), (4, .ld true), (5, .lt), (6, .lt), (7, .lt), (8, .lt), (9, .lt), (10, .lt), (11, .mn true), (12, .mn false)]),
  (98, 5, [], (false, [5, 6, 7]), [], [], .lin [(0, .ld true), (2, .ld true), (1, .mn true), (3, .mn true), (4, .lt), (5, .ld true), (7, .ld true), (6, .mn true), (8, .mn true), (9, .lt), (10, .lt)]),
  (102, 10, [], (false, [2]), [], [7, 10], .lin [(0, .ld true), (1, .ld false), (2, .lt), (3, .lt), (4, .mn true), (5, .lt), (6, .lt), (7, .mn false), (8, .lt), (9, .lt), (10, .mn false)]),
  (102, 14, [], (false, [2]), [], [9], .lin [(0, .ld true), (1, .lt), (2, .mn true), (3, .mn true), (4, .lt), (5, .lt), (6, .lt), (7, .lt), (8, .lt), (9, .mn false)]),
  (102, 26, [], (false, [2]), [], [9], .lin [(0, .ld true), (1, .lt), (2, .mn true), (3, .mn true), (4, .lt), (5, .lt), (6, .lt), (7, .lt), (8, .lt), (9, .mn false)]),
  (102, 27, [], (false, [2]), [], [], .lin [(0, .lt), (1, .lt), (2, .lt), (3, .ld true), (5, .lt), (6, .ld true), (7, .lt), (8, .lt), (9, .ld true), (10, .lt), (11, .ld true), (4, .mn true), (12, .mn true), (13, .ld true), (14, .lt), (15, .ld true), (16, .lt), (17, .lt), (18, .ld true), (19, .lt), (20, .lt)]),
  (102, 32, [], (false, [2]), [], [11], .lin [(0, .ld true), (1, .lt), (2, .ld true), (3, .lt), (4, .lt), (5, .ld true), (6, .lt), (7, .lt), (8, .lt), (9, .lt), (10, .lt), (11, .mn false)]),
  (103, 1, [], (false, []), [], [], .lin [(0, .ld true), (1, .ld true), (3, .lt), (4, .ld true), (5, .lt), (6, .ld true), (7, .lt), (8, .ld true), (9, .lt), (10, .ld true), (11, .lt), (12, .ld true), (13, .lt), (2, .mn true), (14, .mn true), (15, .lt)]),
  (104, 7, [], (false, []), [], [], .lin [(0, .lt), (1, .ld true), (2, .lt), (3, .ld true), (4, .lt), (5, .lt), (6, .ld true), (7, .lt), (8, .lt), (9, .lt), (10, .lt), (11, .ld true), (12, .lt), (13, .ld true), (14, .lt), (15, .lt), (16, .lt), (17, .ld true), (18, .lt), (19, .ld true), (20, .lt), (21, .lt), (22, .lt), (23, .lt), (24, .lt)]),
  (104, 8, [], (false, []), [], [9, 11], .lin [(0, .lt), (1, .lt), (2, .lt), (3, .lt), (4, .ld true), (5, .lt), (6, .lt), (7, .ld true), (8, .lt), (9, .mn false), (10, .lt), (11, .mn false)]),
  (105, 6, [], (false, []), [], [], .lin [(0, .ld true), (2, .ld true), (1, .mn true), (3, .mn true), (4, .lt)]),
  (105, 10, [8], (false, []), [], [], .lin [(0, .ld true), (1, .ld true), (2, .lt), (3, .lt), (4, .ld true), (5, .bx), (6, .mn true), (7, .lt)]),
  (105, 19, [], (false, []), [], [7], .lin [(0, .ld true), (1, .lt), (2, .lt), (3, .ld true), (4, .lt), (5, .lt), (6, .mn true), (7, .mn false)]),
  (105, 25, [], (false, []), [], [11], .lin [(0, .ld true), (1, .lt), (5, .ld true), (6, .lt), (7, .lt), (2, .mn true), (3, .lt), (4, .ld true), (8, .mn true), (9, .lt), (10, .lt), (11, .mn false)]),
  (105, 29, [], (false, []), [], [7], .lin [(0, .ld true), (1, .lt), (2, .lt), (3, .ld true), (4, .lt), (5, .lt), (6, .mn true), (7, .mn false)]),
  (105, 38, [], (false, []), [], [7], .lin [(0, .ld true), (1, .lt), (2, .lt), (3, .ld true), (4, .lt), (5, .lt), (6, .mn true), (7, .mn false)]),
  (105, 46, [], (false, []), [], [7], .lin [(0, .ld true), (1, .lt), (2, .lt), (3, .ld true), (4, .lt), (5, .lt), (6, .mn true), (7, .mn false)]),
  (105, 48, [], (false, []), [], [11], .lin [(0, .ld true), (1, .lt), (5, .ld true), (6, .lt), (7, .lt), (2, .mn true), (3, .lt), (4, .ld true), (8, .mn true), (9, .lt), (10, .lt), (11, .mn false)]),
  (137, 6, [], (false, []), [], [4], .lin [(0, .lt), (1, .ld true), (2, .ld true), (3, .mn true), (4, .mn false)]),
  (138, 7, [], (false, []), [], [], .lin [(0, .lt), (1, .lt), (2, .lt), (3, .ld true), (4, .lt), (7, .ld true), (8, .lt), (5, .mn true), (6, .mn true), (9, .mn true), (10, .mn true), (11, .lt), (12, .lt)]),
  (139, 4, [], (false, []), [], [6], .lin [(0, .ld true), (1, .lt), (3, .ld true), (4, .lt), (2, .mn true), (5, .mn true), (6, .mn false)]),
  (142, 3, [], (false, []), [], [], .lin [(0, .lt), (1, .lt), (2, .lt), (3, .lt), (4, .lt), (5, .lt), (6, .ld true), (7, .lt), (8, .lt), (9, .ld true), (10, .lt), (11, .ld true), (12, .lt), (13, .lt), (14, .lt), (15, .lt), (16, .lt), (17, .lt), (18, .lt), (19, .lt), (20, .lt), (21, .lt), (22, .lt), (23, .lt)]),
  (145, 0, [], (false, []), [], [], .lin [(0, .ld true), (1, .lt), (2, .ld true), (3, .lt), (4, .ld true), (5, .lt), (6, .lt), (7, .ld true), (8, .lt), (9, .lt), (10, .lt), (11, .ld true), (12, .lt), (13, .lt)]),
  (145, 1, [], (false, []), [], [18], .lin [(0, .lt), (1, .lt), (2, .ld true), (3, .lt), (4, .lt), (5, .ld true), (6, .lt), (7, .ld true), (8, .lt), (9, .lt), (10, .ld true), (11, .lt), (12, .lt), (13, .lt), (14, .ld true), (15, .lt), (16, .lt), (17, .lt), (18, .mn false)]),
  (148, 1, [], (false, [3]), [], [3, 9], .lin [(0, .ld false), (1, .lt), (2, .mn true), (3, .mn false), (4, .lt), (5, .lt), (6, .lt), (7, .lt), (8, .lt), (9, .mn false)]),
  (153, 6, [], (false, []), [], [], .lin [(0, .lt), (1, .lt), (2, .lt), (3, .ld true), (4, .lt), (5, .lt), (6, .lt), (7, .ld true), (8, .ld true)]),
  (159, 1, [], (false, []), [], [14], .lin [(0, .ld true), (1, .lt), (5, .lt), (6, .ld true), (7, .lt), (2, .mn true), (3, .lt), (4, .ld true), (8, .mn true), (9, .lt), (10, .ld true), (11, .lt), (12, .lt), (13, .lt), (14, .mn false)]),
  (169, 4, [], (false, []), [], [], .lin [(0, .lt), (1, .ld true), (2, .lt), (3, .ld true), (4, .lt), (5, .lt), (6, .ld true), (7, .lt), (8, .lt), (9, .lt), (10, .lt), (11, .ld true), (12, .lt), (13, .ld true), (14, .lt), (15, .lt), (16, .ld true), (17, .lt), (18, .lt), (19, .lt), (20, .lt), (21, .lt)]),
  (169, 5, [], (false, []), [], [9, 11], .lin [(0, .lt), (1, .lt), (2, .lt), (3, .lt), (4, .ld true), (5, .lt), (6, .lt), (7, .ld true), (8, .lt), (9, .mn false), (10, .lt), (11, .mn false)]),
  (171, 3, [], (false, []), [], [], .lin [(0, .lt), (1, .ld true), (2, .lt), (3, .ld true), (4, .lt), (5, .ld true), (6, .lt), (7, .lt), (8, .ld true), (9, .lt), (10, .lt), (11, .lt), (12, .ld true), (13, .lt), (14, .lt), (15, .lt), (16, .lt), (17, .lt)])]
def frzL : List Nat := [106, 152]
def intrT (f : Nat) (args : List AV) : Option AV :=
  if Nat.beq f 61 then (match args with
    | [.fraw b] => some (.int .u64 b)
    | [.flt b] => if isNaN b then none else some (.int .u64 b)
    | _ => none)
  else if Nat.beq f 80 then (match args with
    | [.int .u64 n] => if 0 ≤ n ∧ n ≤ 18446744073709551615 then some (.fraw n.toNat) else none
    | _ => none)
  else none
def runT : RunT := ⟨fun f => escL.contains f, ordF ordL, intrT, fun f => (lk fzL f).getD [], fun f => !frzL.contains f⟩
theorem intr_ok (f : Nat) (args : List AV) (r : AV) (H : List (List AV)) (h : intrT f args = some r) : CSpec Tryz.prog f args H r H := by
  unfold intrT at h
  split at h
  · rename_i hb
    have := Nat.eq_of_beq_eq_true hb; subst this
    split at h
    · cases h; exact xbits_raw Tryz.func61 (by kernel_rfl) (by kernel_rfl) (by kernel_rfl) (by kernel_rfl) H _
    · split at h
      · cases h
      · rename_i hn; cases h; exact xbits_flt Tryz.func61 (by kernel_rfl) (by kernel_rfl) (by kernel_rfl) (by kernel_rfl) H _ hn
    · cases h
  · split at h
    · rename_i hb
      have := Nat.eq_of_beq_eq_true hb; subst this
      split at h
      · split at h
        · rename_i hn; cases h; exact xfrom Tryz.func80 (by kernel_rfl) (by kernel_rfl) (by kernel_rfl) (by kernel_rfl) H _ hn
        · cases h
      · cases h
    · cases h
theorem run_6 : runF Tryz.prog runT 100000 60 6 [] [] = some (.bool true, []) := by kernel_rfl
theorem run_6_c (H : List (List AV)) : CSpec Tryz.prog 6 [] H (.bool true) H := runF_c fol intr_ok 100000 60 6 _ _ (by kernel_rfl) (by kernel_rfl) run_6 H
end Go.Sx

set_option linter.unusedVariables false
set_option linter.unusedSimpArgs false
set_option maxRecDepth 20000
namespace Go.Sx
open Go.Proofs

theorem greatm_f (H : List (List AV)) (D : AV) (l : List Nat) (hF : FL H D l) (off rows cols ld : Int) (hI : MI l.length off rows cols ld) (h : l.length ≤ 1000 ∧ rows ≤ 20 ∧ cols ≤ 20) : CSpec Tryz.prog 7 [mt D off rows cols ld] H (.bool false) H := by
  have h9 := greatm_c H D l hF off rows cols ld hI
  rwa [decide_eq_false (by omega)] at h9
attribute [local irreducible] Ex exOps exD opX opE thenX blkX RetQ Spec CSpec Fr condK guardK guardD ckK valK pickK loadK faK callK argK gK fK rK RetV lpX prK
set_option maxHeartbeats 4000000 in
theorem lw_g (H : List (List AV)) (x : Nat × Nat) (l : List Nat) (off rows cols ld : Int) (hI : MI l.length off rows cols ld) (q : Nat × Nat) (la : List Nat) (ao ar ac al : Int) (hJ : MI la.length ao ar ac al) (q' : Nat × Nat) (p : List Int) (hpm : p.length ≤ 9223372036854775807) (hs : ¬ (l.length ≤ 1000 ∧ rows ≤ 20 ∧ cols ≤ 20 ∧ la.length ≤ 1000 ∧ ar ≤ 20 ∧ ac ≤ 20 ∧ p.length ≤ 60)) :
    Spec Tryz.prog 3 [mt (aD x l) off rows cols ld, (.agg [aD q la, .int .i64 ao, .int .i64 ar, .int .i64 ac, .int .i64 al, aI q' p])] H (.bool true) H := by
  obtain ⟨hm, ho1, ho2, hr1, hr2, hc1, hc2, hl1, hl2⟩ := id hI
  obtain ⟨hm', ho1', ho2', hr1', hr2', hc1', hc2', hl1', hl2'⟩ := id hJ
  refine (Spec.intro' (fn := Tryz.f3) Tryz.func3 rfl (by kernel_rfl) (by simp) false [] (draw := drawX Tryz.prog ⟨false, _, []⟩) dOk ?_)
  simp only [argE, Nat.reduceAdd]
  repeat' (first
    | (refine gateE ?_; (first | refine b_c0 ?_ | refine b_nil ?_ | refine m13 ?_ | refine m12 ?_ | refine m11 ?_ | (refine m10 ?_; (first | refine g_TT ?_ | refine g_FF ?_ | refine g_TF ?_ | refine g_FT ?_ | refine g_PT ?_ ?_ | refine g_PF ?_ ?_ | refine g_BT ?_ ?_ | refine g_BF ?_ ?_ | fail)) | (refine m09 ?_; (first | refine g_TT ?_ | refine g_FF ?_ | refine g_TF ?_ | refine g_FT ?_ | refine g_PT ?_ ?_ | refine g_PF ?_ ?_ | refine g_BT ?_ ?_ | refine g_BF ?_ ?_ | fail)) | refine m38 ?_ | fail))
    | (refine gateO ?_; (first | refine m14 ?_ | (refine m17 ?_; first | refine m19 ?_ | refine m18 ?_) | (refine m07 ?_; (first | refine m15 ?_ | refine m16 ?_ | fail)) | (refine b_binBn (by first | (conv => {lhs; whnf}; done) | exact (by exact rfl) | fail) (by first | (conv => {lhs; whnf}; done) | exact (by exact rfl) | fail) ?_; (first | refine v_bnF (by exact rfl) ?_ | refine v_bnT (by decide) ?_ | fail)) | refine b_lenA (by (conv => {lhs; whnf}); done) (by exact (aI_IL [] q' p).len) ?_ | refine b_lenA (by (conv => {lhs; whnf}); done) (by exact rfl) ?_ | (refine m45 ?_; (first | refine v_bbT (by exact rfl) ?_ | refine v_k ?_ | fail)) | (refine m00 ?_; (first | refine m52 ?_ | refine m53 ?_ | refine v_eP ?_ | refine m54 ?_ | refine m55 ?_ | refine v_neP ?_ | refine m47 ?_ | refine m48 ?_ | refine m49 ?_ | refine m50 ?_ | refine v_nT ?_ | refine v_nF ?_ | refine v_nP ?_ | refine v_k ?_ | refine m51 ?_ | fail)) | (refine m22 ?_; (first | refine m26 ?_ | refine m27 ?_ | fail)) | refine m42 ?_ | refine b_assignI ?_ | refine b_assignN ?_ | refine m08 ?_ | (refine m20 ?_; (first | refine m52 ?_ | refine m53 ?_ | refine v_eP ?_ | refine m54 ?_ | refine m55 ?_ | refine v_neP ?_ | refine m47 ?_ | refine m48 ?_ | refine m49 ?_ | refine m50 ?_ | refine v_nT ?_ | refine v_nF ?_ | refine v_nP ?_ | refine v_k ?_ | refine m51 ?_ | fail)) | refine b_callB ?_ | refine b_lenA (by (conv => {lhs; whnf}); done) (by first | rfl | assumption) ?_ | refine m23 ?_ | refine m25 ?_ | refine m01 ?_ | refine m24 ?_ | fail))
    | (refine gateD ?_; (first | refine m36 ?_ | refine d_nil ?_ | refine m32 ?_ | refine m31 ?_ | refine m30 ?_ | (refine m28 ?_; (first | refine dg_TT ?_ | refine dg_FF ?_ | refine dg_TF ?_ | refine dg_FT ?_ | refine dg_PT ?_ ?_ | refine dg_PF ?_ ?_ | refine dg_BT ?_ ?_ | refine dg_BF ?_ ?_ | fail)) | (refine m29 ?_; (first | refine dg_TT ?_ | refine dg_FF ?_ | refine dg_TF ?_ | refine dg_FT ?_ | refine dg_PT ?_ ?_ | refine dg_PF ?_ ?_ | refine dg_BT ?_ ?_ | refine dg_BF ?_ ?_ | fail)) | refine m37 ?_ | fail))
    | (refine gateC ?_; (first | refine k_lt ?_ | refine k_fz ?_ | refine k_lb (by (conv => {lhs; whnf}); done) ?_ | refine k_ms ?_ | refine k_bx (by exact rfl) (by exact rfl) ?_ | refine m34 ?_ | refine m35 ?_ | refine m33 ?_ | refine k_mn ?_ | refine m56 ?_ | refine k_mnF ?_ | refine k_mnL (by exact rfl) ?_ | fail))
    | (refine gateT ?_; (first | refine b_thn ?_ | refine b_thr ?_ | refine b_the ?_ | fail))
    | (refine gateX ?_; (first | refine b_seq ?_ | refine b_region ?_ | (refine m06 ?_; (first | refine c_T ?_ | refine c_F ?_ | refine c_P ?_ ?_ | refine c_B ?_ ?_ | fail)) | refine b_ret ?_ | refine b_skip ?_ | refine b_block ?_ | refine b_exit ?_ | refine b_draw (id := 29) [] [] [(0, .lt), (1, .ld true), (3, .ld true), (4, .lt), (5, .ld true), (2, .mn true), (6, .mn true), (7, .mn true), (8, .lt), (9, .mn true), (10, .lt), (11, .lt)] (by kernel_rfl) ?_ | fail))
    | refine m21 ?_
    | refine a_nil ?_
    | (refine gateK ?_; (first | refine c_call (run_6_c _) (OldOk.app (by simp)) ?_ | refine c_call (greatm_c _ (aD x l) l (aD_FL _ x l) off rows cols ld hI) (OldOk.app (by simp)) ?_ | refine c_call (greatm_c _ (aD q la) la (aD_FL _ q la) ao ar ac al hJ) (OldOk.app (by simp)) ?_ | fail))
    | (refine gateQ ?_; refine m05 ?_)
    | (refine gateR ?_; (first | refine m04 ?_ | refine m02 ?_ | refine m03 ?_ | refine rk_nil ?_ | fail))
    | intro _)
  all_goals first
    | (exfalso; contradiction)
    | (exfalso; omega)
    | (exfalso; simp_all; done)
    | (refine rv_old rfl (by simp [mx, mxL, resOne, aOf, aOf1]) ?_; exact rfl)

set_option maxHeartbeats 4000000 in
theorem lw_1 (H : List (List AV)) (x : Nat × Nat) (l : List Nat) (off rows cols ld : Int) (hI : MI l.length off rows cols ld) (q : Nat × Nat) (la : List Nat) (ao ar ac al : Int) (hJ : MI la.length ao ar ac al) (q' : Nat × Nat) (p : List Int) (hpm : p.length ≤ 9223372036854775807) (hs : (l.length ≤ 1000 ∧ rows ≤ 20 ∧ cols ≤ 20 ∧ la.length ≤ 1000 ∧ ar ≤ 20 ∧ ac ≤ 20 ∧ p.length ≤ 60)) (hbad : ¬ (GoodP la.length ao ar ac al ∧ ar = ac ∧ ar = (p.length : Int) ∧ pivP p)) :
    Spec Tryz.prog 3 [mt (aD x l) off rows cols ld, (.agg [aD q la, .int .i64 ao, .int .i64 ar, .int .i64 ac, .int .i64 al, aI q' p])] H (.bool true) H := by
  obtain ⟨hm, ho1, ho2, hr1, hr2, hc1, hc2, hl1, hl2⟩ := id hI
  obtain ⟨hm', ho1', ho2', hr1', hr2', hc1', hc2', hl1', hl2'⟩ := id hJ
  refine (Spec.intro' (fn := Tryz.f3) Tryz.func3 rfl (by kernel_rfl) (by simp) false [] (draw := drawX Tryz.prog ⟨false, _, []⟩) dOk ?_)
  simp only [argE, Nat.reduceAdd]
  repeat' (first
    | (refine gateE ?_; (first | refine b_c0 ?_ | refine b_nil ?_ | refine m13 ?_ | refine m12 ?_ | refine m11 ?_ | (refine m10 ?_; (first | refine g_TT ?_ | refine g_FF ?_ | refine g_TF ?_ | refine g_FT ?_ | refine g_PT ?_ ?_ | refine g_PF ?_ ?_ | refine g_BT ?_ ?_ | refine g_BF ?_ ?_ | fail)) | (refine m09 ?_; (first | refine g_TT ?_ | refine g_FF ?_ | refine g_TF ?_ | refine g_FT ?_ | refine g_PT ?_ ?_ | refine g_PF ?_ ?_ | refine g_BT ?_ ?_ | refine g_BF ?_ ?_ | fail)) | refine m38 ?_ | fail))
    | (refine gateO ?_; (first | refine m14 ?_ | (refine m17 ?_; first | refine m19 ?_ | refine m18 ?_) | (refine m07 ?_; (first | refine m15 ?_ | refine m16 ?_ | fail)) | (refine b_binBn (by first | (conv => {lhs; whnf}; done) | exact (by exact rfl) | fail) (by first | (conv => {lhs; whnf}; done) | exact (by exact rfl) | fail) ?_; (first | refine v_bnF (by exact rfl) ?_ | refine v_bnT (by decide) ?_ | fail)) | refine b_lenA (by (conv => {lhs; whnf}); done) (by exact (aI_IL [] q' p).len) ?_ | refine b_lenA (by (conv => {lhs; whnf}); done) (by exact rfl) ?_ | (refine m45 ?_; (first | refine v_bbT (by exact rfl) ?_ | refine v_k ?_ | fail)) | (refine m00 ?_; (first | refine m52 ?_ | refine m53 ?_ | refine v_eP ?_ | refine m54 ?_ | refine m55 ?_ | refine v_neP ?_ | refine m47 ?_ | refine m48 ?_ | refine m49 ?_ | refine m50 ?_ | refine v_nT ?_ | refine v_nF ?_ | refine v_nP ?_ | refine v_k ?_ | refine m51 ?_ | fail)) | (refine m22 ?_; (first | refine m26 ?_ | refine m27 ?_ | fail)) | refine m42 ?_ | refine b_assignI ?_ | refine b_assignN ?_ | refine m08 ?_ | (refine m20 ?_; (first | refine m52 ?_ | refine m53 ?_ | refine v_eP ?_ | refine m54 ?_ | refine m55 ?_ | refine v_neP ?_ | refine m47 ?_ | refine m48 ?_ | refine m49 ?_ | refine m50 ?_ | refine v_nT ?_ | refine v_nF ?_ | refine v_nP ?_ | refine v_k ?_ | refine m51 ?_ | fail)) | refine b_callB ?_ | refine b_lenA (by (conv => {lhs; whnf}); done) (by first | rfl | assumption) ?_ | refine m23 ?_ | refine m25 ?_ | refine m01 ?_ | refine m24 ?_ | fail))
    | (refine gateD ?_; (first | refine m36 ?_ | refine d_nil ?_ | refine m32 ?_ | refine m31 ?_ | refine m30 ?_ | (refine m28 ?_; (first | refine dg_TT ?_ | refine dg_FF ?_ | refine dg_TF ?_ | refine dg_FT ?_ | refine dg_PT ?_ ?_ | refine dg_PF ?_ ?_ | refine dg_BT ?_ ?_ | refine dg_BF ?_ ?_ | fail)) | (refine m29 ?_; (first | refine dg_TT ?_ | refine dg_FF ?_ | refine dg_TF ?_ | refine dg_FT ?_ | refine dg_PT ?_ ?_ | refine dg_PF ?_ ?_ | refine dg_BT ?_ ?_ | refine dg_BF ?_ ?_ | fail)) | refine m37 ?_ | fail))
    | (refine gateC ?_; (first | refine k_lt ?_ | refine k_fz ?_ | refine k_lb (by (conv => {lhs; whnf}); done) ?_ | refine k_ms ?_ | refine k_bx (by exact rfl) (by exact rfl) ?_ | refine m34 ?_ | refine m35 ?_ | refine m33 ?_ | refine k_mn ?_ | refine m56 ?_ | refine k_mnF ?_ | refine k_mnL (by exact rfl) ?_ | fail))
    | (refine gateT ?_; (first | refine b_thn ?_ | refine b_thr ?_ | refine b_the ?_ | fail))
    | (refine gateX ?_; (first | refine b_seq ?_ | refine b_region ?_ | (refine m06 ?_; (first | refine c_T ?_ | refine c_F ?_ | refine c_P ?_ ?_ | refine c_B ?_ ?_ | fail)) | refine b_ret ?_ | refine b_skip ?_ | refine b_block ?_ | refine b_exit ?_ | refine b_draw (id := 29) [] [] [(0, .lt), (1, .ld true), (3, .ld true), (4, .lt), (5, .ld true), (2, .mn true), (6, .mn true), (7, .mn true), (8, .lt), (9, .mn true), (10, .lt), (11, .lt)] (by kernel_rfl) ?_ | fail))
    | refine m21 ?_
    | refine a_nil ?_
    | (refine gateK ?_; (first | refine c_call (run_6_c _) (OldOk.app (by simp)) ?_ | refine c_call (greatm_f _ (aD x l) l (aD_FL _ x l) off rows cols ld hI (by omega)) (OldOk.app (by simp)) ?_ | refine c_call (greatm_f _ (aD q la) la (aD_FL _ q la) ao ar ac al hJ (by omega)) (OldOk.app (by simp)) ?_ | refine c_call (inv_e _ _ _ _ _ _ _ 1 (by decide) (fun N => by rw [List.append_assoc]; exact rck_1 _ q la ao ar ac al hJ q' p (by omega) hbad)) (OldOk.app (by simp)) ?_ | refine c_call (rc_1 _ x l off rows cols ld hI q la ao ar ac al hJ q' p (by omega) (fun h => hbad h.2)) (OldOk.app (by simp)) ?_ | refine c_call (goodref_c _ (aD q la) la.length ao ar ac al (aD_len q la) hJ) (OldOk.app (by simp)) ?_ | refine c_call (piv_c _ (aI q' p) p (aI_IL _ q' p) (by omega)) (OldOk.app (by simp)) ?_ | fail))
    | (refine gateQ ?_; refine m05 ?_)
    | (refine gateR ?_; (first | refine m04 ?_ | refine m02 ?_ | refine m03 ?_ | refine rk_nil ?_ | fail))
    | intro _)
  all_goals first
    | (exfalso; contradiction)
    | (exfalso; omega)
    | (exfalso; simp_all; done)
    | (refine rv_old rfl (by simp [mx, mxL, resOne, aOf, aOf1]) ?_; exact rfl)

set_option maxHeartbeats 4000000 in
theorem lw_3b (H : List (List AV)) (x : Nat × Nat) (l : List Nat) (off rows cols ld : Int) (hI : MI l.length off rows cols ld) (q : Nat × Nat) (la : List Nat) (ao al : Int) (n : Nat) (hJ : MI la.length ao n n al) (hGa : GoodP la.length ao n n al) (q' : Nat × Nat) (p : List Int) (hpl : p.length = n) (hpv : pivP p) (hs : (l.length ≤ 1000 ∧ rows ≤ 20 ∧ cols ≤ 20 ∧ la.length ≤ 1000 ∧ (n : Int) ≤ 20 ∧ (n : Int) ≤ 20 ∧ p.length ≤ 60)) (hn0 : n = 0) (hg : ¬ GoodP l.length off rows cols ld) :
    Spec Tryz.prog 3 [mt (aD x l) off rows cols ld, (.agg [aD q la, .int .i64 ao, .int .i64 (n : Int), .int .i64 (n : Int), .int .i64 al, aI q' p])] H (.bool true) H := by
  obtain ⟨hm, ho1, ho2, hr1, hr2, hc1, hc2, hl1, hl2⟩ := id hI
  obtain ⟨hm', ho1', ho2', hr1', hr2', hc1', hc2', hl1', hl2'⟩ := id hJ
  refine (Spec.intro' (fn := Tryz.f3) Tryz.func3 rfl (by kernel_rfl) (by simp) false [] (draw := drawX Tryz.prog ⟨false, _, []⟩) dOk ?_)
  simp only [argE, Nat.reduceAdd]
  repeat' (first
    | (refine gateE ?_; (first | refine b_c0 ?_ | refine b_nil ?_ | refine m13 ?_ | refine m12 ?_ | refine m11 ?_ | (refine m10 ?_; (first | refine g_TT ?_ | refine g_FF ?_ | refine g_TF ?_ | refine g_FT ?_ | refine g_PT ?_ ?_ | refine g_PF ?_ ?_ | refine g_BT ?_ ?_ | refine g_BF ?_ ?_ | fail)) | (refine m09 ?_; (first | refine g_TT ?_ | refine g_FF ?_ | refine g_TF ?_ | refine g_FT ?_ | refine g_PT ?_ ?_ | refine g_PF ?_ ?_ | refine g_BT ?_ ?_ | refine g_BF ?_ ?_ | fail)) | refine m38 ?_ | fail))
    | (refine gateO ?_; (first | refine m14 ?_ | (refine m17 ?_; first | refine m19 ?_ | refine m18 ?_) | (refine m07 ?_; (first | refine m15 ?_ | refine m16 ?_ | fail)) | (refine b_binBn (by first | (conv => {lhs; whnf}; done) | exact (by exact rfl) | fail) (by first | (conv => {lhs; whnf}; done) | exact (by exact rfl) | fail) ?_; (first | refine v_bnF (by exact rfl) ?_ | refine v_bnT (by decide) ?_ | fail)) | refine b_lenA (by (conv => {lhs; whnf}); done) (by exact (aI_IL [] q' p).len) ?_ | refine b_lenA (by (conv => {lhs; whnf}); done) (by exact rfl) ?_ | (refine m45 ?_; (first | refine v_bbT (by exact rfl) ?_ | refine v_k ?_ | fail)) | (refine m00 ?_; (first | refine m52 ?_ | refine m53 ?_ | refine v_eP ?_ | refine m54 ?_ | refine m55 ?_ | refine v_neP ?_ | refine m47 ?_ | refine m48 ?_ | refine m49 ?_ | refine m50 ?_ | refine v_nT ?_ | refine v_nF ?_ | refine v_nP ?_ | refine v_k ?_ | refine m51 ?_ | fail)) | (refine m22 ?_; (first | refine m26 ?_ | refine m27 ?_ | fail)) | refine m42 ?_ | refine b_assignI ?_ | refine b_assignN ?_ | refine m08 ?_ | (refine m20 ?_; (first | refine m52 ?_ | refine m53 ?_ | refine v_eP ?_ | refine m54 ?_ | refine m55 ?_ | refine v_neP ?_ | refine m47 ?_ | refine m48 ?_ | refine m49 ?_ | refine m50 ?_ | refine v_nT ?_ | refine v_nF ?_ | refine v_nP ?_ | refine v_k ?_ | refine m51 ?_ | fail)) | refine b_callB ?_ | refine b_lenA (by (conv => {lhs; whnf}); done) (by first | rfl | assumption) ?_ | refine m23 ?_ | refine m25 ?_ | refine m01 ?_ | refine m24 ?_ | fail))
    | (refine gateD ?_; (first | refine m36 ?_ | refine d_nil ?_ | refine m32 ?_ | refine m31 ?_ | refine m30 ?_ | (refine m28 ?_; (first | refine dg_TT ?_ | refine dg_FF ?_ | refine dg_TF ?_ | refine dg_FT ?_ | refine dg_PT ?_ ?_ | refine dg_PF ?_ ?_ | refine dg_BT ?_ ?_ | refine dg_BF ?_ ?_ | fail)) | (refine m29 ?_; (first | refine dg_TT ?_ | refine dg_FF ?_ | refine dg_TF ?_ | refine dg_FT ?_ | refine dg_PT ?_ ?_ | refine dg_PF ?_ ?_ | refine dg_BT ?_ ?_ | refine dg_BF ?_ ?_ | fail)) | refine m37 ?_ | fail))
    | (refine gateC ?_; (first | refine k_lt ?_ | refine k_fz ?_ | refine k_lb (by (conv => {lhs; whnf}); done) ?_ | refine k_ms ?_ | refine k_bx (by exact rfl) (by exact rfl) ?_ | refine m34 ?_ | refine m35 ?_ | refine m33 ?_ | refine k_mn ?_ | refine m56 ?_ | refine k_mnF ?_ | refine k_mnL (by exact rfl) ?_ | fail))
    | (refine gateT ?_; (first | refine b_thn ?_ | refine b_thr ?_ | refine b_the ?_ | fail))
    | (refine gateX ?_; (first | refine b_seq ?_ | refine b_region ?_ | (refine m06 ?_; (first | refine c_T ?_ | refine c_F ?_ | refine c_P ?_ ?_ | refine c_B ?_ ?_ | fail)) | refine b_ret ?_ | refine b_skip ?_ | refine b_block ?_ | refine b_exit ?_ | refine b_draw (id := 29) [] [] [(0, .lt), (1, .ld true), (3, .ld true), (4, .lt), (5, .ld true), (2, .mn true), (6, .mn true), (7, .mn true), (8, .lt), (9, .mn true), (10, .lt), (11, .lt)] (by kernel_rfl) ?_ | fail))
    | refine m21 ?_
    | refine a_nil ?_
    | (refine gateK ?_; (first | refine c_call (run_6_c _) (OldOk.app (by simp)) ?_ | refine c_call (greatm_f _ (aD x l) l (aD_FL _ x l) off rows cols ld hI (by omega)) (OldOk.app (by simp)) ?_ | refine c_call (greatm_f _ (aD q la) la (aD_FL _ q la) ao n n al hJ (by omega)) (OldOk.app (by simp)) ?_ | refine c_call (inv_e _ _ _ _ _ _ _ 3 (by decide) (fun N => by rw [List.append_assoc]; exact rck_3 _ q la ao n n al hJ q' p (by omega) ⟨hGa, rfl, by omega, hpv⟩ (by omega))) (OldOk.app (by simp)) ?_ | refine c_call (goodref_t _ (aD q la) la.length ao n n al (aD_len q la) hJ hGa) (OldOk.app (by simp)) ?_ | refine c_call (piv_t _ (aI q' p) p (aI_IL _ q' p) (by omega) hpv) (OldOk.app (by simp)) ?_ | refine c_call (of_n _ (aD q la) la (aD_FL _ q la) ao al n hJ hGa (by omega)) (OldOk.app (by simp)) ?_ | refine c_call (rc_1 _ x l off rows cols ld hI q la ao n n al hJ q' p (by omega) (fun h => hg h.1)) (OldOk.app (by simp)) ?_ | refine c_call (goodref_f _ (aD x l) l.length off rows cols ld (aD_len x l) hI hg) (OldOk.app (by simp)) ?_ | fail))
    | (refine gateQ ?_; refine m05 ?_)
    | (refine gateR ?_; (first | refine m04 ?_ | refine m02 ?_ | refine m03 ?_ | refine rk_nil ?_ | fail))
    | intro _)
  all_goals first
    | (exfalso; contradiction)
    | (exfalso; omega)
    | (exfalso; simp_all; done)
    | (refine rv_old rfl (by simp [mx, mxL, resOne, aOf, aOf1]) ?_; exact rfl)

set_option maxHeartbeats 4000000 in
theorem lw_3s (H : List (List AV)) (x : Nat × Nat) (l : List Nat) (off rows cols ld : Int) (hI : MI l.length off rows cols ld) (q : Nat × Nat) (la : List Nat) (ao al : Int) (n : Nat) (hJ : MI la.length ao n n al) (hGa : GoodP la.length ao n n al) (q' : Nat × Nat) (p : List Int) (hpl : p.length = n) (hpv : pivP p) (hs : (l.length ≤ 1000 ∧ rows ≤ 20 ∧ cols ≤ 20 ∧ la.length ≤ 1000 ∧ (n : Int) ≤ 20 ∧ (n : Int) ≤ 20 ∧ p.length ≤ 60)) (hn0 : n = 0) (hg : GoodP l.length off rows cols ld) (hne : ¬ (rows = (n : Int) ∧ cols = (n : Int))) :
    Spec Tryz.prog 3 [mt (aD x l) off rows cols ld, (.agg [aD q la, .int .i64 ao, .int .i64 (n : Int), .int .i64 (n : Int), .int .i64 al, aI q' p])] H (.bool true) H := by
  obtain ⟨hm, ho1, ho2, hr1, hr2, hc1, hc2, hl1, hl2⟩ := id hI
  obtain ⟨hm', ho1', ho2', hr1', hr2', hc1', hc2', hl1', hl2'⟩ := id hJ
  refine (Spec.intro' (fn := Tryz.f3) Tryz.func3 rfl (by kernel_rfl) (by simp) false [] (draw := drawX Tryz.prog ⟨false, _, []⟩) dOk ?_)
  simp only [argE, Nat.reduceAdd]
  repeat' (first
    | (refine gateE ?_; (first | refine b_c0 ?_ | refine b_nil ?_ | refine m13 ?_ | refine m12 ?_ | refine m11 ?_ | (refine m10 ?_; (first | refine g_TT ?_ | refine g_FF ?_ | refine g_TF ?_ | refine g_FT ?_ | refine g_PT ?_ ?_ | refine g_PF ?_ ?_ | refine g_BT ?_ ?_ | refine g_BF ?_ ?_ | fail)) | (refine m09 ?_; (first | refine g_TT ?_ | refine g_FF ?_ | refine g_TF ?_ | refine g_FT ?_ | refine g_PT ?_ ?_ | refine g_PF ?_ ?_ | refine g_BT ?_ ?_ | refine g_BF ?_ ?_ | fail)) | refine m38 ?_ | fail))
    | (refine gateO ?_; (first | refine m14 ?_ | (refine m17 ?_; first | refine m19 ?_ | refine m18 ?_) | (refine m07 ?_; (first | refine m15 ?_ | refine m16 ?_ | fail)) | (refine b_binBn (by first | (conv => {lhs; whnf}; done) | exact (by exact rfl) | fail) (by first | (conv => {lhs; whnf}; done) | exact (by exact rfl) | fail) ?_; (first | refine v_bnF (by exact rfl) ?_ | refine v_bnT (by decide) ?_ | fail)) | refine b_lenA (by (conv => {lhs; whnf}); done) (by exact (aI_IL [] q' p).len) ?_ | refine b_lenA (by (conv => {lhs; whnf}); done) (by exact rfl) ?_ | (refine m45 ?_; (first | refine v_bbT (by exact rfl) ?_ | refine v_k ?_ | fail)) | (refine m00 ?_; (first | refine m52 ?_ | refine m53 ?_ | refine v_eP ?_ | refine m54 ?_ | refine m55 ?_ | refine v_neP ?_ | refine m47 ?_ | refine m48 ?_ | refine m49 ?_ | refine m50 ?_ | refine v_nT ?_ | refine v_nF ?_ | refine v_nP ?_ | refine v_k ?_ | refine m51 ?_ | fail)) | (refine m22 ?_; (first | refine m26 ?_ | refine m27 ?_ | fail)) | refine m42 ?_ | refine b_assignI ?_ | refine b_assignN ?_ | refine m08 ?_ | (refine m20 ?_; (first | refine m52 ?_ | refine m53 ?_ | refine v_eP ?_ | refine m54 ?_ | refine m55 ?_ | refine v_neP ?_ | refine m47 ?_ | refine m48 ?_ | refine m49 ?_ | refine m50 ?_ | refine v_nT ?_ | refine v_nF ?_ | refine v_nP ?_ | refine v_k ?_ | refine m51 ?_ | fail)) | refine b_callB ?_ | refine b_lenA (by (conv => {lhs; whnf}); done) (by first | rfl | assumption) ?_ | refine m23 ?_ | refine m25 ?_ | refine m01 ?_ | refine m24 ?_ | fail))
    | (refine gateD ?_; (first | refine m36 ?_ | refine d_nil ?_ | refine m32 ?_ | refine m31 ?_ | refine m30 ?_ | (refine m28 ?_; (first | refine dg_TT ?_ | refine dg_FF ?_ | refine dg_TF ?_ | refine dg_FT ?_ | refine dg_PT ?_ ?_ | refine dg_PF ?_ ?_ | refine dg_BT ?_ ?_ | refine dg_BF ?_ ?_ | fail)) | (refine m29 ?_; (first | refine dg_TT ?_ | refine dg_FF ?_ | refine dg_TF ?_ | refine dg_FT ?_ | refine dg_PT ?_ ?_ | refine dg_PF ?_ ?_ | refine dg_BT ?_ ?_ | refine dg_BF ?_ ?_ | fail)) | refine m37 ?_ | fail))
    | (refine gateC ?_; (first | refine k_lt ?_ | refine k_fz ?_ | refine k_lb (by (conv => {lhs; whnf}); done) ?_ | refine k_ms ?_ | refine k_bx (by exact rfl) (by exact rfl) ?_ | refine m34 ?_ | refine m35 ?_ | refine m33 ?_ | refine k_mn ?_ | refine m56 ?_ | refine k_mnF ?_ | refine k_mnL (by exact rfl) ?_ | fail))
    | (refine gateT ?_; (first | refine b_thn ?_ | refine b_thr ?_ | refine b_the ?_ | fail))
    | (refine gateX ?_; (first | refine b_seq ?_ | refine b_region ?_ | (refine m06 ?_; (first | refine c_T ?_ | refine c_F ?_ | refine c_P ?_ ?_ | refine c_B ?_ ?_ | fail)) | refine b_ret ?_ | refine b_skip ?_ | refine b_block ?_ | refine b_exit ?_ | refine b_draw (id := 29) [] [] [(0, .lt), (1, .ld true), (3, .ld true), (4, .lt), (5, .ld true), (2, .mn true), (6, .mn true), (7, .mn true), (8, .lt), (9, .mn true), (10, .lt), (11, .lt)] (by kernel_rfl) ?_ | fail))
    | refine m21 ?_
    | refine a_nil ?_
    | (refine gateK ?_; (first | refine c_call (run_6_c _) (OldOk.app (by simp)) ?_ | refine c_call (greatm_f _ (aD x l) l (aD_FL _ x l) off rows cols ld hI (by omega)) (OldOk.app (by simp)) ?_ | refine c_call (greatm_f _ (aD q la) la (aD_FL _ q la) ao n n al hJ (by omega)) (OldOk.app (by simp)) ?_ | refine c_call (inv_e _ _ _ _ _ _ _ 3 (by decide) (fun N => by rw [List.append_assoc]; exact rck_3 _ q la ao n n al hJ q' p (by omega) ⟨hGa, rfl, by omega, hpv⟩ (by omega))) (OldOk.app (by simp)) ?_ | refine c_call (goodref_t _ (aD q la) la.length ao n n al (aD_len q la) hJ hGa) (OldOk.app (by simp)) ?_ | refine c_call (piv_t _ (aI q' p) p (aI_IL _ q' p) (by omega) hpv) (OldOk.app (by simp)) ?_ | refine c_call (of_n _ (aD q la) la (aD_FL _ q la) ao al n hJ hGa (by omega)) (OldOk.app (by simp)) ?_ | refine c_call (rc_3 _ x l off rows cols ld hI q la ao n n al hJ q' p (by omega) hg ⟨hGa, rfl, by omega, hpv⟩ hne) (OldOk.app (by simp)) ?_ | refine c_call (goodref_t _ (aD x l) l.length off rows cols ld (aD_len x l) hI hg) (OldOk.app (by simp)) ?_ | fail))
    | (refine gateQ ?_; refine m05 ?_)
    | (refine gateR ?_; (first | refine m04 ?_ | refine m02 ?_ | refine m03 ?_ | refine rk_nil ?_ | fail))
    | intro _)
  all_goals first
    | (exfalso; contradiction)
    | (exfalso; omega)
    | (exfalso; simp_all; done)
    | (refine rv_old rfl (by simp [mx, mxL, resOne, aOf, aOf1]) ?_; exact rfl)

set_option maxHeartbeats 4000000 in
theorem lw_3k (H : List (List AV)) (q : Nat × Nat) (la : List Nat) (ao al : Int) (n : Nat) (hJ : MI la.length ao n n al) (hGa : GoodP la.length ao n n al) (q' : Nat × Nat) (p : List Int) (hpl : p.length = n) (hpv : pivP p) (x : Nat × Nat) (l : List Nat) (off ld : Int) (hI : MI l.length off n n ld) (hG : GoodP l.length off n n ld) (hs : (l.length ≤ 1000 ∧ (n : Int) ≤ 20 ∧ (n : Int) ≤ 20 ∧ la.length ≤ 1000 ∧ (n : Int) ≤ 20 ∧ (n : Int) ≤ 20 ∧ p.length ≤ 60)) (hn0 : n = 0) :
    Spec Tryz.prog 3 [mt (aD x l) off (n : Int) (n : Int) ld, (.agg [aD q la, .int .i64 ao, .int .i64 (n : Int), .int .i64 (n : Int), .int .i64 al, aI q' p])] H (.bool true) H := by
  obtain ⟨hm, ho1, ho2, hr1, hr2, hc1, hc2, hl1, hl2⟩ := id hI
  obtain ⟨hm', ho1', ho2', hr1', hr2', hc1', hc2', hl1', hl2'⟩ := id hJ
  refine (Spec.intro' (fn := Tryz.f3) Tryz.func3 rfl (by kernel_rfl) (by simp) false [] (draw := drawX Tryz.prog ⟨false, _, []⟩) dOk ?_)
  simp only [argE, Nat.reduceAdd]
  repeat' (first
    | (refine gateE ?_; (first | refine b_c0 ?_ | refine b_nil ?_ | refine m13 ?_ | refine m12 ?_ | refine m11 ?_ | (refine m10 ?_; (first | refine g_TT ?_ | refine g_FF ?_ | refine g_TF ?_ | refine g_FT ?_ | refine g_PT ?_ ?_ | refine g_PF ?_ ?_ | refine g_BT ?_ ?_ | refine g_BF ?_ ?_ | fail)) | (refine m09 ?_; (first | refine g_TT ?_ | refine g_FF ?_ | refine g_TF ?_ | refine g_FT ?_ | refine g_PT ?_ ?_ | refine g_PF ?_ ?_ | refine g_BT ?_ ?_ | refine g_BF ?_ ?_ | fail)) | refine m38 ?_ | fail))
    | (refine gateO ?_; (first | refine m14 ?_ | (refine m17 ?_; first | refine m19 ?_ | refine m18 ?_) | (refine m07 ?_; (first | refine m15 ?_ | refine m16 ?_ | fail)) | (refine b_binBn (by first | (conv => {lhs; whnf}; done) | exact (by exact rfl) | fail) (by first | (conv => {lhs; whnf}; done) | exact (by exact rfl) | fail) ?_; (first | refine v_bnF (by exact rfl) ?_ | refine v_bnT (by decide) ?_ | fail)) | refine b_lenA (by (conv => {lhs; whnf}); done) (by exact (aI_IL [] q' p).len) ?_ | refine b_lenA (by (conv => {lhs; whnf}); done) (by exact rfl) ?_ | (refine m45 ?_; (first | refine v_bbT (by exact rfl) ?_ | refine v_k ?_ | fail)) | (refine m00 ?_; (first | refine m52 ?_ | refine m53 ?_ | refine v_eP ?_ | refine m54 ?_ | refine m55 ?_ | refine v_neP ?_ | refine m47 ?_ | refine m48 ?_ | refine m49 ?_ | refine m50 ?_ | refine v_nT ?_ | refine v_nF ?_ | refine v_nP ?_ | refine v_k ?_ | refine m51 ?_ | fail)) | (refine m22 ?_; (first | refine m26 ?_ | refine m27 ?_ | fail)) | refine m42 ?_ | refine b_assignI ?_ | refine b_assignN ?_ | refine m08 ?_ | (refine m20 ?_; (first | refine m52 ?_ | refine m53 ?_ | refine v_eP ?_ | refine m54 ?_ | refine m55 ?_ | refine v_neP ?_ | refine m47 ?_ | refine m48 ?_ | refine m49 ?_ | refine m50 ?_ | refine v_nT ?_ | refine v_nF ?_ | refine v_nP ?_ | refine v_k ?_ | refine m51 ?_ | fail)) | refine b_callB ?_ | refine b_lenA (by (conv => {lhs; whnf}); done) (by first | rfl | assumption) ?_ | refine m23 ?_ | refine m25 ?_ | refine m01 ?_ | refine m24 ?_ | fail))
    | (refine gateD ?_; (first | refine m36 ?_ | refine d_nil ?_ | refine m32 ?_ | refine m31 ?_ | refine m30 ?_ | (refine m28 ?_; (first | refine dg_TT ?_ | refine dg_FF ?_ | refine dg_TF ?_ | refine dg_FT ?_ | refine dg_PT ?_ ?_ | refine dg_PF ?_ ?_ | refine dg_BT ?_ ?_ | refine dg_BF ?_ ?_ | fail)) | (refine m29 ?_; (first | refine dg_TT ?_ | refine dg_FF ?_ | refine dg_TF ?_ | refine dg_FT ?_ | refine dg_PT ?_ ?_ | refine dg_PF ?_ ?_ | refine dg_BT ?_ ?_ | refine dg_BF ?_ ?_ | fail)) | refine m37 ?_ | fail))
    | (refine gateC ?_; (first | refine k_lt ?_ | refine k_fz ?_ | refine k_lb (by (conv => {lhs; whnf}); done) ?_ | refine k_ms ?_ | refine k_bx (by exact rfl) (by exact rfl) ?_ | refine m34 ?_ | refine m35 ?_ | refine m33 ?_ | refine k_mn ?_ | refine m56 ?_ | refine k_mnF ?_ | refine k_mnL (by exact rfl) ?_ | fail))
    | (refine gateT ?_; (first | refine b_thn ?_ | refine b_thr ?_ | refine b_the ?_ | fail))
    | (refine gateX ?_; (first | refine b_seq ?_ | refine b_region ?_ | (refine m06 ?_; (first | refine c_T ?_ | refine c_F ?_ | refine c_P ?_ ?_ | refine c_B ?_ ?_ | fail)) | refine b_ret ?_ | refine b_skip ?_ | refine b_block ?_ | refine b_exit ?_ | refine b_draw (id := 29) [] [] [(0, .lt), (1, .ld true), (3, .ld true), (4, .lt), (5, .ld true), (2, .mn true), (6, .mn true), (7, .mn true), (8, .lt), (9, .mn true), (10, .lt), (11, .lt)] (by kernel_rfl) ?_ | fail))
    | refine m21 ?_
    | refine a_nil ?_
    | (refine gateK ?_; (first | refine c_call (run_6_c _) (OldOk.app (by simp)) ?_ | refine c_call (greatm_f _ (aD x l) l (aD_FL _ x l) off n n ld hI (by omega)) (OldOk.app (by simp)) ?_ | refine c_call (greatm_f _ (aD q la) la (aD_FL _ q la) ao n n al hJ (by omega)) (OldOk.app (by simp)) ?_ | refine c_call (inv_e _ _ _ _ _ _ _ 3 (by decide) (fun N => by rw [List.append_assoc]; exact rck_3 _ q la ao n n al hJ q' p (by omega) ⟨hGa, rfl, by omega, hpv⟩ (by omega))) (OldOk.app (by simp)) ?_ | refine c_call (goodref_t _ (aD q la) la.length ao n n al (aD_len q la) hJ hGa) (OldOk.app (by simp)) ?_ | refine c_call (piv_t _ (aI q' p) p (aI_IL _ q' p) (by omega) hpv) (OldOk.app (by simp)) ?_ | refine c_call (of_n _ (aD q la) la (aD_FL _ q la) ao al n hJ hGa (by omega)) (OldOk.app (by simp)) ?_ | refine c_call (goodref_t _ (aD x l) l.length off n n ld (aD_len x l) hI hG) (OldOk.app (by simp)) ?_ | refine c_call (of_n _ (aD x l) l (aD_FL _ x l) off ld n hI hG (by omega)) (OldOk.app (by simp)) ?_ | refine c_call (rc_e _ x l off n n ld hI q la ao n n al hJ q' p (by omega) hG ⟨hGa, rfl, by omega, hpv⟩ ⟨rfl, rfl⟩ 3 (by decide) (fun N => rck_3 _ q la ao n n al hJ q' p (by omega) ⟨hGa, rfl, by omega, hpv⟩ (by omega))) (OldOk.app (by simp)) ?_ | fail))
    | (refine gateQ ?_; refine m05 ?_)
    | (refine gateR ?_; (first | refine m04 ?_ | refine m02 ?_ | refine m03 ?_ | refine rk_nil ?_ | fail))
    | intro _)
  all_goals first
    | (exfalso; contradiction)
    | (exfalso; omega)
    | (exfalso; simp_all; done)
    | (refine rv_old rfl (by simp [mx, mxL, resOne, aOf, aOf1]) ?_; exact rfl)

set_option maxHeartbeats 4000000 in
theorem lw_4b (H : List (List AV)) (x : Nat × Nat) (l : List Nat) (off rows cols ld : Int) (hI : MI l.length off rows cols ld) (q : Nat × Nat) (la : List Nat) (ao al : Int) (n : Nat) (hJ : MI la.length ao n n al) (hGa : GoodP la.length ao n n al) (q' : Nat × Nat) (p : List Int) (hpl : p.length = n) (hpv : pivP p) (hs : (l.length ≤ 1000 ∧ rows ≤ 20 ∧ cols ≤ 20 ∧ la.length ≤ 1000 ∧ (n : Int) ≤ 20 ∧ (n : Int) ≤ 20 ∧ p.length ≤ 60)) (hn1 : 1 ≤ n) (hn : n ≤ 64) (z : Nat) (hzn : z < n) (hz : ∀ k, k < z → feq ((mel la ao al) k k) 0 = false) (hz1 : feq ((mel la ao al) z z) 0 = true) (hg : ¬ GoodP l.length off rows cols ld) :
    Spec Tryz.prog 3 [mt (aD x l) off rows cols ld, (.agg [aD q la, .int .i64 ao, .int .i64 (n : Int), .int .i64 (n : Int), .int .i64 al, aI q' p])] H (.bool true) H := by
  obtain ⟨hm, ho1, ho2, hr1, hr2, hc1, hc2, hl1, hl2⟩ := id hI
  obtain ⟨hm', ho1', ho2', hr1', hr2', hc1', hc2', hl1', hl2'⟩ := id hJ
  refine (Spec.intro' (fn := Tryz.f3) Tryz.func3 rfl (by kernel_rfl) (by simp) false [] (draw := drawX Tryz.prog ⟨false, _, []⟩) dOk ?_)
  simp only [argE, Nat.reduceAdd]
  repeat' (first
    | (refine gateE ?_; (first | refine b_c0 ?_ | refine b_nil ?_ | refine m13 ?_ | refine m12 ?_ | refine m11 ?_ | (refine m10 ?_; (first | refine g_TT ?_ | refine g_FF ?_ | refine g_TF ?_ | refine g_FT ?_ | refine g_PT ?_ ?_ | refine g_PF ?_ ?_ | refine g_BT ?_ ?_ | refine g_BF ?_ ?_ | fail)) | (refine m09 ?_; (first | refine g_TT ?_ | refine g_FF ?_ | refine g_TF ?_ | refine g_FT ?_ | refine g_PT ?_ ?_ | refine g_PF ?_ ?_ | refine g_BT ?_ ?_ | refine g_BF ?_ ?_ | fail)) | refine m38 ?_ | fail))
    | (refine gateO ?_; (first | refine m14 ?_ | (refine m17 ?_; first | refine m19 ?_ | refine m18 ?_) | (refine m07 ?_; (first | refine m15 ?_ | refine m16 ?_ | fail)) | (refine b_binBn (by first | (conv => {lhs; whnf}; done) | exact (by exact rfl) | fail) (by first | (conv => {lhs; whnf}; done) | exact (by exact rfl) | fail) ?_; (first | refine v_bnF (by exact rfl) ?_ | refine v_bnT (by decide) ?_ | fail)) | refine b_lenA (by (conv => {lhs; whnf}); done) (by exact (aI_IL [] q' p).len) ?_ | refine b_lenA (by (conv => {lhs; whnf}); done) (by exact rfl) ?_ | (refine m45 ?_; (first | refine v_bbT (by exact rfl) ?_ | refine v_k ?_ | fail)) | (refine m00 ?_; (first | refine m52 ?_ | refine m53 ?_ | refine v_eP ?_ | refine m54 ?_ | refine m55 ?_ | refine v_neP ?_ | refine m47 ?_ | refine m48 ?_ | refine m49 ?_ | refine m50 ?_ | refine v_nT ?_ | refine v_nF ?_ | refine v_nP ?_ | refine v_k ?_ | refine m51 ?_ | fail)) | (refine m22 ?_; (first | refine m26 ?_ | refine m27 ?_ | fail)) | refine m42 ?_ | refine b_assignI ?_ | refine b_assignN ?_ | refine m08 ?_ | (refine m20 ?_; (first | refine m52 ?_ | refine m53 ?_ | refine v_eP ?_ | refine m54 ?_ | refine m55 ?_ | refine v_neP ?_ | refine m47 ?_ | refine m48 ?_ | refine m49 ?_ | refine m50 ?_ | refine v_nT ?_ | refine v_nF ?_ | refine v_nP ?_ | refine v_k ?_ | refine m51 ?_ | fail)) | refine b_callB ?_ | refine b_lenA (by (conv => {lhs; whnf}); done) (by first | rfl | assumption) ?_ | refine m23 ?_ | refine m25 ?_ | refine m01 ?_ | refine m24 ?_ | fail))
    | (refine gateD ?_; (first | refine m36 ?_ | refine d_nil ?_ | refine m32 ?_ | refine m31 ?_ | refine m30 ?_ | (refine m28 ?_; (first | refine dg_TT ?_ | refine dg_FF ?_ | refine dg_TF ?_ | refine dg_FT ?_ | refine dg_PT ?_ ?_ | refine dg_PF ?_ ?_ | refine dg_BT ?_ ?_ | refine dg_BF ?_ ?_ | fail)) | (refine m29 ?_; (first | refine dg_TT ?_ | refine dg_FF ?_ | refine dg_TF ?_ | refine dg_FT ?_ | refine dg_PT ?_ ?_ | refine dg_PF ?_ ?_ | refine dg_BT ?_ ?_ | refine dg_BF ?_ ?_ | fail)) | refine m37 ?_ | fail))
    | (refine gateC ?_; (first | refine k_lt ?_ | refine k_fz ?_ | refine k_lb (by (conv => {lhs; whnf}); done) ?_ | refine k_ms ?_ | refine k_bx (by exact rfl) (by exact rfl) ?_ | refine m34 ?_ | refine m35 ?_ | refine m33 ?_ | refine k_mn ?_ | refine m56 ?_ | refine k_mnF ?_ | refine k_mnL (by exact rfl) ?_ | fail))
    | (refine gateT ?_; (first | refine b_thn ?_ | refine b_thr ?_ | refine b_the ?_ | fail))
    | (refine gateX ?_; (first | refine b_seq ?_ | refine b_region ?_ | (refine m06 ?_; (first | refine c_T ?_ | refine c_F ?_ | refine c_P ?_ ?_ | refine c_B ?_ ?_ | fail)) | refine b_ret ?_ | refine b_skip ?_ | refine b_block ?_ | refine b_exit ?_ | refine b_draw (id := 29) [] [] [(0, .lt), (1, .ld true), (3, .ld true), (4, .lt), (5, .ld true), (2, .mn true), (6, .mn true), (7, .mn true), (8, .lt), (9, .mn true), (10, .lt), (11, .lt)] (by kernel_rfl) ?_ | fail))
    | refine m21 ?_
    | refine a_nil ?_
    | (refine gateK ?_; (first | refine c_call (run_6_c _) (OldOk.app (by simp)) ?_ | refine c_call (greatm_f _ (aD x l) l (aD_FL _ x l) off rows cols ld hI (by omega)) (OldOk.app (by simp)) ?_ | refine c_call (greatm_f _ (aD q la) la (aD_FL _ q la) ao n n al hJ (by omega)) (OldOk.app (by simp)) ?_ | refine c_call (inv_e _ _ _ _ _ _ _ 4 (by decide) (fun N => by rw [List.append_assoc]; exact rck_4 _ q la ao al n hJ hGa q' p hpl hpv hn1 hn z hzn hz hz1)) (OldOk.app (by simp)) ?_ | refine c_call (goodref_t _ (aD q la) la.length ao n n al (aD_len q la) hJ hGa) (OldOk.app (by simp)) ?_ | refine c_call (piv_t _ (aI q' p) p (aI_IL _ q' p) (by omega) hpv) (OldOk.app (by simp)) ?_ | refine c_call (of_n _ (aD q la) la (aD_FL _ q la) ao al n hJ hGa (by omega)) (OldOk.app (by simp)) ?_ | refine c_call (zero_t _ (.sl none (n * n) (fl (rmA (mel la ao al) n n))) (mel la ao al) n (FLz _ _ _ (by simp)) hn z hzn hz hz1) (OldOk.app (by simp)) ?_ | refine c_call (rc_1 _ x l off rows cols ld hI q la ao n n al hJ q' p (by omega) (fun h => hg h.1)) (OldOk.app (by simp)) ?_ | refine c_call (goodref_f _ (aD x l) l.length off rows cols ld (aD_len x l) hI hg) (OldOk.app (by simp)) ?_ | fail))
    | (refine gateQ ?_; refine m05 ?_)
    | (refine gateR ?_; (first | refine m04 ?_ | refine m02 ?_ | refine m03 ?_ | refine rk_nil ?_ | fail))
    | intro _)
  all_goals first
    | (exfalso; contradiction)
    | (exfalso; omega)
    | (exfalso; simp_all; done)
    | (refine rv_old rfl (by simp [mx, mxL, resOne, aOf, aOf1]) ?_; exact rfl)

set_option maxHeartbeats 4000000 in
theorem lw_4s (H : List (List AV)) (x : Nat × Nat) (l : List Nat) (off rows cols ld : Int) (hI : MI l.length off rows cols ld) (q : Nat × Nat) (la : List Nat) (ao al : Int) (n : Nat) (hJ : MI la.length ao n n al) (hGa : GoodP la.length ao n n al) (q' : Nat × Nat) (p : List Int) (hpl : p.length = n) (hpv : pivP p) (hs : (l.length ≤ 1000 ∧ rows ≤ 20 ∧ cols ≤ 20 ∧ la.length ≤ 1000 ∧ (n : Int) ≤ 20 ∧ (n : Int) ≤ 20 ∧ p.length ≤ 60)) (hn1 : 1 ≤ n) (hn : n ≤ 64) (z : Nat) (hzn : z < n) (hz : ∀ k, k < z → feq ((mel la ao al) k k) 0 = false) (hz1 : feq ((mel la ao al) z z) 0 = true) (hg : GoodP l.length off rows cols ld) (hne : ¬ (rows = (n : Int) ∧ cols = (n : Int))) :
    Spec Tryz.prog 3 [mt (aD x l) off rows cols ld, (.agg [aD q la, .int .i64 ao, .int .i64 (n : Int), .int .i64 (n : Int), .int .i64 al, aI q' p])] H (.bool true) H := by
  obtain ⟨hm, ho1, ho2, hr1, hr2, hc1, hc2, hl1, hl2⟩ := id hI
  obtain ⟨hm', ho1', ho2', hr1', hr2', hc1', hc2', hl1', hl2'⟩ := id hJ
  refine (Spec.intro' (fn := Tryz.f3) Tryz.func3 rfl (by kernel_rfl) (by simp) false [] (draw := drawX Tryz.prog ⟨false, _, []⟩) dOk ?_)
  simp only [argE, Nat.reduceAdd]
  repeat' (first
    | (refine gateE ?_; (first | refine b_c0 ?_ | refine b_nil ?_ | refine m13 ?_ | refine m12 ?_ | refine m11 ?_ | (refine m10 ?_; (first | refine g_TT ?_ | refine g_FF ?_ | refine g_TF ?_ | refine g_FT ?_ | refine g_PT ?_ ?_ | refine g_PF ?_ ?_ | refine g_BT ?_ ?_ | refine g_BF ?_ ?_ | fail)) | (refine m09 ?_; (first | refine g_TT ?_ | refine g_FF ?_ | refine g_TF ?_ | refine g_FT ?_ | refine g_PT ?_ ?_ | refine g_PF ?_ ?_ | refine g_BT ?_ ?_ | refine g_BF ?_ ?_ | fail)) | refine m38 ?_ | fail))
    | (refine gateO ?_; (first | refine m14 ?_ | (refine m17 ?_; first | refine m19 ?_ | refine m18 ?_) | (refine m07 ?_; (first | refine m15 ?_ | refine m16 ?_ | fail)) | (refine b_binBn (by first | (conv => {lhs; whnf}; done) | exact (by exact rfl) | fail) (by first | (conv => {lhs; whnf}; done) | exact (by exact rfl) | fail) ?_; (first | refine v_bnF (by exact rfl) ?_ | refine v_bnT (by decide) ?_ | fail)) | refine b_lenA (by (conv => {lhs; whnf}); done) (by exact (aI_IL [] q' p).len) ?_ | refine b_lenA (by (conv => {lhs; whnf}); done) (by exact rfl) ?_ | (refine m45 ?_; (first | refine v_bbT (by exact rfl) ?_ | refine v_k ?_ | fail)) | (refine m00 ?_; (first | refine m52 ?_ | refine m53 ?_ | refine v_eP ?_ | refine m54 ?_ | refine m55 ?_ | refine v_neP ?_ | refine m47 ?_ | refine m48 ?_ | refine m49 ?_ | refine m50 ?_ | refine v_nT ?_ | refine v_nF ?_ | refine v_nP ?_ | refine v_k ?_ | refine m51 ?_ | fail)) | (refine m22 ?_; (first | refine m26 ?_ | refine m27 ?_ | fail)) | refine m42 ?_ | refine b_assignI ?_ | refine b_assignN ?_ | refine m08 ?_ | (refine m20 ?_; (first | refine m52 ?_ | refine m53 ?_ | refine v_eP ?_ | refine m54 ?_ | refine m55 ?_ | refine v_neP ?_ | refine m47 ?_ | refine m48 ?_ | refine m49 ?_ | refine m50 ?_ | refine v_nT ?_ | refine v_nF ?_ | refine v_nP ?_ | refine v_k ?_ | refine m51 ?_ | fail)) | refine b_callB ?_ | refine b_lenA (by (conv => {lhs; whnf}); done) (by first | rfl | assumption) ?_ | refine m23 ?_ | refine m25 ?_ | refine m01 ?_ | refine m24 ?_ | fail))
    | (refine gateD ?_; (first | refine m36 ?_ | refine d_nil ?_ | refine m32 ?_ | refine m31 ?_ | refine m30 ?_ | (refine m28 ?_; (first | refine dg_TT ?_ | refine dg_FF ?_ | refine dg_TF ?_ | refine dg_FT ?_ | refine dg_PT ?_ ?_ | refine dg_PF ?_ ?_ | refine dg_BT ?_ ?_ | refine dg_BF ?_ ?_ | fail)) | (refine m29 ?_; (first | refine dg_TT ?_ | refine dg_FF ?_ | refine dg_TF ?_ | refine dg_FT ?_ | refine dg_PT ?_ ?_ | refine dg_PF ?_ ?_ | refine dg_BT ?_ ?_ | refine dg_BF ?_ ?_ | fail)) | refine m37 ?_ | fail))
    | (refine gateC ?_; (first | refine k_lt ?_ | refine k_fz ?_ | refine k_lb (by (conv => {lhs; whnf}); done) ?_ | refine k_ms ?_ | refine k_bx (by exact rfl) (by exact rfl) ?_ | refine m34 ?_ | refine m35 ?_ | refine m33 ?_ | refine k_mn ?_ | refine m56 ?_ | refine k_mnF ?_ | refine k_mnL (by exact rfl) ?_ | fail))
    | (refine gateT ?_; (first | refine b_thn ?_ | refine b_thr ?_ | refine b_the ?_ | fail))
    | (refine gateX ?_; (first | refine b_seq ?_ | refine b_region ?_ | (refine m06 ?_; (first | refine c_T ?_ | refine c_F ?_ | refine c_P ?_ ?_ | refine c_B ?_ ?_ | fail)) | refine b_ret ?_ | refine b_skip ?_ | refine b_block ?_ | refine b_exit ?_ | refine b_draw (id := 29) [] [] [(0, .lt), (1, .ld true), (3, .ld true), (4, .lt), (5, .ld true), (2, .mn true), (6, .mn true), (7, .mn true), (8, .lt), (9, .mn true), (10, .lt), (11, .lt)] (by kernel_rfl) ?_ | fail))
    | refine m21 ?_
    | refine a_nil ?_
    | (refine gateK ?_; (first | refine c_call (run_6_c _) (OldOk.app (by simp)) ?_ | refine c_call (greatm_f _ (aD x l) l (aD_FL _ x l) off rows cols ld hI (by omega)) (OldOk.app (by simp)) ?_ | refine c_call (greatm_f _ (aD q la) la (aD_FL _ q la) ao n n al hJ (by omega)) (OldOk.app (by simp)) ?_ | refine c_call (inv_e _ _ _ _ _ _ _ 4 (by decide) (fun N => by rw [List.append_assoc]; exact rck_4 _ q la ao al n hJ hGa q' p hpl hpv hn1 hn z hzn hz hz1)) (OldOk.app (by simp)) ?_ | refine c_call (goodref_t _ (aD q la) la.length ao n n al (aD_len q la) hJ hGa) (OldOk.app (by simp)) ?_ | refine c_call (piv_t _ (aI q' p) p (aI_IL _ q' p) (by omega) hpv) (OldOk.app (by simp)) ?_ | refine c_call (of_n _ (aD q la) la (aD_FL _ q la) ao al n hJ hGa (by omega)) (OldOk.app (by simp)) ?_ | refine c_call (zero_t _ (.sl none (n * n) (fl (rmA (mel la ao al) n n))) (mel la ao al) n (FLz _ _ _ (by simp)) hn z hzn hz hz1) (OldOk.app (by simp)) ?_ | refine c_call (rc_3 _ x l off rows cols ld hI q la ao n n al hJ q' p (by omega) hg ⟨hGa, rfl, by omega, hpv⟩ hne) (OldOk.app (by simp)) ?_ | refine c_call (goodref_t _ (aD x l) l.length off rows cols ld (aD_len x l) hI hg) (OldOk.app (by simp)) ?_ | fail))
    | (refine gateQ ?_; refine m05 ?_)
    | (refine gateR ?_; (first | refine m04 ?_ | refine m02 ?_ | refine m03 ?_ | refine rk_nil ?_ | fail))
    | intro _)
  all_goals first
    | (exfalso; contradiction)
    | (exfalso; omega)
    | (exfalso; simp_all; done)
    | (refine rv_old rfl (by simp [mx, mxL, resOne, aOf, aOf1]) ?_; exact rfl)

set_option maxHeartbeats 4000000 in
theorem lw_4k (H : List (List AV)) (q : Nat × Nat) (la : List Nat) (ao al : Int) (n : Nat) (hJ : MI la.length ao n n al) (hGa : GoodP la.length ao n n al) (q' : Nat × Nat) (p : List Int) (hpl : p.length = n) (hpv : pivP p) (x : Nat × Nat) (l : List Nat) (off ld : Int) (hI : MI l.length off n n ld) (hG : GoodP l.length off n n ld) (hs : (l.length ≤ 1000 ∧ (n : Int) ≤ 20 ∧ (n : Int) ≤ 20 ∧ la.length ≤ 1000 ∧ (n : Int) ≤ 20 ∧ (n : Int) ≤ 20 ∧ p.length ≤ 60)) (hn1 : 1 ≤ n) (hn : n ≤ 64) (z : Nat) (hzn : z < n) (hz : ∀ k, k < z → feq ((mel la ao al) k k) 0 = false) (hz1 : feq ((mel la ao al) z z) 0 = true) :
    Spec Tryz.prog 3 [mt (aD x l) off (n : Int) (n : Int) ld, (.agg [aD q la, .int .i64 ao, .int .i64 (n : Int), .int .i64 (n : Int), .int .i64 al, aI q' p])] H (.bool true) H := by
  obtain ⟨hm, ho1, ho2, hr1, hr2, hc1, hc2, hl1, hl2⟩ := id hI
  obtain ⟨hm', ho1', ho2', hr1', hr2', hc1', hc2', hl1', hl2'⟩ := id hJ
  refine (Spec.intro' (fn := Tryz.f3) Tryz.func3 rfl (by kernel_rfl) (by simp) false [] (draw := drawX Tryz.prog ⟨false, _, []⟩) dOk ?_)
  simp only [argE, Nat.reduceAdd]
  repeat' (first
    | (refine gateE ?_; (first | refine b_c0 ?_ | refine b_nil ?_ | refine m13 ?_ | refine m12 ?_ | refine m11 ?_ | (refine m10 ?_; (first | refine g_TT ?_ | refine g_FF ?_ | refine g_TF ?_ | refine g_FT ?_ | refine g_PT ?_ ?_ | refine g_PF ?_ ?_ | refine g_BT ?_ ?_ | refine g_BF ?_ ?_ | fail)) | (refine m09 ?_; (first | refine g_TT ?_ | refine g_FF ?_ | refine g_TF ?_ | refine g_FT ?_ | refine g_PT ?_ ?_ | refine g_PF ?_ ?_ | refine g_BT ?_ ?_ | refine g_BF ?_ ?_ | fail)) | refine m38 ?_ | fail))
    | (refine gateO ?_; (first | refine m14 ?_ | (refine m17 ?_; first | refine m19 ?_ | refine m18 ?_) | (refine m07 ?_; (first | refine m15 ?_ | refine m16 ?_ | fail)) | (refine b_binBn (by first | (conv => {lhs; whnf}; done) | exact (by exact rfl) | fail) (by first | (conv => {lhs; whnf}; done) | exact (by exact rfl) | fail) ?_; (first | refine v_bnF (by exact rfl) ?_ | refine v_bnT (by decide) ?_ | fail)) | refine b_lenA (by (conv => {lhs; whnf}); done) (by exact (aI_IL [] q' p).len) ?_ | refine b_lenA (by (conv => {lhs; whnf}); done) (by exact rfl) ?_ | (refine m45 ?_; (first | refine v_bbT (by exact rfl) ?_ | refine v_k ?_ | fail)) | (refine m00 ?_; (first | refine m52 ?_ | refine m53 ?_ | refine v_eP ?_ | refine m54 ?_ | refine m55 ?_ | refine v_neP ?_ | refine m47 ?_ | refine m48 ?_ | refine m49 ?_ | refine m50 ?_ | refine v_nT ?_ | refine v_nF ?_ | refine v_nP ?_ | refine v_k ?_ | refine m51 ?_ | fail)) | (refine m22 ?_; (first | refine m26 ?_ | refine m27 ?_ | fail)) | refine m42 ?_ | refine b_assignI ?_ | refine b_assignN ?_ | refine m08 ?_ | (refine m20 ?_; (first | refine m52 ?_ | refine m53 ?_ | refine v_eP ?_ | refine m54 ?_ | refine m55 ?_ | refine v_neP ?_ | refine m47 ?_ | refine m48 ?_ | refine m49 ?_ | refine m50 ?_ | refine v_nT ?_ | refine v_nF ?_ | refine v_nP ?_ | refine v_k ?_ | refine m51 ?_ | fail)) | refine b_callB ?_ | refine b_lenA (by (conv => {lhs; whnf}); done) (by first | rfl | assumption) ?_ | refine m23 ?_ | refine m25 ?_ | refine m01 ?_ | refine m24 ?_ | fail))
    | (refine gateD ?_; (first | refine m36 ?_ | refine d_nil ?_ | refine m32 ?_ | refine m31 ?_ | refine m30 ?_ | (refine m28 ?_; (first | refine dg_TT ?_ | refine dg_FF ?_ | refine dg_TF ?_ | refine dg_FT ?_ | refine dg_PT ?_ ?_ | refine dg_PF ?_ ?_ | refine dg_BT ?_ ?_ | refine dg_BF ?_ ?_ | fail)) | (refine m29 ?_; (first | refine dg_TT ?_ | refine dg_FF ?_ | refine dg_TF ?_ | refine dg_FT ?_ | refine dg_PT ?_ ?_ | refine dg_PF ?_ ?_ | refine dg_BT ?_ ?_ | refine dg_BF ?_ ?_ | fail)) | refine m37 ?_ | fail))
    | (refine gateC ?_; (first | refine k_lt ?_ | refine k_fz ?_ | refine k_lb (by (conv => {lhs; whnf}); done) ?_ | refine k_ms ?_ | refine k_bx (by exact rfl) (by exact rfl) ?_ | refine m34 ?_ | refine m35 ?_ | refine m33 ?_ | refine k_mn ?_ | refine m56 ?_ | refine k_mnF ?_ | refine k_mnL (by exact rfl) ?_ | fail))
    | (refine gateT ?_; (first | refine b_thn ?_ | refine b_thr ?_ | refine b_the ?_ | fail))
    | (refine gateX ?_; (first | refine b_seq ?_ | refine b_region ?_ | (refine m06 ?_; (first | refine c_T ?_ | refine c_F ?_ | refine c_P ?_ ?_ | refine c_B ?_ ?_ | fail)) | refine b_ret ?_ | refine b_skip ?_ | refine b_block ?_ | refine b_exit ?_ | refine b_draw (id := 29) [] [] [(0, .lt), (1, .ld true), (3, .ld true), (4, .lt), (5, .ld true), (2, .mn true), (6, .mn true), (7, .mn true), (8, .lt), (9, .mn true), (10, .lt), (11, .lt)] (by kernel_rfl) ?_ | fail))
    | refine m21 ?_
    | refine a_nil ?_
    | (refine gateK ?_; (first | refine c_call (run_6_c _) (OldOk.app (by simp)) ?_ | refine c_call (greatm_f _ (aD x l) l (aD_FL _ x l) off n n ld hI (by omega)) (OldOk.app (by simp)) ?_ | refine c_call (greatm_f _ (aD q la) la (aD_FL _ q la) ao n n al hJ (by omega)) (OldOk.app (by simp)) ?_ | refine c_call (inv_e _ _ _ _ _ _ _ 4 (by decide) (fun N => by rw [List.append_assoc]; exact rck_4 _ q la ao al n hJ hGa q' p hpl hpv hn1 hn z hzn hz hz1)) (OldOk.app (by simp)) ?_ | refine c_call (goodref_t _ (aD q la) la.length ao n n al (aD_len q la) hJ hGa) (OldOk.app (by simp)) ?_ | refine c_call (piv_t _ (aI q' p) p (aI_IL _ q' p) (by omega) hpv) (OldOk.app (by simp)) ?_ | refine c_call (of_n _ (aD q la) la (aD_FL _ q la) ao al n hJ hGa (by omega)) (OldOk.app (by simp)) ?_ | refine c_call (zero_t _ (.sl none (n * n) (fl (rmA (mel la ao al) n n))) (mel la ao al) n (FLz _ _ _ (by simp)) hn z hzn hz hz1) (OldOk.app (by simp)) ?_ | refine c_call (goodref_t _ (aD x l) l.length off n n ld (aD_len x l) hI hG) (OldOk.app (by simp)) ?_ | refine c_call (of_n _ (aD x l) l (aD_FL _ x l) off ld n hI hG (by omega)) (OldOk.app (by simp)) ?_ | refine c_call (rc_e _ x l off n n ld hI q la ao n n al hJ q' p (by omega) hG ⟨hGa, rfl, by omega, hpv⟩ ⟨rfl, rfl⟩ 4 (by decide) (fun N => rck_4 _ q la ao al n hJ hGa q' p hpl hpv hn1 hn z hzn hz hz1)) (OldOk.app (by simp)) ?_ | fail))
    | (refine gateQ ?_; refine m05 ?_)
    | (refine gateR ?_; (first | refine m04 ?_ | refine m02 ?_ | refine m03 ?_ | refine rk_nil ?_ | fail))
    | intro _)
  all_goals first
    | (exfalso; contradiction)
    | (exfalso; omega)
    | (exfalso; simp_all; done)
    | (refine rv_old rfl (by simp [mx, mxL, resOne, aOf, aOf1]) ?_; exact rfl)

set_option maxHeartbeats 4000000 in
theorem lw_0b (H : List (List AV)) (x : Nat × Nat) (l : List Nat) (off rows cols ld : Int) (hI : MI l.length off rows cols ld) (q : Nat × Nat) (la : List Nat) (ao al : Int) (n : Nat) (hJ : MI la.length ao n n al) (hGa : GoodP la.length ao n n al) (q' : Nat × Nat) (p : List Int) (hpl : p.length = n) (hpv : pivP p) (hs : (l.length ≤ 1000 ∧ rows ≤ 20 ∧ cols ≤ 20 ∧ la.length ≤ 1000 ∧ (n : Int) ≤ 20 ∧ (n : Int) ≤ 20 ∧ p.length ≤ 60)) (hn1 : 1 ≤ n) (hn : n ≤ 64) (hz : ∀ k, k < n → feq ((mel la ao al) k k) 0 = false) (N : Nat) (hR : REnd (slvL (mel la ao al) p n) (sltL (mel la ao al) p n) (M0 n) N) (hg : ¬ GoodP l.length off rows cols ld) :
    Spec Tryz.prog 3 [mt (aD x l) off rows cols ld, (.agg [aD q la, .int .i64 ao, .int .i64 (n : Int), .int .i64 (n : Int), .int .i64 al, aI q' p])] H (.bool true) H := by
  obtain ⟨hm, ho1, ho2, hr1, hr2, hc1, hc2, hl1, hl2⟩ := id hI
  obtain ⟨hm', ho1', ho2', hr1', hr2', hc1', hc2', hl1', hl2'⟩ := id hJ
  refine (Spec.intro' (fn := Tryz.f3) Tryz.func3 rfl (by kernel_rfl) (by simp) false [] (draw := drawX Tryz.prog ⟨false, _, []⟩) dOk ?_)
  simp only [argE, Nat.reduceAdd]
  repeat' (first
    | (refine gateE ?_; (first | refine b_c0 ?_ | refine b_nil ?_ | refine m13 ?_ | refine m12 ?_ | refine m11 ?_ | (refine m10 ?_; (first | refine g_TT ?_ | refine g_FF ?_ | refine g_TF ?_ | refine g_FT ?_ | refine g_PT ?_ ?_ | refine g_PF ?_ ?_ | refine g_BT ?_ ?_ | refine g_BF ?_ ?_ | fail)) | (refine m09 ?_; (first | refine g_TT ?_ | refine g_FF ?_ | refine g_TF ?_ | refine g_FT ?_ | refine g_PT ?_ ?_ | refine g_PF ?_ ?_ | refine g_BT ?_ ?_ | refine g_BF ?_ ?_ | fail)) | refine m38 ?_ | fail))
    | (refine gateO ?_; (first | refine m14 ?_ | (refine m17 ?_; first | refine m19 ?_ | refine m18 ?_) | (refine m07 ?_; (first | refine m15 ?_ | refine m16 ?_ | fail)) | (refine b_binBn (by first | (conv => {lhs; whnf}; done) | exact (by exact rfl) | fail) (by first | (conv => {lhs; whnf}; done) | exact (by exact rfl) | fail) ?_; (first | refine v_bnF (by exact rfl) ?_ | refine v_bnT (by decide) ?_ | fail)) | refine b_lenA (by (conv => {lhs; whnf}); done) (by exact (aI_IL [] q' p).len) ?_ | refine b_lenA (by (conv => {lhs; whnf}); done) (by exact rfl) ?_ | (refine m45 ?_; (first | refine v_bbT (by exact rfl) ?_ | refine v_k ?_ | fail)) | (refine m00 ?_; (first | refine m52 ?_ | refine m53 ?_ | refine v_eP ?_ | refine m54 ?_ | refine m55 ?_ | refine v_neP ?_ | refine m47 ?_ | refine m48 ?_ | refine m49 ?_ | refine m50 ?_ | refine v_nT ?_ | refine v_nF ?_ | refine v_nP ?_ | refine v_k ?_ | refine m51 ?_ | fail)) | (refine m22 ?_; (first | refine m26 ?_ | refine m27 ?_ | fail)) | refine m42 ?_ | refine b_assignI ?_ | refine b_assignN ?_ | refine m08 ?_ | (refine m20 ?_; (first | refine m52 ?_ | refine m53 ?_ | refine v_eP ?_ | refine m54 ?_ | refine m55 ?_ | refine v_neP ?_ | refine m47 ?_ | refine m48 ?_ | refine m49 ?_ | refine m50 ?_ | refine v_nT ?_ | refine v_nF ?_ | refine v_nP ?_ | refine v_k ?_ | refine m51 ?_ | fail)) | refine b_callB ?_ | refine b_lenA (by (conv => {lhs; whnf}); done) (by first | rfl | assumption) ?_ | refine m23 ?_ | refine m25 ?_ | refine m01 ?_ | refine m24 ?_ | fail))
    | (refine gateD ?_; (first | refine m36 ?_ | refine d_nil ?_ | refine m32 ?_ | refine m31 ?_ | refine m30 ?_ | (refine m28 ?_; (first | refine dg_TT ?_ | refine dg_FF ?_ | refine dg_TF ?_ | refine dg_FT ?_ | refine dg_PT ?_ ?_ | refine dg_PF ?_ ?_ | refine dg_BT ?_ ?_ | refine dg_BF ?_ ?_ | fail)) | (refine m29 ?_; (first | refine dg_TT ?_ | refine dg_FF ?_ | refine dg_TF ?_ | refine dg_FT ?_ | refine dg_PT ?_ ?_ | refine dg_PF ?_ ?_ | refine dg_BT ?_ ?_ | refine dg_BF ?_ ?_ | fail)) | refine m37 ?_ | fail))
    | (refine gateC ?_; (first | refine k_lt ?_ | refine k_fz ?_ | refine k_lb (by (conv => {lhs; whnf}); done) ?_ | refine k_ms ?_ | refine k_bx (by exact rfl) (by exact rfl) ?_ | refine m34 ?_ | refine m35 ?_ | refine m33 ?_ | refine k_mn ?_ | refine m56 ?_ | refine k_mnF ?_ | refine k_mnL (by exact rfl) ?_ | fail))
    | (refine gateT ?_; (first | refine b_thn ?_ | refine b_thr ?_ | refine b_the ?_ | fail))
    | (refine gateX ?_; (first | refine b_seq ?_ | refine b_region ?_ | (refine m06 ?_; (first | refine c_T ?_ | refine c_F ?_ | refine c_P ?_ ?_ | refine c_B ?_ ?_ | fail)) | refine b_ret ?_ | refine b_skip ?_ | refine b_block ?_ | refine b_exit ?_ | refine b_draw (id := 29) [] [] [(0, .lt), (1, .ld true), (3, .ld true), (4, .lt), (5, .ld true), (2, .mn true), (6, .mn true), (7, .mn true), (8, .lt), (9, .mn true), (10, .lt), (11, .lt)] (by kernel_rfl) ?_ | fail))
    | refine m21 ?_
    | refine a_nil ?_
    | (refine gateK ?_; (first | refine c_call (run_6_c _) (OldOk.app (by simp)) ?_ | refine c_call (greatm_f _ (aD x l) l (aD_FL _ x l) off rows cols ld hI (by omega)) (OldOk.app (by simp)) ?_ | refine c_call (greatm_f _ (aD q la) la (aD_FL _ q la) ao n n al hJ (by omega)) (OldOk.app (by simp)) ?_ | refine c_call (inv_0 _ q la ao al n hJ hGa q' p hpl hpv hn1 hn hz N hR) (OldOk.app (by simp)) ?_ | refine c_call (goodref_t _ (aD q la) la.length ao n n al (aD_len q la) hJ hGa) (OldOk.app (by simp)) ?_ | refine c_call (piv_t _ (aI q' p) p (aI_IL _ q' p) (by omega) hpv) (OldOk.app (by simp)) ?_ | refine c_call (of_n _ (aD q la) la (aD_FL _ q la) ao al n hJ hGa (by omega)) (OldOk.app (by simp)) ?_ | refine c_call (zero_f _ (.sl none (n * n) (fl (rmA (mel la ao al) n n))) (mel la ao al) n (FLz _ _ _ (by simp)) hn hz) (OldOk.app (by simp)) ?_ | refine c_call (rinv_0 _ q la ao al n hJ hGa q' p hpl hpv hn1 hn (.sl none (n * n) (fl (rmA (mel la ao al) n n))) (fun H => (FLz _ _ _ (by simp))) (by simp only [mx, mxL_fl]) hz N hR (by simp [aI, mx, mxL_il])) (OldOk.app (by simp)) ?_ | refine c_call (same_t _ _ _ rfl) (OldOk.app (by simp)) ?_ | refine c_call (all_t _ _ (runM (slvL (mel la ao al) p n) (sltL (mel la ao al) p n) (M0 n) N).1.v (FLz _ _ _ (hR.v (fun y _ => by simp) (fun y _ => by simp))) (by rw [hR.v (fun y _ => by simp) (fun y _ => by simp)]; omega) _ (runM (slvL (mel la ao al) p n) (sltL (mel la ao al) p n) (M0 n) N).1.v (FLz _ _ _ (hR.v (fun y _ => by simp) (fun y _ => by simp))) rfl) (OldOk.app (by simp)) ?_ | refine c_call (rc_1 _ x l off rows cols ld hI q la ao n n al hJ q' p (by omega) (fun h => hg h.1)) (OldOk.app (by simp)) ?_ | refine c_call (goodref_f _ (aD x l) l.length off rows cols ld (aD_len x l) hI hg) (OldOk.app (by simp)) ?_ | fail))
    | (refine gateQ ?_; refine m05 ?_)
    | (refine gateR ?_; (first | refine m04 ?_ | refine m02 ?_ | refine m03 ?_ | refine rk_nil ?_ | fail))
    | intro _)
  all_goals first
    | (exfalso; contradiction)
    | (exfalso; omega)
    | (exfalso; simp_all; done)
    | (refine rv_old rfl (by simp [mx, mxL, resOne, aOf, aOf1]) ?_; exact rfl)

set_option maxHeartbeats 4000000 in
theorem lw_0s (H : List (List AV)) (x : Nat × Nat) (l : List Nat) (off rows cols ld : Int) (hI : MI l.length off rows cols ld) (q : Nat × Nat) (la : List Nat) (ao al : Int) (n : Nat) (hJ : MI la.length ao n n al) (hGa : GoodP la.length ao n n al) (q' : Nat × Nat) (p : List Int) (hpl : p.length = n) (hpv : pivP p) (hs : (l.length ≤ 1000 ∧ rows ≤ 20 ∧ cols ≤ 20 ∧ la.length ≤ 1000 ∧ (n : Int) ≤ 20 ∧ (n : Int) ≤ 20 ∧ p.length ≤ 60)) (hn1 : 1 ≤ n) (hn : n ≤ 64) (hz : ∀ k, k < n → feq ((mel la ao al) k k) 0 = false) (N : Nat) (hR : REnd (slvL (mel la ao al) p n) (sltL (mel la ao al) p n) (M0 n) N) (hg : GoodP l.length off rows cols ld) (hne : ¬ (rows = (n : Int) ∧ cols = (n : Int))) :
    Spec Tryz.prog 3 [mt (aD x l) off rows cols ld, (.agg [aD q la, .int .i64 ao, .int .i64 (n : Int), .int .i64 (n : Int), .int .i64 al, aI q' p])] H (.bool true) H := by
  obtain ⟨hm, ho1, ho2, hr1, hr2, hc1, hc2, hl1, hl2⟩ := id hI
  obtain ⟨hm', ho1', ho2', hr1', hr2', hc1', hc2', hl1', hl2'⟩ := id hJ
  refine (Spec.intro' (fn := Tryz.f3) Tryz.func3 rfl (by kernel_rfl) (by simp) false [] (draw := drawX Tryz.prog ⟨false, _, []⟩) dOk ?_)
  simp only [argE, Nat.reduceAdd]
  repeat' (first
    | (refine gateE ?_; (first | refine b_c0 ?_ | refine b_nil ?_ | refine m13 ?_ | refine m12 ?_ | refine m11 ?_ | (refine m10 ?_; (first | refine g_TT ?_ | refine g_FF ?_ | refine g_TF ?_ | refine g_FT ?_ | refine g_PT ?_ ?_ | refine g_PF ?_ ?_ | refine g_BT ?_ ?_ | refine g_BF ?_ ?_ | fail)) | (refine m09 ?_; (first | refine g_TT ?_ | refine g_FF ?_ | refine g_TF ?_ | refine g_FT ?_ | refine g_PT ?_ ?_ | refine g_PF ?_ ?_ | refine g_BT ?_ ?_ | refine g_BF ?_ ?_ | fail)) | refine m38 ?_ | fail))
    | (refine gateO ?_; (first | refine m14 ?_ | (refine m17 ?_; first | refine m19 ?_ | refine m18 ?_) | (refine m07 ?_; (first | refine m15 ?_ | refine m16 ?_ | fail)) | (refine b_binBn (by first | (conv => {lhs; whnf}; done) | exact (by exact rfl) | fail) (by first | (conv => {lhs; whnf}; done) | exact (by exact rfl) | fail) ?_; (first | refine v_bnF (by exact rfl) ?_ | refine v_bnT (by decide) ?_ | fail)) | refine b_lenA (by (conv => {lhs; whnf}); done) (by exact (aI_IL [] q' p).len) ?_ | refine b_lenA (by (conv => {lhs; whnf}); done) (by exact rfl) ?_ | (refine m45 ?_; (first | refine v_bbT (by exact rfl) ?_ | refine v_k ?_ | fail)) | (refine m00 ?_; (first | refine m52 ?_ | refine m53 ?_ | refine v_eP ?_ | refine m54 ?_ | refine m55 ?_ | refine v_neP ?_ | refine m47 ?_ | refine m48 ?_ | refine m49 ?_ | refine m50 ?_ | refine v_nT ?_ | refine v_nF ?_ | refine v_nP ?_ | refine v_k ?_ | refine m51 ?_ | fail)) | (refine m22 ?_; (first | refine m26 ?_ | refine m27 ?_ | fail)) | refine m42 ?_ | refine b_assignI ?_ | refine b_assignN ?_ | refine m08 ?_ | (refine m20 ?_; (first | refine m52 ?_ | refine m53 ?_ | refine v_eP ?_ | refine m54 ?_ | refine m55 ?_ | refine v_neP ?_ | refine m47 ?_ | refine m48 ?_ | refine m49 ?_ | refine m50 ?_ | refine v_nT ?_ | refine v_nF ?_ | refine v_nP ?_ | refine v_k ?_ | refine m51 ?_ | fail)) | refine b_callB ?_ | refine b_lenA (by (conv => {lhs; whnf}); done) (by first | rfl | assumption) ?_ | refine m23 ?_ | refine m25 ?_ | refine m01 ?_ | refine m24 ?_ | fail))
    | (refine gateD ?_; (first | refine m36 ?_ | refine d_nil ?_ | refine m32 ?_ | refine m31 ?_ | refine m30 ?_ | (refine m28 ?_; (first | refine dg_TT ?_ | refine dg_FF ?_ | refine dg_TF ?_ | refine dg_FT ?_ | refine dg_PT ?_ ?_ | refine dg_PF ?_ ?_ | refine dg_BT ?_ ?_ | refine dg_BF ?_ ?_ | fail)) | (refine m29 ?_; (first | refine dg_TT ?_ | refine dg_FF ?_ | refine dg_TF ?_ | refine dg_FT ?_ | refine dg_PT ?_ ?_ | refine dg_PF ?_ ?_ | refine dg_BT ?_ ?_ | refine dg_BF ?_ ?_ | fail)) | refine m37 ?_ | fail))
    | (refine gateC ?_; (first | refine k_lt ?_ | refine k_fz ?_ | refine k_lb (by (conv => {lhs; whnf}); done) ?_ | refine k_ms ?_ | refine k_bx (by exact rfl) (by exact rfl) ?_ | refine m34 ?_ | refine m35 ?_ | refine m33 ?_ | refine k_mn ?_ | refine m56 ?_ | refine k_mnF ?_ | refine k_mnL (by exact rfl) ?_ | fail))
    | (refine gateT ?_; (first | refine b_thn ?_ | refine b_thr ?_ | refine b_the ?_ | fail))
    | (refine gateX ?_; (first | refine b_seq ?_ | refine b_region ?_ | (refine m06 ?_; (first | refine c_T ?_ | refine c_F ?_ | refine c_P ?_ ?_ | refine c_B ?_ ?_ | fail)) | refine b_ret ?_ | refine b_skip ?_ | refine b_block ?_ | refine b_exit ?_ | refine b_draw (id := 29) [] [] [(0, .lt), (1, .ld true), (3, .ld true), (4, .lt), (5, .ld true), (2, .mn true), (6, .mn true), (7, .mn true), (8, .lt), (9, .mn true), (10, .lt), (11, .lt)] (by kernel_rfl) ?_ | fail))
    | refine m21 ?_
    | refine a_nil ?_
    | (refine gateK ?_; (first | refine c_call (run_6_c _) (OldOk.app (by simp)) ?_ | refine c_call (greatm_f _ (aD x l) l (aD_FL _ x l) off rows cols ld hI (by omega)) (OldOk.app (by simp)) ?_ | refine c_call (greatm_f _ (aD q la) la (aD_FL _ q la) ao n n al hJ (by omega)) (OldOk.app (by simp)) ?_ | refine c_call (inv_0 _ q la ao al n hJ hGa q' p hpl hpv hn1 hn hz N hR) (OldOk.app (by simp)) ?_ | refine c_call (goodref_t _ (aD q la) la.length ao n n al (aD_len q la) hJ hGa) (OldOk.app (by simp)) ?_ | refine c_call (piv_t _ (aI q' p) p (aI_IL _ q' p) (by omega) hpv) (OldOk.app (by simp)) ?_ | refine c_call (of_n _ (aD q la) la (aD_FL _ q la) ao al n hJ hGa (by omega)) (OldOk.app (by simp)) ?_ | refine c_call (zero_f _ (.sl none (n * n) (fl (rmA (mel la ao al) n n))) (mel la ao al) n (FLz _ _ _ (by simp)) hn hz) (OldOk.app (by simp)) ?_ | refine c_call (rinv_0 _ q la ao al n hJ hGa q' p hpl hpv hn1 hn (.sl none (n * n) (fl (rmA (mel la ao al) n n))) (fun H => (FLz _ _ _ (by simp))) (by simp only [mx, mxL_fl]) hz N hR (by simp [aI, mx, mxL_il])) (OldOk.app (by simp)) ?_ | refine c_call (same_t _ _ _ rfl) (OldOk.app (by simp)) ?_ | refine c_call (all_t _ _ (runM (slvL (mel la ao al) p n) (sltL (mel la ao al) p n) (M0 n) N).1.v (FLz _ _ _ (hR.v (fun y _ => by simp) (fun y _ => by simp))) (by rw [hR.v (fun y _ => by simp) (fun y _ => by simp)]; omega) _ (runM (slvL (mel la ao al) p n) (sltL (mel la ao al) p n) (M0 n) N).1.v (FLz _ _ _ (hR.v (fun y _ => by simp) (fun y _ => by simp))) rfl) (OldOk.app (by simp)) ?_ | refine c_call (rc_3 _ x l off rows cols ld hI q la ao n n al hJ q' p (by omega) hg ⟨hGa, rfl, by omega, hpv⟩ hne) (OldOk.app (by simp)) ?_ | refine c_call (goodref_t _ (aD x l) l.length off rows cols ld (aD_len x l) hI hg) (OldOk.app (by simp)) ?_ | fail))
    | (refine gateQ ?_; refine m05 ?_)
    | (refine gateR ?_; (first | refine m04 ?_ | refine m02 ?_ | refine m03 ?_ | refine rk_nil ?_ | fail))
    | intro _)
  all_goals first
    | (exfalso; contradiction)
    | (exfalso; omega)
    | (exfalso; simp_all; done)
    | (refine rv_old rfl (by simp [mx, mxL, resOne, aOf, aOf1]) ?_; exact rfl)

set_option maxHeartbeats 4000000 in
theorem lw_0k (H : List (List AV)) (q : Nat × Nat) (la : List Nat) (ao al : Int) (n : Nat) (hJ : MI la.length ao n n al) (hGa : GoodP la.length ao n n al) (q' : Nat × Nat) (p : List Int) (hpl : p.length = n) (hpv : pivP p) (x : Nat × Nat) (l : List Nat) (off ld : Int) (hI : MI l.length off n n ld) (hG : GoodP l.length off n n ld) (hs : (l.length ≤ 1000 ∧ (n : Int) ≤ 20 ∧ (n : Int) ≤ 20 ∧ la.length ≤ 1000 ∧ (n : Int) ≤ 20 ∧ (n : Int) ≤ 20 ∧ p.length ≤ 60)) (hn1 : 1 ≤ n) (hn : n ≤ 64) (hz : ∀ k, k < n → feq ((mel la ao al) k k) 0 = false) (N : Nat) (hR : REnd (slvL (mel la ao al) p n) (sltL (mel la ao al) p n) (M0 n) N) :
    Spec Tryz.prog 3 [mt (aD x l) off (n : Int) (n : Int) ld, (.agg [aD q la, .int .i64 ao, .int .i64 (n : Int), .int .i64 (n : Int), .int .i64 al, aI q' p])] H (.bool true) H := by
  obtain ⟨hm, ho1, ho2, hr1, hr2, hc1, hc2, hl1, hl2⟩ := id hI
  obtain ⟨hm', ho1', ho2', hr1', hr2', hc1', hc2', hl1', hl2'⟩ := id hJ
  refine (Spec.intro' (fn := Tryz.f3) Tryz.func3 rfl (by kernel_rfl) (by simp) false [] (draw := drawX Tryz.prog ⟨false, _, []⟩) dOk ?_)
  simp only [argE, Nat.reduceAdd]
  repeat' (first
    | (refine gateE ?_; (first | refine b_c0 ?_ | refine b_nil ?_ | refine m13 ?_ | refine m12 ?_ | refine m11 ?_ | (refine m10 ?_; (first | refine g_TT ?_ | refine g_FF ?_ | refine g_TF ?_ | refine g_FT ?_ | refine g_PT ?_ ?_ | refine g_PF ?_ ?_ | refine g_BT ?_ ?_ | refine g_BF ?_ ?_ | fail)) | (refine m09 ?_; (first | refine g_TT ?_ | refine g_FF ?_ | refine g_TF ?_ | refine g_FT ?_ | refine g_PT ?_ ?_ | refine g_PF ?_ ?_ | refine g_BT ?_ ?_ | refine g_BF ?_ ?_ | fail)) | refine m38 ?_ | fail))
    | (refine gateO ?_; (first | refine m14 ?_ | (refine m17 ?_; first | refine m19 ?_ | refine m18 ?_) | (refine m07 ?_; (first | refine m15 ?_ | refine m16 ?_ | fail)) | (refine b_binBn (by first | (conv => {lhs; whnf}; done) | exact (by exact rfl) | fail) (by first | (conv => {lhs; whnf}; done) | exact (by exact rfl) | fail) ?_; (first | refine v_bnF (by exact rfl) ?_ | refine v_bnT (by decide) ?_ | fail)) | refine b_lenA (by (conv => {lhs; whnf}); done) (by exact (aI_IL [] q' p).len) ?_ | refine b_lenA (by (conv => {lhs; whnf}); done) (by exact rfl) ?_ | (refine m45 ?_; (first | refine v_bbT (by exact rfl) ?_ | refine v_k ?_ | fail)) | (refine m00 ?_; (first | refine m52 ?_ | refine m53 ?_ | refine v_eP ?_ | refine m54 ?_ | refine m55 ?_ | refine v_neP ?_ | refine m47 ?_ | refine m48 ?_ | refine m49 ?_ | refine m50 ?_ | refine v_nT ?_ | refine v_nF ?_ | refine v_nP ?_ | refine v_k ?_ | refine m51 ?_ | fail)) | (refine m22 ?_; (first | refine m26 ?_ | refine m27 ?_ | fail)) | refine m42 ?_ | refine b_assignI ?_ | refine b_assignN ?_ | refine m08 ?_ | (refine m20 ?_; (first | refine m52 ?_ | refine m53 ?_ | refine v_eP ?_ | refine m54 ?_ | refine m55 ?_ | refine v_neP ?_ | refine m47 ?_ | refine m48 ?_ | refine m49 ?_ | refine m50 ?_ | refine v_nT ?_ | refine v_nF ?_ | refine v_nP ?_ | refine v_k ?_ | refine m51 ?_ | fail)) | refine b_callB ?_ | refine b_lenA (by (conv => {lhs; whnf}); done) (by first | rfl | assumption) ?_ | refine m23 ?_ | refine m25 ?_ | refine m01 ?_ | refine m24 ?_ | fail))
    | (refine gateD ?_; (first | refine m36 ?_ | refine d_nil ?_ | refine m32 ?_ | refine m31 ?_ | refine m30 ?_ | (refine m28 ?_; (first | refine dg_TT ?_ | refine dg_FF ?_ | refine dg_TF ?_ | refine dg_FT ?_ | refine dg_PT ?_ ?_ | refine dg_PF ?_ ?_ | refine dg_BT ?_ ?_ | refine dg_BF ?_ ?_ | fail)) | (refine m29 ?_; (first | refine dg_TT ?_ | refine dg_FF ?_ | refine dg_TF ?_ | refine dg_FT ?_ | refine dg_PT ?_ ?_ | refine dg_PF ?_ ?_ | refine dg_BT ?_ ?_ | refine dg_BF ?_ ?_ | fail)) | refine m37 ?_ | fail))
    | (refine gateC ?_; (first | refine k_lt ?_ | refine k_fz ?_ | refine k_lb (by (conv => {lhs; whnf}); done) ?_ | refine k_ms ?_ | refine k_bx (by exact rfl) (by exact rfl) ?_ | refine m34 ?_ | refine m35 ?_ | refine m33 ?_ | refine k_mn ?_ | refine m56 ?_ | refine k_mnF ?_ | refine k_mnL (by exact rfl) ?_ | fail))
    | (refine gateT ?_; (first | refine b_thn ?_ | refine b_thr ?_ | refine b_the ?_ | fail))
    | (refine gateX ?_; (first | refine b_seq ?_ | refine b_region ?_ | (refine m06 ?_; (first | refine c_T ?_ | refine c_F ?_ | refine c_P ?_ ?_ | refine c_B ?_ ?_ | fail)) | refine b_ret ?_ | refine b_skip ?_ | refine b_block ?_ | refine b_exit ?_ | refine b_draw (id := 29) [] [] [(0, .lt), (1, .ld true), (3, .ld true), (4, .lt), (5, .ld true), (2, .mn true), (6, .mn true), (7, .mn true), (8, .lt), (9, .mn true), (10, .lt), (11, .lt)] (by kernel_rfl) ?_ | fail))
    | refine m21 ?_
    | refine a_nil ?_
    | (refine gateK ?_; (first | refine c_call (run_6_c _) (OldOk.app (by simp)) ?_ | refine c_call (greatm_f _ (aD x l) l (aD_FL _ x l) off n n ld hI (by omega)) (OldOk.app (by simp)) ?_ | refine c_call (greatm_f _ (aD q la) la (aD_FL _ q la) ao n n al hJ (by omega)) (OldOk.app (by simp)) ?_ | refine c_call (inv_0 _ q la ao al n hJ hGa q' p hpl hpv hn1 hn hz N hR) (OldOk.app (by simp)) ?_ | refine c_call (goodref_t _ (aD q la) la.length ao n n al (aD_len q la) hJ hGa) (OldOk.app (by simp)) ?_ | refine c_call (piv_t _ (aI q' p) p (aI_IL _ q' p) (by omega) hpv) (OldOk.app (by simp)) ?_ | refine c_call (of_n _ (aD q la) la (aD_FL _ q la) ao al n hJ hGa (by omega)) (OldOk.app (by simp)) ?_ | refine c_call (zero_f _ (.sl none (n * n) (fl (rmA (mel la ao al) n n))) (mel la ao al) n (FLz _ _ _ (by simp)) hn hz) (OldOk.app (by simp)) ?_ | refine c_call (rinv_0 _ q la ao al n hJ hGa q' p hpl hpv hn1 hn (.sl none (n * n) (fl (rmA (mel la ao al) n n))) (fun H => (FLz _ _ _ (by simp))) (by simp only [mx, mxL_fl]) hz N hR (by simp [aI, mx, mxL_il])) (OldOk.app (by simp)) ?_ | refine c_call (same_t _ _ _ rfl) (OldOk.app (by simp)) ?_ | refine c_call (all_t _ _ (runM (slvL (mel la ao al) p n) (sltL (mel la ao al) p n) (M0 n) N).1.v (FLz _ _ _ (hR.v (fun y _ => by simp) (fun y _ => by simp))) (by rw [hR.v (fun y _ => by simp) (fun y _ => by simp)]; omega) _ (runM (slvL (mel la ao al) p n) (sltL (mel la ao al) p n) (M0 n) N).1.v (FLz _ _ _ (hR.v (fun y _ => by simp) (fun y _ => by simp))) rfl) (OldOk.app (by simp)) ?_ | refine c_call (goodref_t _ (aD x l) l.length off n n ld (aD_len x l) hI hG) (OldOk.app (by simp)) ?_ | refine c_call (of_n _ (aD x l) l (aD_FL _ x l) off ld n hI hG (by omega)) (OldOk.app (by simp)) ?_ | refine c_call (rc_0 _ q la ao al n hJ hGa q' p hpl hpv hn1 hn x l off ld hI hG hz N hR) (OldOk.app (by simp)) ?_ | refine c_call (rrc_0 _ q la ao al n hJ hGa q' p hpl hpv hn1 hn (.sl none (n * n) (fl (rmA (mel la ao al) n n))) (fun H => (FLz _ _ _ (by simp))) (by simp only [mx, mxL_fl]) hz N hR (by simp [aI, mx, mxL_il]) (.sl none (n * n) (fl (rmA (mel l off ld) n n))) (mel l off ld) (fun H => (FLz _ _ _ (by simp))) (by simp only [mx, mxL_fl])) (OldOk.app (by simp)) ?_ | fail))
    | (refine gateQ ?_; refine m05 ?_)
    | (refine gateR ?_; (first | refine m04 ?_ | refine m02 ?_ | refine m03 ?_ | refine rk_nil ?_ | fail))
    | intro _)
  all_goals first
    | (exfalso; contradiction)
    | (exfalso; omega)
    | (exfalso; simp_all; done)
    | (refine rv_old rfl (by simp [mx, mxL, resOne, aOf, aOf1]) ?_; exact rfl)


theorem rcondTells_s (H : List (List AV)) (x : Nat × Nat) (l : List Nat) (off rows cols ld : Int) (hI : MI l.length off rows cols ld) (q : Nat × Nat) (la : List Nat) (ao ar ac al : Int) (hJ : MI la.length ao ar ac al) (q' : Nat × Nat) (p : List Int) (hpm : p.length ≤ 9223372036854775807) : Spec Tryz.prog 3 [mt (aD x l) off rows cols ld, (.agg [aD q la, .int .i64 ao, .int .i64 ar, .int .i64 ac, .int .i64 al, aI q' p])] H (.bool true) H := by
  by_cases hs : (l.length ≤ 1000 ∧ rows ≤ 20 ∧ cols ≤ 20 ∧ la.length ≤ 1000 ∧ ar ≤ 20 ∧ ac ≤ 20 ∧ p.length ≤ 60)
  · by_cases hr : (GoodP la.length ao ar ac al ∧ ar = ac ∧ ar = (p.length : Int) ∧ pivP p)
    · obtain ⟨r1, r2, r3, r4⟩ := hr
      subst r2
      obtain ⟨n, rfl⟩ : ∃ n : Nat, ar = (n : Int) := ⟨p.length, r3⟩
      have hpl : p.length = n := by omega
      rcases Nat.eq_zero_or_pos n with hn0 | hn1
      · by_cases hg : GoodP l.length off rows cols ld
        · by_cases hne : rows = (n : Int) ∧ cols = (n : Int)
          · obtain ⟨e1, e2⟩ := hne
            subst e1 e2
            exact lw_3k H q la ao al n hJ r1 q' p hpl r4 x l off ld hI hg hs hn0
          · exact lw_3s H x l off rows cols ld hI q la ao al n hJ r1 q' p hpl r4 hs hn0 hg hne
        · exact lw_3b H x l off rows cols ld hI q la ao al n hJ r1 q' p hpl r4 hs hn0 hg
      · have hn : n ≤ 64 := by omega
        rcases first_zero (mel la ao al) n with hz | ⟨z, hzn, hz, hz1⟩
        · obtain ⟨N, hR⟩ := r_end (f1 := slvL (mel la ao al) p n) (f2 := sltL (mel la ao al) p n) hn1 hn (fun y _ => by simp) (fun y _ => by simp)
          by_cases hg : GoodP l.length off rows cols ld
          · by_cases hne : rows = (n : Int) ∧ cols = (n : Int)
            · obtain ⟨e1, e2⟩ := hne
              subst e1 e2
              exact lw_0k H q la ao al n hJ r1 q' p hpl r4 x l off ld hI hg hs hn1 hn hz N hR
            · exact lw_0s H x l off rows cols ld hI q la ao al n hJ r1 q' p hpl r4 hs hn1 hn hz N hR hg hne
          · exact lw_0b H x l off rows cols ld hI q la ao al n hJ r1 q' p hpl r4 hs hn1 hn hz N hR hg
        · by_cases hg : GoodP l.length off rows cols ld
          · by_cases hne : rows = (n : Int) ∧ cols = (n : Int)
            · obtain ⟨e1, e2⟩ := hne
              subst e1 e2
              exact lw_4k H q la ao al n hJ r1 q' p hpl r4 x l off ld hI hg hs hn1 hn z hzn hz hz1
            · exact lw_4s H x l off rows cols ld hI q la ao al n hJ r1 q' p hpl r4 hs hn1 hn z hzn hz hz1 hg hne
          · exact lw_4b H x l off rows cols ld hI q la ao al n hJ r1 q' p hpl r4 hs hn1 hn z hzn hz hz1 hg
    · exact lw_1 H x l off rows cols ld hI q la ao ar ac al hJ q' p hpm hs hr
  · exact lw_g H x l off rows cols ld hI q la ao ar ac al hJ q' p hpm hs

end Go.Sx
