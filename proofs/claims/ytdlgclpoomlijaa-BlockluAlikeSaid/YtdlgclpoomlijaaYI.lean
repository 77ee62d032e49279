/- A part of the proofs of this seat: YI. No condition is set. -/
import Derived.Test.YtdlgclpoomlijaaYB
import Derived.Test.YtdlgclpoomlijaaYE
import Derived.Test.YtdlgclpoomlijaaYF
import Derived.Test.YtdlgclpoomlijaaYH
set_option maxHeartbeats 8000000
set_option linter.unusedVariables false
set_option linter.unusedSimpArgs false
set_option maxRecDepth 20000
namespace Go.Sx
open Go.Proofs
def zf6 (g : Nat → Nat → Nat) (p m : Nat) (F : (Nat → Nat) → Nat → Nat) : Nat → Nat → Nat := fun i j => if p ≤ i ∧ i < p + m then F (fun t => g t j) (i - p) else g i j
theorem zdn {k : Nat} {off ld : Int} {r c i j r' c' : Nat} (hG : zac k off r c ld) (hi : i + r' ≤ r) (hj : j + c' ≤ c) : zac k (zcy off ld (i : Int) (j : Int) (r' : Int) (c' : Int)) r' c' ld := by
  by_cases h : 0 < r' ∧ 0 < c'
  · rw [← zee h.1 h.2]; exact zdx hG hi hj h.1 h.2
  · obtain ⟨g1, g2, g3, g4, g5, g6⟩ := hG
    unfold zcy; rw [if_neg (by omega)]
    exact ⟨by omega, by omega, g3, g4, by omega, by omega⟩
theorem zfi {k : Nat} {off ld : Int} {r c i j r' c' : Nat} (hI : MI k off r c ld) (hG : zac k off r c ld) (hi : i + r' ≤ r) (hj : j + c' ≤ c) : MI k (zcy off ld (i : Int) (j : Int) (r' : Int) (c' : Int)) r' c' ld := by
  by_cases h : 0 < r' ∧ 0 < c'
  · rw [← zee h.1 h.2]; exact zev hI hG hi hj h.1 h.2
  · obtain ⟨hm, ho1, ho2, hr1, hr2, hc1, hc2, hl1, hl2⟩ := id hI
    unfold zcy; rw [if_neg (by omega)]
    exact ⟨hm, ho1, ho2, by omega, by omega, by omega, by omega, hl1, hl2⟩
theorem zxs {off ld lo hi : Int} {r c i j r' c' : Nat} (h : InS off r c ld lo hi) (hl : 1 ≤ ld) (hi' : i + r' ≤ r) (hj : j + c' ≤ c) : InS (zcy off ld (i : Int) (j : Int) (r' : Int) (c' : Int)) r' c' ld lo hi :=
  h.part hl hi' hj rfl
theorem zfu {off ld : Int} {p m c j : Nat} (hm : 0 < m) (hj : j < c) : zcj (zcy off ld (p : Int) 0 (m : Int) (c : Int)) (m : Int) ld (j : Int) = off + ((p : Int) + (j : Int) * ld) := by
  unfold zcj zcy; rw [if_pos (by omega), if_pos ⟨by omega, by omega⟩]; omega
theorem znu {g : Nat → Nat → Nat} {p m k n : Nat} {F : (Nat → Nat) → Nat → Nat} (i j : Nat) (hi : i < n) : zed (wrC g (zf6 g p m F) k) p m k (F (fun t => wrC g (zf6 g p m F) k t k)) i j = wrC g (zf6 g p m F) (k + 1) i j := by
  have e : (fun t => wrC g (zf6 g p m F) k t k) = fun t => g t k := funext fun t => zvz
  rw [e]
  refine zj7 (n := n) (fun i hi => ?_) i j hi
  unfold zf6; rfl
attribute [local irreducible] Ex zau exD opX opE zdh zfd zfl Spec zaa Fr zdg zbf zbe ckK zcq zda zbo faK zcz ze4 gK fK rK zgd lpX prK
theorem zwu (H : List (List AV)) (b : Nat) (l : List Nat) (hbl : b < H.length) (zo zl : Int) (n c : Nat) (g : Nat → Nat → Nat) : ∃ l', FL (H.set b (fl (zah l zo zl n c g))) (.slm b l.length 0 l.length 1) l' ∧ l'.length = l.length := zyq H b l hbl zo zl n c g
theorem zyd (H : List (List AV)) (b : Nat) (l : List Nat) (hbl : b < H.length) (zo zl : Int) (n c : Nat) (hzI : MI l.length zo n c zl) (hzG : zac l.length zo n c zl) (oz : Int) (p m : Nat) (hpI : MI l.length oz m c zl) (hpG : zac l.length oz m c zl) (kd : Int) (D : AV) (hDm : mx D ≤ H.length) (mo mr mc ld : Int) (F : (Nat → Nat) → Nat → Nat) (hcol : ∀ j g N, j < c → zaa Try.prog 66 [.int .i64 kd, mt D mo mr mc ld, vt (.slm b l.length 0 l.length 1) (zcj oz (m : Int) zl (j : Int)) (m : Int) 1] (H.set b (fl (zah l zo zl n c g)) ++ N) (.int .i64 0) (H.set b (fl (zah l zo zl n c (zed g p m j (F (fun t => g t j))))) ++ N)) (g : Nat → Nat → Nat) :
    zaa Try.prog 46 [.int .i64 kd, mt D mo mr mc ld, mt (.slm b l.length 0 l.length 1) oz (m : Int) (c : Int) zl] (H.set b (fl (zah l zo zl n c g))) (.tup []) (H.set b (fl (zah l zo zl n c (zf6 g p m F)))) := by
  obtain ⟨hm, ho1, ho2, hr1, hr2, hc1, hc2, hl1, hl2⟩ := id hzI
  obtain ⟨pm, po1, po2, pr1, pr2, pc1, pc2, pl1, pl2⟩ := id hpI
  have hsm : ∀ g1 g2 : Nat → Nat → Nat, (∀ i j, i < n → j < c → g1 i j = g2 i j) → (zah l zo zl n c g1) = (zah l zo zl n c g2) := fun g1 g2 h => zam hzG.2.2.2.1 hzG.2.2.1 h
  have hA : (zah l zo zl n c (wrC g (zf6 g p m F) 0)) = (zah l zo zl n c g) := hsm _ _ fun i j _ _ => zhc i j
  have hZ : (zah l zo zl n c (wrC g (zf6 g p m F) c)) = (zah l zo zl n c (zf6 g p m F)) := hsm _ _ fun i j _ hj => zj6 hj
  have hst : ∀ j, j < c → (zah l zo zl n c (zed (wrC g (zf6 g p m F) j) p m j (F (fun t => wrC g (zf6 g p m F) j t j)))) = (zah l zo zl n c (wrC g (zf6 g p m F) (j + 1))) := fun j hj => hsm _ _ fun i j' hi _ => znu i j' hi
  refine .go Try.call46 Try.func46 false [] dOk ?_
  simp only [zbp, Nat.reduceAdd]
  repeat' (first
 |(refine za4 ?_; (first | refine zcm ?_ | refine zay ?_ | fail))
 |(refine za5 ?_; (first | refine m41 ?_ | refine zbj ?_ | refine m14 ?_ | (refine m17 ?_; first | refine m19 ?_ | refine m18 ?_) | (refine m07 ?_; (first | refine m15 ?_ | refine m16 ?_ | fail)) | (refine m00 ?_; (first | refine zbk ((k + 1 : Nat) : Int) (by omega) (by omega) ?_ | refine m47 ?_ | refine m48 ?_ | refine m49 ?_ | refine m50 ?_ | refine v_k ?_ | refine m51 ?_ | fail)) | refine m08 ?_ | refine zao ?_ | refine m01 ?_ | fail))
 |(refine zcv ?_; (first | refine m36 ?_ | refine zct ?_ | fail))
 |(refine zcu ?_; (first | refine zfe ?_ | refine zh6 ?_ | refine zh7 (by (conv => {lhs; whnf}); done) ?_ | refine zh8 ?_ | refine zh5 (by exact rfl) (by exact rfl) ?_ | refine m34 ?_ | refine m35 ?_ | refine m33 ?_ | refine zff ?_ | refine m56 ?_ | refine zcw ?_ | refine zdr (by exact rfl) ?_ | fail))
 |refine za2 ?_ | refine za3 ?_ | refine za1 ?_
 |(refine za6 ?_; (first | refine za0 ?_ | refine zab ?_ | (refine m06 ?_; (first | refine c_T ?_ | refine c_F ?_ | refine c_P ?_ ?_ | refine c_B ?_ ?_ | fail)) | refine zaz ?_ | refine zaq ?_ | refine zai ?_ | refine b_exit ?_ | refine zax (id := 4) [] [5] [(0, .lt), (1, .ld true), (2, .ld true), (3, .lt), (4, .mn true), (5, .mn false)] (by kernel_rfl) ?_ | (refine zbc [0, 4, 5, 8, 9] c (fun k => ⟨[(0, .val (.int .i64 kd)), (4, .loc 4 0), (5, .loc 5 0), (8, .val (.int .i64 ((c : Nat) : Int))), (9, .val (.int .i64 ((k : Nat) : Int)))], [(4, [D, .int .i64 mo, .int .i64 mr, .int .i64 mc, .int .i64 ld]), (5, [(.slm b l.length 0 l.length 1), .int .i64 oz, .int .i64 (m : Int), .int .i64 (c : Int), .int .i64 zl])], H.set b (fl (zah l zo zl n c (wrC g (zf6 g p m F) k))) ++ []⟩) (by simp only [hA]; exact rfl) ?_ ?_ <;> (first | intro k hk K hK | intro K) <;> (try dsimp only at *)) | fail))
 |refine m21 ?_
 |refine zbb ?_
 |(refine zbd ?_; (first | refine cA (zgk _ _ (.slm b l.length 0 l.length 1) l.length oz zl m c hpI hpG (zwu H b l hbl zo zl n c _) k (by omega)) ?_ | refine c_call (hcol k _ [] (by omega)) (za7.set2 hbl (by simp) (by rw [zbs]; omega)) ?_ | fail))
 |refine zbz ?_ | refine zb0 ?_ | refine zby ?_ | refine m57 ?_
 |refine zfn ?_ | refine zfo ?_ | refine zfm ?_
 |(refine zfp (by exact rfl) ?_; first | exact hK | (rw [hst k (by omega)]; exact hK) | (exfalso; first | omega | (simp_all; done) | (simp_all; omega)))
 |refine m05 ?_
 |refine m04 ?_ | refine m02 ?_ | refine m03 ?_ | refine zar ?_
 |intro _)
  all_goals first
    | (exfalso; contradiction)
    | (exfalso; omega)
    | (refine zan (by simp) (by simp [mx, mxL, zaf, aOf, zb1]) ?_; exact rfl)
    | (rw [← hZ]; refine zan (by simp) (by simp [mx, mxL, zaf, aOf, zb1]) ?_; exact rfl)
theorem zye (H : List (List AV)) (b : Nat) (l : List Nat) (hbl : b < H.length) (zo zl : Int) (n c : Nat) (hzI : MI l.length zo n c zl) (hzG : zac l.length zo n c zl) (oz : Int) (p m : Nat) (hpI : MI l.length oz m c zl) (hpG : zac l.length oz m c zl) (oy : Int) (w : Nat) (hyI : MI l.length oy w c zl) (hyG : zac l.length oy w c zl) (D : AV) (hDm : mx D ≤ H.length) (mo mr mc ld : Int) (F : (Nat → Nat) → Nat → Nat) (hcol : ∀ j g N, j < c → zaa Try.prog 60 [.flt 13830554455654793216, mt D mo mr mc ld, vt (.slm b l.length 0 l.length 1) (zcj oy (w : Int) zl (j : Int)) (w : Int) 1, .flt 4607182418800017408, vt (.slm b l.length 0 l.length 1) (zcj oz (m : Int) zl (j : Int)) (m : Int) 1] (H.set b (fl (zah l zo zl n c g)) ++ N) (.int .i64 0) (H.set b (fl (zah l zo zl n c (zed g p m j (F (fun t => g t j))))) ++ N)) (g : Nat → Nat → Nat) :
    zaa Try.prog 47 [mt D mo mr mc ld, mt (.slm b l.length 0 l.length 1) oy (w : Int) (c : Int) zl, mt (.slm b l.length 0 l.length 1) oz (m : Int) (c : Int) zl] (H.set b (fl (zah l zo zl n c g))) (.tup []) (H.set b (fl (zah l zo zl n c (zf6 g p m F)))) := by
  obtain ⟨hm, ho1, ho2, hr1, hr2, hc1, hc2, hl1, hl2⟩ := id hzI
  obtain ⟨pm, po1, po2, pr1, pr2, pc1, pc2, pl1, pl2⟩ := id hpI
  have hsm : ∀ g1 g2 : Nat → Nat → Nat, (∀ i j, i < n → j < c → g1 i j = g2 i j) → (zah l zo zl n c g1) = (zah l zo zl n c g2) := fun g1 g2 h => zam hzG.2.2.2.1 hzG.2.2.1 h
  have hA : (zah l zo zl n c (wrC g (zf6 g p m F) 0)) = (zah l zo zl n c g) := hsm _ _ fun i j _ _ => zhc i j
  have hZ : (zah l zo zl n c (wrC g (zf6 g p m F) c)) = (zah l zo zl n c (zf6 g p m F)) := hsm _ _ fun i j _ hj => zj6 hj
  have hst : ∀ j, j < c → (zah l zo zl n c (zed (wrC g (zf6 g p m F) j) p m j (F (fun t => wrC g (zf6 g p m F) j t j)))) = (zah l zo zl n c (wrC g (zf6 g p m F) (j + 1))) := fun j hj => hsm _ _ fun i j' hi _ => znu i j' hi
  have hm1 : cn 13830554455654793216 = 13830554455654793216 := (by decide)
  have hm2 : cn 4607182418800017408 = 4607182418800017408 := (by decide)
  refine .go Try.call47 Try.func47 false [] dOk ?_
  simp only [zbp, Nat.reduceAdd]
  repeat' (first
 |(refine za4 ?_; (first | refine zcm ?_ | refine zay ?_ | fail))
 |(refine za5 ?_; (first | refine m41 ?_ | refine zbj ?_ | refine m14 ?_ | (refine m17 ?_; first | refine m19 ?_ | refine m18 ?_) | (refine m07 ?_; (first | refine m15 ?_ | refine m16 ?_ | fail)) | (refine m00 ?_; (first | refine zbk ((k + 1 : Nat) : Int) (by omega) (by omega) ?_ | refine m47 ?_ | refine m48 ?_ | refine m49 ?_ | refine m50 ?_ | refine v_k ?_ | refine m51 ?_ | fail)) | refine m08 ?_ | refine zao ?_ | refine m01 ?_ | fail))
 |(refine zcv ?_; (first | refine m36 ?_ | refine zct ?_ | fail))
 |(refine zcu ?_; (first | refine zfe ?_ | refine zh6 ?_ | refine zh7 (by (conv => {lhs; whnf}); done) ?_ | refine zh8 ?_ | refine zh5 (by exact rfl) (by exact rfl) ?_ | refine m34 ?_ | refine m35 ?_ | refine m33 ?_ | refine zff ?_ | refine m56 ?_ | refine zcw ?_ | refine zdr (by exact rfl) ?_ | fail))
 |refine za2 ?_ | refine za3 ?_ | refine za1 ?_
 |(refine za6 ?_; (first | refine za0 ?_ | refine zab ?_ | (refine m06 ?_; (first | refine c_T ?_ | refine c_F ?_ | refine c_P ?_ ?_ | refine c_B ?_ ?_ | fail)) | refine zaz ?_ | refine zaq ?_ | refine zai ?_ | refine b_exit ?_ | refine zax (id := 4) [] [7] [(0, .ld true), (1, .ld true), (2, .lt), (4, .ld true), (5, .lt), (3, .mn true), (6, .mn true), (7, .mn false)] (by kernel_rfl) ?_ | (refine zbc [3, 4, 5, 8, 9] c (fun k => ⟨[(3, .loc 3 0), (4, .loc 4 0), (5, .loc 5 0), (8, .val (.int .i64 ((c : Nat) : Int))), (9, .val (.int .i64 ((k : Nat) : Int)))], [(3, [D, .int .i64 mo, .int .i64 mr, .int .i64 mc, .int .i64 ld]), (4, [(.slm b l.length 0 l.length 1), .int .i64 oy, .int .i64 (w : Int), .int .i64 (c : Int), .int .i64 zl]), (5, [(.slm b l.length 0 l.length 1), .int .i64 oz, .int .i64 (m : Int), .int .i64 (c : Int), .int .i64 zl])], H.set b (fl (zah l zo zl n c (wrC g (zf6 g p m F) k))) ++ []⟩) (by simp only [hA]; exact rfl) ?_ ?_ <;> (first | intro k hk K hK | intro K) <;> (try dsimp only at *)) | fail))
 |refine m43 ?_
 |refine zcs ?_
 |refine m21 ?_
 |refine zbb ?_
 |(refine zbd ?_; (first | refine cA (zgk _ _ (.slm b l.length 0 l.length 1) l.length oz zl m c hpI hpG (zwu H b l hbl zo zl n c _) k (by omega)) ?_ | refine cA (zgk _ _ (.slm b l.length 0 l.length 1) l.length oy zl w c hyI hyG (zwu H b l hbl zo zl n c _) k (by omega)) ?_ | refine c_call (hcol k _ [] (by omega)) (za7.set2 hbl (by simp) (by rw [zbs]; omega)) ?_ | fail))
 |refine zbz ?_ | refine zb0 ?_ | refine zby ?_ | refine m57 ?_
 |refine zfn ?_ | refine zfo ?_ | refine zfm ?_
 |(refine zfp (by exact rfl) ?_; first | exact hK | (rw [hst k (by omega)]; exact hK) | (exfalso; first | omega | (simp_all; done) | (simp_all; omega)))
 |refine m05 ?_
 |refine m04 ?_ | refine m02 ?_ | refine m03 ?_ | refine zar ?_
 |intro _)
  all_goals first
    | (exfalso; contradiction)
    | (exfalso; omega)
    | (refine zan (by simp) (by simp [mx, mxL, zaf, aOf, zb1]) ?_; exact rfl)
    | (rw [← hZ]; refine zan (by simp) (by simp [mx, mxL, zaf, aOf, zb1]) ?_; exact rfl)
theorem zjx {k : Nat} {off ld : Int} {n c p m j : Nat} (hI : MI k off n c ld) (hG : zac k off n c ld) (hp : p + m ≤ n) (hj : j < c) (hm0 : 0 < m) : VI k (off + ((p : Int) + (j : Int) * ld)) m 1 := by
  obtain ⟨hm, ho1, ho2, hr1, hr2, hc1, hc2, hl1, hl2⟩ := id hI
  have h2 := zak hG (i := (p : Int)) (j := (j : Int)) (by omega) (by omega) (by omega) (by omega)
  exact ⟨hm, by omega, by omega, by omega, by omega, by omega, by omega⟩
theorem zra {off ld lo hi : Int} {n c p m j : Nat} (h : InS off n c ld lo hi) (hl : 1 ≤ ld) (hp : p + m ≤ n) (hj : j < c) (hm0 : 0 < m) : InS (off + ((p : Int) + (j : Int) * ld)) 1 m 1 lo hi := by
  have h1 := (zxs (i := p) (j := 0) (r' := m) (c' := c) h hl hp (by omega)).col hl hj
  have e := zfu (off := off) (ld := ld) (p := p) hm0 hj
  rw [show ((0 : Nat) : Int) = 0 from rfl, e] at h1
  exact h1
theorem znp {H : List (List AV)} {D : AV} {m : Nat} (h : ∃ l', FL H D l' ∧ l'.length = m) : slen D = some m := by
  obtain ⟨l', h1, h2⟩ := h
  rw [← h2]; exact h1.len
theorem z1i (H : List (List AV)) (b : Nat) (l : List Nat) (hbl : b < H.length) (zo zl : Int) (n c : Nat) (hzI : MI l.length zo n c zl) (hzG : zac l.length zo n c zl) (D : AV) (hD : mx D ≤ H.length) (ml : Nat) (mo ld : Int) (hI : MI ml mo n n ld) (hG : zac ml mo n n ld) (a : Nat → Nat → Nat) (hrd : ∀ g, ∃ l', FL (H.set b (fl (zah l zo zl n c g))) D l' ∧ l'.length = ml ∧ ∀ i j, i < n → j < n → mel l' mo ld i j = a i j) (pd : Bool) (hpd : ∀ g N, 0 < l.length → 0 < ml → ptrEq (H.set b (fl (zah l zo zl n c g)) ++ N) (.slm b l.length 0 l.length 1) 0 D 0 = some pd) (lo hi lod hid : Int) (hin : InS zo n c zl lo hi) (hind : InS mo n n ld lod hid) (hfd : zfk pd lo hi lod hid) (p m : Nat) (hp : p + m ≤ n) (hm0 : 0 < m) (g : Nat → Nat → Nat) (N : List (List AV)) (j : Nat) (hj : j < c) :
    zaa Try.prog 66 [.int .i64 1, mt D (zcy mo ld (p : Int) (p : Int) (m : Int) (m : Int)) (m : Int) (m : Int) ld, vt (.slm b l.length 0 l.length 1) (zcj (zcy zo zl (p : Int) 0 (m : Int) (c : Int)) (m : Int) zl (j : Int)) (m : Int) 1] (H.set b (fl (zah l zo zl n c g)) ++ N) (.int .i64 0) (H.set b (fl (zah l zo zl n c (zed g p m j (lo1 (fun s t => a (p + s) (p + t)) (fun t => g (p + t) j) m)))) ++ N) := by
  rw [zfu hm0 hj, ← zee hm0 hm0]
  have hst : ∀ f, (H ++ N).set b (fl (zaw (zah l zo zl n c g) (zo + ((p : Int) + (j : Int) * zl)) 1 m f)) = H.set b (fl (zah l zo zl n c (zed g p m j f))) ++ N := fun f => by rw [za9 hbl, zh0 hzG hp hj hm0]
  have hlen : (zah l zo zl n c g).length = l.length := by simp
  have hI1 := zjx hzI hzG hp hj hm0
  have hR1 := zec hzG hp hj hm0
  have h := z1m (H ++ N) b (zah l zo zl n c g) (by simp; omega) (zo + ((p : Int) + (j : Int) * zl)) 1 m (by rw [hlen]; exact hI1) (by rw [hlen]; exact hR1) D (by simp; omega) ml (mo + ((p : Int) + (p : Int) * ld)) ld (zev hI hG hp hp hm0 hm0) (zdx hG hp hp hm0 hm0) (fun s t => a (p + s) (p + t))
    (fun f => by
      rw [hst]; obtain ⟨l', h1, h2, h3⟩ := hrd (zed g p m j f)
      exact ⟨l', h1.app N, h2, fun s t hs ht => by rw [zfz]; exact h3 _ _ (by omega) (by omega)⟩)
    (fun f N' => by
      rw [hst, hlen, List.append_assoc]
      exact zdm _ _ l.length _ 1 m 1 rfl hI1.mat D ml _ m m ld (znp ((hrd g).imp fun l' h => ⟨h.1, h.2.1⟩)) (zev hI hG hp hp hm0 hm0) pd (hpd _ _) (zra hin hzG.2.2.2.1 hp hj hm0) (hind.part hG.2.2.2.1 hp hp (by rw [if_pos ⟨by omega, by omega⟩])) hfd (by omega)) (fun t => g (p + t) j)
  rw [hst, hst, hlen, zam (g := zed g p m j (fun t => g (p + t) j)) (g' := g) hzG.2.2.2.1 hzG.2.2.1 (fun i k hi _ => by unfold zed; split; rename_i h9; show g (p + (i - p)) j = _; rw [h9.1, show p + (i - p) = i by omega]; rfl)] at h
  exact h
def lsF (a : Nat → Nat → Nat) (r0 p w : Nat) (f : Nat → Nat) (i : Nat) : Nat := gmS 13830554455654793216 (fun t => a (r0 + i) (p + t)) (fun t => f (p + t)) (gmB 4607182418800017408 (f (r0 + i))) w
theorem zxg (H : List (List AV)) (b : Nat) (l : List Nat) (hbl : b < H.length) (zo zl : Int) (n c : Nat) (hzI : MI l.length zo n c zl) (hzG : zac l.length zo n c zl) (D : AV) (hD : mx D ≤ H.length) (ml : Nat) (mo ld : Int) (hI : MI ml mo n n ld) (hG : zac ml mo n n ld) (a : Nat → Nat → Nat) (hrd : ∀ g, ∃ l', FL (H.set b (fl (zah l zo zl n c g))) D l' ∧ l'.length = ml ∧ ∀ i j, i < n → j < n → mel l' mo ld i j = a i j) (pd : Bool) (hpd : ∀ g N, 0 < l.length → 0 < ml → ptrEq (H.set b (fl (zah l zo zl n c g)) ++ N) (.slm b l.length 0 l.length 1) 0 D 0 = some pd) (lo hi lod hid : Int) (hin : InS zo n c zl lo hi) (hind : InS mo n n ld lod hid) (hfd : zfk pd lo hi lod hid) (p w r0 m : Nat) (hp : p + w ≤ n) (hw0 : 0 < w) (hr : r0 + m ≤ n) (hdj : p + w ≤ r0 ∨ r0 + m ≤ p) (g : Nat → Nat → Nat) (N : List (List AV)) (j : Nat) (hj : j < c) :
    zaa Try.prog 60 [.flt 13830554455654793216, mt D (zcy mo ld (r0 : Int) (p : Int) (m : Int) (w : Int)) (m : Int) (w : Int) ld, vt (.slm b l.length 0 l.length 1) (zcj (zcy zo zl (p : Int) 0 (w : Int) (c : Int)) (w : Int) zl (j : Int)) (w : Int) 1, .flt 4607182418800017408, vt (.slm b l.length 0 l.length 1) (zcj (zcy zo zl (r0 : Int) 0 (m : Int) (c : Int)) (m : Int) zl (j : Int)) (m : Int) 1] (H.set b (fl (zah l zo zl n c g)) ++ N) (.int .i64 0) (H.set b (fl (zah l zo zl n c (zed g r0 m j (lsF a r0 p w (fun t => g t j))))) ++ N) := by
  have hlen : (zah l zo zl n c g).length = l.length := by simp
  have hDl := znp ((hrd g).imp fun l' h => ⟨h.1, h.2.1⟩)
  rw [zfu hw0 hj]
  rcases Nat.eq_zero_or_pos m with h0 | hm0
  · subst h0
    have e1 : zcj (zcy zo zl (r0 : Int) 0 ((0 : Nat) : Int) (c : Int)) ((0 : Nat) : Int) zl (j : Int) = zo := by unfold zcj zcy; rw [if_neg (by omega), if_neg (by omega)]
    have e2 : zcy mo ld (r0 : Int) (p : Int) ((0 : Nat) : Int) (w : Int) = mo := by unfold zcy; rw [if_neg (by omega)]
    rw [e1, e2]
    have hR0 : zal l.length zo ((0 : Nat) : Int) 1 := ⟨by omega, by omega, hzG.2.2.1, .inl rfl⟩
    obtain ⟨zm, zo1, zo2, zr1, zr2, zc1, zc2, zl1, zl2⟩ := id hzI
    have hI0 : VI l.length zo ((0 : Nat) : Int) 1 := ⟨zm, zo1, zo2, by omega, by omega, by omega, by omega⟩
    have hst : ∀ f, (H ++ N).set b (fl (zaw (zah l zo zl n c g) zo 1 0 f)) = H.set b (fl (zah l zo zl n c g)) ++ N := fun f => by
      rw [za9 hbl]; congr 3
      have := zrv (l := zah l zo zl n c g) (off := zo) (inc := 1) (n := 0) hzG.2.2.1 (by omega)
      exact (zam (by omega) hzG.2.2.1 (fun i k _ hk => absurd hk (Nat.not_lt_zero k))).trans this
    have hI1 := zjx hzI hzG hp hj hw0
    have hR1 := zec hzG hp hj hw0
    obtain ⟨mm, mo1, mo2, mr1, mr2, mc1, mc2, ml1, ml2⟩ := id hI
    obtain ⟨gg1, gg2, gg3, gg4, gg5, gg6⟩ := id hG
    have hM0 : MI ml mo ((0 : Nat) : Int) (w : Int) ld := ⟨mm, mo1, mo2, by omega, by omega, by omega, by omega, ml1, ml2⟩
    have h := zqe (H ++ N) b (zah l zo zl n c g) (by simp; omega) zo 1 0 (by rw [hlen]; exact hI0) (by rw [hlen]; exact hR0) D (by simp; omega) ml mo ld w hM0 ⟨by omega, by omega, gg3, gg4, by omega, .inl rfl⟩ (fun _ _ => 0)
      (fun f => by rw [hst]; obtain ⟨l', h1, h2, _⟩ := hrd g; exact ⟨l', h1.app N, h2, fun i _ hi _ => absurd hi (Nat.not_lt_zero i)⟩)
      (.slm b l.length 0 l.length 1) (by simp [mx]; omega) l.length (zo + ((p : Int) + (j : Int) * zl)) 1 hI1 hR1 (fun t => g (p + t) j)
      (fun f => by
        rw [hst]; obtain ⟨l', h1, h2⟩ := zwu H b l hbl zo zl n c g
        exact ⟨zah l zo zl n c g, FL.set hbl (by simp) (by simp), by simp, fun t ht => zsd hzG hp hj ht⟩)
      (fun f N' => by
        rw [hst, hlen, List.append_assoc]
        exact zdm _ _ l.length zo 1 0 1 rfl hI0.mat D ml mo 0 w ld hDl hM0 pd (hpd _ _) (.inr (.inl rfl)) (.inl rfl) (lo := lo) (hi := hi) (lo1 := lod) (hi1 := hid) hfd (by omega))
      (fun f N' => by
        rw [hst, hlen, List.append_assoc]
        exact zdm _ _ l.length zo 1 0 1 rfl hI0.mat (.slm b l.length 0 l.length 1) l.length (zo + ((p : Int) + (j : Int) * zl)) 1 w 1 rfl hI1.mat true (fun _ _ => zj0 (ze8 hbl) (by simp)) (.inr (.inl rfl)) (lo := 0) (hi := -1) (.inr (.inr ⟨Int.le_refl _, Int.le_refl _⟩)) (fun _ => .inl (by have := zbv hR1 (i := 0) (by omega) (by omega); omega)) (by omega))
      13830554455654793216 4607182418800017408 (fun t => g (r0 + t) j)
    rw [hst, hst, hlen] at h
    rw [zam (g := zed g r0 0 j (lsF a r0 p w (fun t => g t j))) (g' := g) hzG.2.2.2.1 hzG.2.2.1 (fun i k _ _ => by unfold zed; rw [if_neg (by omega)])]
    exact h
  · rw [zfu hm0 hj, ← zee hm0 hw0]
    have hst : ∀ f, (H ++ N).set b (fl (zaw (zah l zo zl n c g) (zo + ((r0 : Int) + (j : Int) * zl)) 1 m f)) = H.set b (fl (zah l zo zl n c (zed g r0 m j f))) ++ N := fun f => by rw [za9 hbl, zh0 hzG hr hj hm0]
    have hI1 := zjx hzI hzG hr hj hm0
    have hR1 := zec hzG hr hj hm0
    have hI2 := zjx hzI hzG hp hj hw0
    have hR2 := zec hzG hp hj hw0
    have h := zqe (H ++ N) b (zah l zo zl n c g) (by simp; omega) (zo + ((r0 : Int) + (j : Int) * zl)) 1 m (by rw [hlen]; exact hI1) (by rw [hlen]; exact hR1) D (by simp; omega) ml (mo + ((r0 : Int) + (p : Int) * ld)) ld w (zev hI hG hr hp hm0 hw0) (zdx hG hr hp hm0 hw0) (fun i t => a (r0 + i) (p + t))
      (fun f => by
        rw [hst]; obtain ⟨l', h1, h2, h3⟩ := hrd (zed g r0 m j f)
        exact ⟨l', h1.app N, h2, fun s t hs ht => by rw [zfz]; exact h3 _ _ (by omega) (by omega)⟩)
      (.slm b l.length 0 l.length 1) (by simp [mx]; omega) l.length (zo + ((p : Int) + (j : Int) * zl)) 1 hI2 hR2 (fun t => g (p + t) j)
      (fun f => by
        rw [hst]
        refine ⟨zah l zo zl n c (zed g r0 m j f), FL.set hbl (by simp) (by simp), by simp, fun t ht => ?_⟩
        rw [zsd hzG hp hj ht]; unfold zed; rw [if_neg (by omega)])
      (fun f N' => by
        rw [hst, hlen, List.append_assoc]
        exact zdm _ _ l.length _ 1 m 1 rfl hI1.mat D ml _ m w ld hDl (zev hI hG hr hp hm0 hw0) pd (hpd _ _) (zra hin hzG.2.2.2.1 hr hj hm0) (hind.part hG.2.2.2.1 hr hp (by rw [if_pos ⟨by omega, by omega⟩])) hfd (by omega))
      (fun f N' => by
        rw [hst, hlen, List.append_assoc]
        exact zdm _ _ l.length (zo + ((r0 : Int) + (j : Int) * zl)) 1 m 1 rfl hI1.mat (.slm b l.length 0 l.length 1) l.length (zo + ((p : Int) + (j : Int) * zl)) 1 w 1 rfl hI2.mat true (fun _ _ => zj0 (ze8 hbl) (by simp)) (.inr (.inr ⟨Int.le_refl _, Int.le_refl _⟩)) (.inr (.inr ⟨Int.le_refl _, Int.le_refl _⟩)) (fun _ => by rcases hdj with h9 | h9 <;> omega) (by omega))
      13830554455654793216 4607182418800017408 (fun t => g (r0 + t) j)
    rw [hst, hst, hlen, zam (g := zed g r0 m j (fun t => g (r0 + t) j)) (g' := g) hzG.2.2.2.1 hzG.2.2.1 (fun i k hi _ => by unfold zed; split; rename_i h9; show g (r0 + (i - r0)) j = _; rw [h9.1, show r0 + (i - r0) = i by omega]; rfl)] at h
    exact h
end Go.Sx
set_option linter.unusedVariables false
set_option linter.unusedSimpArgs false
set_option maxRecDepth 20000
namespace Go.Sx
open Go.Proofs
theorem z4m (H N : List (List AV)) (D : AV) (ml : Nat) (mo ld : Int) (n : Nat) (hI : MI ml mo n n ld) (hG : zac ml mo n n ld) (a : Nat → Nat → Nat) (h : ∃ l', FL H D l' ∧ l'.length = ml ∧ ∀ i j, i < n → j < n → mel l' mo ld i j = a i j) (i j : Nat) (hi : i < n) (hj : j < n) :
    zaa Try.prog 65 [mt D mo (n : Int) (n : Int) ld, .int .i64 (i : Int), .int .i64 (j : Int)] (H ++ N) (.flt (a i j)) (H ++ N) := by
  obtain ⟨l', h1, h2, h3⟩ := h
  subst h2
  exact z1w _ D l' (h1.app N) mo ld n hI hG i j hi hj _ (h3 i j hi hj)
theorem zvt (H N : List (List AV)) (D : AV) (k : Nat) (off ld : Int) (r c : Nat) (hI : MI k off r c ld) (hG : zac k off r c ld) (h : ∃ l', FL H D l' ∧ l'.length = k) (i r' : Nat) (hi : i + r' ≤ r) :
    zaa Try.prog 33 [mt D off (r : Int) (c : Int) ld, .int .i64 (i : Int), .int .i64 0, .int .i64 (r' : Int), .int .i64 (c : Int)] (H ++ N) (mt D (zcy off ld (i : Int) 0 (r' : Int) (c : Int)) (r' : Int) (c : Int) ld) (H ++ N) := by
  obtain ⟨l', h1, h2⟩ := h
  subst h2
  exact zk5 _ D l' (h1.app N) off r c ld hI hG i 0 r' c (by omega) (by omega) (by omega) (by omega) (by omega) (by omega)
theorem zwk (H : List (List AV)) (b : Nat) (l : List Nat) (hbl : b < H.length) (zo zl : Int) (n c : Nat) (hzI : MI l.length zo n c zl) (hzG : zac l.length zo n c zl) (D : AV) (hD : mx D ≤ H.length) (ml : Nat) (mo ld : Int) (hI : MI ml mo n n ld) (hG : zac ml mo n n ld) (a : Nat → Nat → Nat) (hrd : ∀ g, ∃ l', FL (H.set b (fl (zah l zo zl n c g))) D l' ∧ l'.length = ml ∧ ∀ i j, i < n → j < n → mel l' mo ld i j = a i j) (pd : Bool) (hpd : ∀ g N, 0 < l.length → 0 < ml → ptrEq (H.set b (fl (zah l zo zl n c g)) ++ N) (.slm b l.length 0 l.length 1) 0 D 0 = some pd) (lo hi lod hid : Int) (hin : InS zo n c zl lo hi) (hind : InS mo n n ld lod hid) (hfd : zfk pd lo hi lod hid) (p m : Nat) (hp : p + m ≤ n) (hm0 : 0 < m) (g g' : Nat → Nat → Nat) (hg : ∀ i j, i < n → j < c → zf6 g p m (fun f => lo1 (fun s t => a (p + s) (p + t)) (fun t => f (p + t)) m) i j = g' i j) (N : List (List AV)) :
    zaa Try.prog 46 [.int .i64 1, mt D (zcy mo ld (p : Int) (p : Int) (m : Int) (m : Int)) (m : Int) (m : Int) ld, mt (.slm b l.length 0 l.length 1) (zcy zo zl (p : Int) 0 (m : Int) (c : Int)) (m : Int) (c : Int) zl] (H.set b (fl (zah l zo zl n c g)) ++ N) (.tup []) (H.set b (fl (zah l zo zl n c g')) ++ N) := by
  have hs : ∀ Z, (H ++ N).set b Z = H.set b Z ++ N := fun Z => za9 hbl
  have h := zyd (H ++ N) b l (by simp; omega) zo zl n c hzI hzG (zcy zo zl (p : Int) 0 (m : Int) (c : Int)) p m (zfi (j := 0) hzI hzG hp (by omega)) (zdn (j := 0) hzG hp (by omega)) 1 D (by simp; omega) (zcy mo ld (p : Int) (p : Int) (m : Int) (m : Int)) (m : Int) (m : Int) ld (fun f => lo1 (fun s t => a (p + s) (p + t)) (fun t => f (p + t)) m)
    (fun j g N' hj => by rw [hs, hs, List.append_assoc, List.append_assoc]; exact z1i H b l hbl zo zl n c hzI hzG D hD ml mo ld hI hG a hrd pd hpd lo hi lod hid hin hind hfd p m hp hm0 g (N ++ N') j hj) g
  rw [hs, hs, zam hzG.2.2.2.1 hzG.2.2.1 hg] at h
  exact h
theorem z0l (H : List (List AV)) (b : Nat) (l : List Nat) (hbl : b < H.length) (zo zl : Int) (n c : Nat) (hzI : MI l.length zo n c zl) (hzG : zac l.length zo n c zl) (D : AV) (hD : mx D ≤ H.length) (ml : Nat) (mo ld : Int) (hI : MI ml mo n n ld) (hG : zac ml mo n n ld) (a : Nat → Nat → Nat) (hrd : ∀ g, ∃ l', FL (H.set b (fl (zah l zo zl n c g))) D l' ∧ l'.length = ml ∧ ∀ i j, i < n → j < n → mel l' mo ld i j = a i j) (pd : Bool) (hpd : ∀ g N, 0 < l.length → 0 < ml → ptrEq (H.set b (fl (zah l zo zl n c g)) ++ N) (.slm b l.length 0 l.length 1) 0 D 0 = some pd) (lo hi lod hid : Int) (hin : InS zo n c zl lo hi) (hind : InS mo n n ld lod hid) (hfd : zfk pd lo hi lod hid) (p w r0 m : Nat) (hp : p + w ≤ n) (hw0 : 0 < w) (hr : r0 + m ≤ n) (hdj : p + w ≤ r0 ∨ r0 + m ≤ p) (g g' : Nat → Nat → Nat) (hg : ∀ i j, i < n → j < c → zf6 g r0 m (lsF a r0 p w) i j = g' i j) (N : List (List AV)) :
    zaa Try.prog 47 [mt D (zcy mo ld (r0 : Int) (p : Int) (m : Int) (w : Int)) (m : Int) (w : Int) ld, mt (.slm b l.length 0 l.length 1) (zcy zo zl (p : Int) 0 (w : Int) (c : Int)) (w : Int) (c : Int) zl, mt (.slm b l.length 0 l.length 1) (zcy zo zl (r0 : Int) 0 (m : Int) (c : Int)) (m : Int) (c : Int) zl] (H.set b (fl (zah l zo zl n c g)) ++ N) (.tup []) (H.set b (fl (zah l zo zl n c g')) ++ N) := by
  have hs : ∀ Z, (H ++ N).set b Z = H.set b Z ++ N := fun Z => za9 hbl
  have h := zye (H ++ N) b l (by simp; omega) zo zl n c hzI hzG (zcy zo zl (r0 : Int) 0 (m : Int) (c : Int)) r0 m (zfi (j := 0) hzI hzG hr (by omega)) (zdn (j := 0) hzG hr (by omega)) (zcy zo zl (p : Int) 0 (w : Int) (c : Int)) w (zfi (j := 0) hzI hzG hp (by omega)) (zdn (j := 0) hzG hp (by omega)) D (by simp; omega) (zcy mo ld (r0 : Int) (p : Int) (m : Int) (w : Int)) (m : Int) (w : Int) ld (lsF a r0 p w)
    (fun j g N' hj => by rw [hs, hs, List.append_assoc, List.append_assoc]; exact zxg H b l hbl zo zl n c hzI hzG D hD ml mo ld hI hG a hrd pd hpd lo hi lod hid hin hind hfd p w r0 m hp hw0 hr hdj g (N ++ N') j hj) g
  rw [hs, hs, zam hzG.2.2.2.1 hzG.2.2.1 hg] at h
  exact h
theorem zxd (a x : Nat → Nat → Nat) (p m i j : Nat) : zf6 (loX a x p) p m (fun f => lo1 (fun s t => a (p + s) (p + t)) (fun t => f (p + t)) m) i j = loA a x p m i j := by
  rw [z0m]; unfold zf6; rfl
theorem zxe (a x : Nat → Nat → Nat) (hx : ∀ i j, Can (x i j)) (p m n i j : Nat) (hi : i < n) (hp : p + m ≤ n) : zf6 (loA a x p m) (p + m) (n - (p + m)) (lsF a (p + m) p m) i j = loX a x (p + m) i j := by
  rw [zvo a x hx p m n i j hi hp]
  unfold zf6
  split
  · rename_i h
    unfold lsF
    rw [show p + m + (i - (p + m)) = i by omega]; rfl
  · rfl
attribute [local irreducible] Ex zau exD opX opE zdh zfd zfl Spec zaa Fr zdg zbf zbe ckK zcq zda zbo faK zcz ze4 gK fK rK zgd lpX prK
theorem z6c {x : Nat} (h1 : feq x 0 = false) (h2 : feq x (cn 0) = true) : False := by
  rw [show cn 0 = 0 from by decide, h1] at h2; cases h2
theorem z1g (H : List (List AV)) (b : Nat) (l : List Nat) (hbl : b < H.length) (zo zl : Int) (n c : Nat) (hzI : MI l.length zo n c zl) (hzG : zac l.length zo n c zl) (D : AV) (hD : mx D ≤ H.length) (ml : Nat) (mo ld : Int) (hI : MI ml mo n n ld) (hG : zac ml mo n n ld) (a : Nat → Nat → Nat) (hrd : ∀ g, ∃ l', FL (H.set b (fl (zah l zo zl n c g))) D l' ∧ l'.length = ml ∧ ∀ i j, i < n → j < n → mel l' mo ld i j = a i j) (pd : Bool) (hpd : ∀ g N, 0 < l.length → 0 < ml → ptrEq (H.set b (fl (zah l zo zl n c g)) ++ N) (.slm b l.length 0 l.length 1) 0 D 0 = some pd) (lo hi lod hid : Int) (hin : InS zo n c zl lo hi) (hind : InS mo n n ld lod hid) (hfd : zfk pd lo hi lod hid) (kd size : Int) (hk1 : 1 ≤ kd) (hk2 : kd ≤ 2) (hs : 1 ≤ size) (hz : kd = 2 → ∀ k, k < n → feq (a k k) 0 = false) (g : Nat → Nat → Nat) :
    zaa Try.prog 44 [.int .i64 kd, .int .i64 size, mt D mo (n : Int) (n : Int) ld, mt (.slm b l.length 0 l.length 1) zo (n : Int) (c : Int) zl] (H.set b (fl (zah l zo zl n c g))) (.int .i64 0) (H.set b (fl (zah l zo zl n c g))) := by
  obtain ⟨hm, ho1, ho2, hr1, hr2, hc1, hc2, hl1, hl2⟩ := id hzI
  obtain ⟨dm, do1, do2, dr1, dr2, dc1, dc2, dl1, dl2⟩ := id hI
  have hDl := znp ((hrd g).imp fun l' h => ⟨h.1, h.2.1⟩)
  refine .go Try.call44 Try.func44 false [] dOk ?_
  simp only [zbp, Nat.reduceAdd]
  repeat' (first
 |(refine za4 ?_; (first | refine zcm ?_ | refine zay ?_ | refine m13 ?_ | refine m12 ?_ | refine m11 ?_ | (refine m10 ?_; (first | refine zci ?_ | refine zcd ?_ | refine zch ?_ | refine zce ?_ | refine zcg ?_ ?_ | refine zcf ?_ ?_ | refine zcc ?_ ?_ | refine zcb ?_ ?_ | fail)) | (refine m09 ?_; (first | refine zci ?_ | refine zcd ?_ | refine zch ?_ | refine zce ?_ | refine zcg ?_ ?_ | refine zcf ?_ ?_ | refine zcc ?_ ?_ | refine zcb ?_ ?_ | fail)) | refine m38 ?_ | fail))
 |(refine za5 ?_; (first | refine m41 ?_ | refine zbj ?_ | refine m14 ?_ | (refine m17 ?_; first | refine m19 ?_ | refine m18 ?_) | (refine m07 ?_; (first | refine m15 ?_ | refine m16 ?_ | fail)) | (refine m45 ?_; (first | refine zbk ((k + 1 : Nat) : Int) (by omega) (by omega) ?_ | refine zeg (by exact rfl) ?_ | refine v_k ?_ | fail)) | (refine m00 ?_; (first | refine zbk ((k + 1 : Nat) : Int) (by omega) (by omega) ?_ | refine m52 ?_ | refine m53 ?_ | refine zgv ?_ | refine m54 ?_ | refine m55 ?_ | refine zck ?_ | refine m47 ?_ | refine m48 ?_ | refine m49 ?_ | refine m50 ?_ | refine zdk ?_ | refine zdi ?_ | refine zdj ?_ | refine v_k ?_ | refine m51 ?_ | fail)) | (refine m22 ?_; (first | refine m26 ?_ | refine m27 ?_ | fail)) | refine m42 ?_ | refine zad ?_ | refine zae ?_ | refine m08 ?_ | (refine m20 ?_; (first | refine zbk ((k + 1 : Nat) : Int) (by omega) (by omega) ?_ | refine m52 ?_ | refine m53 ?_ | refine zgv ?_ | refine m54 ?_ | refine m55 ?_ | refine zck ?_ | refine m47 ?_ | refine m48 ?_ | refine m49 ?_ | refine m50 ?_ | refine zdk ?_ | refine zdi ?_ | refine zdj ?_ | refine v_k ?_ | refine m51 ?_ | fail)) | refine zao ?_ | refine m01 ?_ | fail))
 |refine za2 ?_ | refine za3 ?_ | refine za1 ?_
 |(refine za6 ?_; (first | refine za0 ?_ | refine zab ?_ | (refine m06 ?_; (first | refine c_T ?_ | refine c_F ?_ | refine c_P ?_ ?_ | refine c_B ?_ ?_ | fail)) | refine zaz ?_ | refine zaq ?_ | refine zai ?_ | refine b_exit ?_ | (refine zbc [0, 6, 49, 50] n (fun k => ⟨[(0, .val (.int .i64 kd)), (6, .loc 6 0), (49, .val (.int .i64 ((n : Nat) : Int))), (50, .val (.int .i64 ((k : Nat) : Int)))], [(6, [D, .int .i64 mo, .int .i64 (n : Int), .int .i64 (n : Int), .int .i64 ld])], H.set b (fl (zah l zo zl n c g)) ++ []⟩) (by exact rfl) ?_ ?_ <;> (first | intro k hk K hK | intro K) <;> (try dsimp only at *)) | fail))
 |refine m21 ?_
 |refine zbb ?_
 |(refine zbd ?_; (first | refine cA (zgl _ _ D ml mo _ _ ld hI hG ((hrd _).imp fun l' h => ⟨h.1, h.2.1⟩)) ?_ | refine cA (zgl _ _ (.slm b l.length 0 l.length 1) l.length zo _ _ zl hzI hzG (zwu H b l hbl zo zl n c _)) ?_ | refine cA (zdm _ (.slm b l.length 0 l.length 1) l.length zo n c zl (by exact rfl) hzI D ml mo n n ld hDl hI pd (hpd _ _) hin hind hfd hzG.2.2.2.1) ?_ | refine cA (z4m _ _ D ml mo ld n hI hG a (hrd _) k k (by omega) (by omega)) ?_ | fail))
 |refine zbz ?_ | refine zb0 ?_ | refine zby ?_ | refine m57 ?_
 |refine zfn ?_ | refine zfo ?_ | refine zfm ?_
 |(refine zfp (by exact rfl) ?_; first | exact hK | fail | (exfalso; first | omega | (simp_all; done) | (simp_all; omega)))
 |refine m05 ?_
 |refine m04 ?_ | refine m02 ?_ | refine m03 ?_ | refine zar ?_
 |intro _)
  all_goals first
    | (exfalso; contradiction)
    | (exfalso; omega)
    | (exfalso; exact z4u (by assumption) (by assumption))
    | exact False.elim (z6c (hz (by omega) k (by omega)) (by assumption))
    | (refine zan (by simp) (by simp [mx, mxL, zaf, aOf, zb1]) ?_; exact rfl)
theorem z1h (H : List (List AV)) (b : Nat) (l : List Nat) (hbl : b < H.length) (zo zl : Int) (n c : Nat) (hzI : MI l.length zo n c zl) (hzG : zac l.length zo n c zl) (D : AV) (hD : mx D ≤ H.length) (ml : Nat) (mo ld : Int) (hI : MI ml mo n n ld) (hG : zac ml mo n n ld) (a : Nat → Nat → Nat) (hrd : ∀ g, ∃ l', FL (H.set b (fl (zah l zo zl n c g))) D l' ∧ l'.length = ml ∧ ∀ i j, i < n → j < n → mel l' mo ld i j = a i j) (pd : Bool) (hpd : ∀ g N, 0 < l.length → 0 < ml → ptrEq (H.set b (fl (zah l zo zl n c g)) ++ N) (.slm b l.length 0 l.length 1) 0 D 0 = some pd) (lo hi lod hid : Int) (hin : InS zo n c zl lo hi) (hind : InS mo n n ld lod hid) (hfd : zfk pd lo hi lod hid) (kd size : Int) (hk1 : 1 ≤ kd) (hk2 : kd ≤ 2) (hsz : 1 ≤ size) (hz : kd = 2 → ∀ k, k < n → feq (a k k) 0 = false) (g : Nat → Nat → Nat) (N : List (List AV)) : zaa Try.prog 44 [.int .i64 kd, .int .i64 size, mt D mo (n : Int) (n : Int) ld, mt (.slm b l.length 0 l.length 1) zo (n : Int) (c : Int) zl] (H.set b (fl (zah l zo zl n c g)) ++ N) (.int .i64 0) (H.set b (fl (zah l zo zl n c g)) ++ N) := by
  have hs : ∀ Z, (H ++ N).set b Z = H.set b Z ++ N := fun Z => za9 hbl
  have h := z1g (H ++ N) b l (by simp; omega) zo zl n c hzI hzG D (by simp; omega) ml mo ld hI hG a (fun g => by obtain ⟨l', h1, h2⟩ := hrd g; rw [hs]; exact ⟨l', h1.app N, h2⟩) pd (fun g N' => by rw [hs, List.append_assoc]; exact hpd g (N ++ N')) lo hi lod hid hin hind hfd kd size hk1 hk2 hsz hz g
  rwa [hs] at h
theorem z1j (H : List (List AV)) (n : Nat) (size : Int) (T : Nat) (Q : Nat → Nat) (hT : 0 < T) (hTn : T ≤ 4096) (hB : ∀ H, zaa Try.prog 53 [.int .i64 (n : Int), .int .i64 size, .slnil] H (cuV T Q) H) :
    zaa Try.prog 45 [.int .i64 (n : Int), .int .i64 size] H (cuV T Q) H := by
  refine .go Try.call45 Try.func45 false [] dOk ?_
  simp only [zbp, Nat.reduceAdd]
  repeat' (first
 |(refine za4 ?_; (first | refine zcm ?_ | refine zay ?_ | fail))
 |(refine za5 ?_; (first | refine m14 ?_ | refine zbm (by (conv => {lhs; whnf}); done) (by exact rfl) ?_ | (refine m00 ?_; (first | refine m47 ?_ | refine m48 ?_ | refine m49 ?_ | refine m50 ?_ | refine v_k ?_ | refine m51 ?_ | fail)) | refine m42 ?_ | refine zad ?_ | refine zae ?_ | refine m08 ?_ | refine zao ?_ | refine zbm (by (conv => {lhs; whnf}); done) (by first | rfl | assumption) ?_ | refine zco ?_ | refine zgg (by exact rfl) (by exact rfl) (by decide) ?_ | fail))
 |refine za2 ?_ | refine za3 ?_ | refine za1 ?_
 |(refine za6 ?_; (first | refine za0 ?_ | refine zab ?_ | (refine m06 ?_; (first | refine c_T ?_ | refine c_F ?_ | refine c_P ?_ ?_ | refine c_B ?_ ?_ | fail)) | refine zaz ?_ | refine zaq ?_ | refine zai ?_ | refine b_exit ?_ | fail))
 |refine m43 ?_
 |refine zcs ?_
 |refine m21 ?_
 |refine zbb ?_
 |(refine zbd ?_; (first | refine cA (hB _) ?_ | fail))
 |refine m58 ?_
 |refine zdu ?_
 |refine m44 ?_
 |refine m40 ?_
 |(refine zdq (by (conv => {lhs; simp only [List.nil_append, List.cons_append]}); done) ?_; first | refine ⟨by exact rfl, ?_⟩ | skip)
 |refine zd9 ?_
 |(intro N' hN'; simp only [List.nil_append, List.cons_append] at hN'; subst hN')
 |refine m05 ?_
 |refine m04 ?_ | refine m02 ?_ | refine m03 ?_ | refine zar ?_
 |intro _)
  all_goals first | refine zan rfl (by simp [mx, mxL, cuV, zqy, zaf]) ?_ | (trace_state; fail)
  all_goals first
    | exact rfl
    | (exfalso; omega)
theorem z4h (H : List (List AV)) (b : Nat) (l : List Nat) (hbl : b < H.length) (zo zl : Int) (n c : Nat) (hzI : MI l.length zo n c zl) (hzG : zac l.length zo n c zl) (D : AV) (hD : mx D ≤ H.length) (ml : Nat) (mo ld : Int) (hI : MI ml mo n n ld) (hG : zac ml mo n n ld) (a : Nat → Nat → Nat) (hrd : ∀ g, ∃ l', FL (H.set b (fl (zah l zo zl n c g))) D l' ∧ l'.length = ml ∧ ∀ i j, i < n → j < n → mel l' mo ld i j = a i j) (pd : Bool) (hpd : ∀ g N, 0 < l.length → 0 < ml → ptrEq (H.set b (fl (zah l zo zl n c g)) ++ N) (.slm b l.length 0 l.length 1) 0 D 0 = some pd) (lo hi lod hid : Int) (hin : InS zo n c zl lo hi) (hind : InS mo n n ld lod hid) (hfd : zfk pd lo hi lod hid) (size : Int) (hsz : 1 ≤ size) (hsz2 : size ≤ 9223372036854775807) (hn1 : 1 ≤ n) (hn : n ≤ 4096) (g : Nat → Nat → Nat) (hx : ∀ i j, Can (g i j)) :
    zaa Try.prog 20 [.int .i64 1, .int .i64 size, mt D mo (n : Int) (n : Int) ld, mt (.slm b l.length 0 l.length 1) zo (n : Int) (c : Int) zl] (H.set b (fl (zah l zo zl n c g))) (.int .i64 0) (H.set b (fl (zah l zo zl n c (loX a g n)))) := by
  obtain ⟨hm, ho1, ho2, hr1, hr2, hc1, hc2, hl1, hl2⟩ := id hzI
  obtain ⟨dm, do1, do2, dr1, dr2, dc1, dc2, dl1, dl2⟩ := id hI
  have hDl := znp ((hrd g).imp fun l' h => ⟨h.1, h.2.1⟩)
  obtain ⟨T, Q, hC, hB⟩ := zn4 n hn size hsz hsz2
  have hT := fun v => hC.ltn (t := v)
  have hTn := hC.t_le
  have hT0 : 0 < T := Nat.pos_of_ne_zero fun h => (by have h1 := hC.zero; have h2 := hC.last; rw [h, h1] at h2; omega)
  have hA : (zah l zo zl n c (loX a g (Q 0))) = (zah l zo zl n c g) := (by rw [hC.zero]; rfl)
  have hZ : (zah l zo zl n c (loX a g (Q T))) = (zah l zo zl n c (loX a g n)) := (by rw [hC.last])
  have hle : ∀ t, t < T → ∀ i j, i < n → j < c → zf6 (loA a g (Q t) (Q (t + 1) - Q t)) (Q (t + 1)) (n - Q (t + 1)) (lsF a (Q (t + 1)) (Q t) (Q (t + 1) - Q t)) i j = loX a g (Q (t + 1)) i j := fun t ht i j hi _ => (by
    have h9 := hT t ht
    have h8 := zxe a g hx (Q t) (Q (t + 1) - Q t) n i j hi (by omega)
    rwa [show Q t + (Q (t + 1) - Q t) = Q (t + 1) by omega] at h8)
  refine .go Try.call20 Try.func20 false [] dOk ?_
  simp only [zbp, Nat.reduceAdd]
  repeat' (first
 |(refine za4 ?_; (first | refine zcm ?_ | refine zay ?_ | refine m13 ?_ | refine m12 ?_ | refine m11 ?_ | (refine m10 ?_; (first | refine zci ?_ | refine zcd ?_ | refine zch ?_ | refine zce ?_ | refine zcg ?_ ?_ | refine zcf ?_ ?_ | refine zcc ?_ ?_ | refine zcb ?_ ?_ | fail)) | (refine m09 ?_; (first | refine zci ?_ | refine zcd ?_ | refine zch ?_ | refine zce ?_ | refine zcg ?_ ?_ | refine zcf ?_ ?_ | refine zcc ?_ ?_ | refine zcb ?_ ?_ | fail)) | refine m38 ?_ | fail))
 |(refine za5 ?_; (first | refine m41 ?_ | refine zbj ?_ | refine m14 ?_ | (refine m17 ?_; first | refine m19 ?_ | refine m18 ?_) | (refine m07 ?_; (first | refine m15 ?_ | refine m16 ?_ | refine zxa (show t < T by omega) ?_ | fail)) | refine znz (n := 0) (by (conv => {lhs; whnf}); done) (by omega) ?_ | refine znz (n := 1) (by (conv => {lhs; whnf}); done) (by omega) ?_ | refine zpc (i := t) (by (conv => {lhs; whnf}); done) (by (conv => {lhs; whnf}); done) (by exact rfl) (by exact rfl) (by omega) ?_ | refine zbm (by (conv => {lhs; whnf}); done) (by exact rfl) ?_ | (refine m45 ?_; (first | refine zbk ((t + 1 : Nat) : Int) (by omega) (by omega) ?_ | refine zbk ((Q (t + 1) : Nat) : Int) (by have := hT t (by omega); omega) (by have := hT t (by omega); omega) ?_ | refine zbk ((n - Q (t + 1) : Nat) : Int) (by have := hT t (by omega); omega) (by have := hT t (by omega); omega) ?_ | refine v_w (by have := hT t (by omega); omega) ?_ | refine zeg (by exact rfl) ?_ | refine v_k ?_ | fail)) | (refine m00 ?_; (first | refine zbk ((t + 1 : Nat) : Int) (by omega) (by omega) ?_ | refine zbk ((Q (t + 1) : Nat) : Int) (by have := hT t (by omega); omega) (by have := hT t (by omega); omega) ?_ | refine zbk ((n - Q (t + 1) : Nat) : Int) (by have := hT t (by omega); omega) (by have := hT t (by omega); omega) ?_ | refine v_w (by have := hT t (by omega); omega) ?_ | refine m52 ?_ | refine m53 ?_ | refine zgv ?_ | refine m54 ?_ | refine m55 ?_ | refine zck ?_ | refine m47 ?_ | refine m48 ?_ | refine m49 ?_ | refine m50 ?_ | refine v_k ?_ | refine m51 ?_ | fail)) | (refine m22 ?_; (first | refine m26 ?_ | refine m27 ?_ | fail)) | refine m42 ?_ | refine zad ?_ | refine zae ?_ | refine m08 ?_ | refine zao ?_ | refine zbm (by (conv => {lhs; whnf}); done) (by first | rfl | assumption) ?_ | refine m25 ?_ | refine m01 ?_ | refine m24 ?_ | fail))
 |(refine zcv ?_; (first | refine m36 ?_ | refine zct ?_ | refine m32 ?_ | refine m31 ?_ | refine m30 ?_ | (refine m28 ?_; (first | refine zca ?_ | refine zb5 ?_ | refine zb9 ?_ | refine zb6 ?_ | refine zb8 ?_ ?_ | refine zb7 ?_ ?_ | refine zb4 ?_ ?_ | refine zb3 ?_ ?_ | fail)) | (refine m29 ?_; (first | refine zca ?_ | refine zb5 ?_ | refine zb9 ?_ | refine zb6 ?_ | refine zb8 ?_ ?_ | refine zb7 ?_ ?_ | refine zb4 ?_ ?_ | refine zb3 ?_ ?_ | fail)) | refine m37 ?_ | fail))
 |(refine zcu ?_; (first | refine zfe ?_ | refine zh6 ?_ | refine zh7 (by (conv => {lhs; whnf}); done) ?_ | refine zh8 ?_ | refine zh5 (by exact rfl) (by exact rfl) ?_ | refine m34 ?_ | refine m35 ?_ | refine m33 ?_ | refine zff ?_ | refine m56 ?_ | refine zcw ?_ | refine zdr (by exact rfl) ?_ | fail))
 |refine za2 ?_ | refine za3 ?_ | refine za1 ?_
 |(refine za6 ?_; (first | refine za0 ?_ | refine zab ?_ | (refine m06 ?_; (first | refine c_T ?_ | refine c_F ?_ | refine c_P ?_ ?_ | refine c_B ?_ ?_ | fail)) | refine zaz ?_ | refine zaq ?_ | refine zai ?_ | refine b_exit ?_ | refine zax (id := 10) [] [] [(0, .lt), (1, .ld true), (2, .lt), (3, .ld true), (4, .lt), (5, .lt)] (by kernel_rfl) ?_ | refine zax (id := 12) [] [13] [(0, .ld true), (1, .ld true), (2, .lt), (3, .lt), (4, .lt), (5, .lt), (7, .ld true), (8, .lt), (9, .lt), (10, .lt), (11, .ld true), (6, .mn true), (12, .mn true), (13, .mn false)] (by kernel_rfl) ?_ | refine zax (id := 13) [] [22] [(0, .ld true), (1, .lt), (2, .lt), (3, .lt), (4, .lt), (5, .lt), (6, .lt), (8, .ld true), (9, .lt), (10, .lt), (11, .lt), (12, .ld true), (14, .ld true), (15, .lt), (16, .lt), (17, .lt), (18, .lt), (19, .lt), (20, .ld true), (7, .mn true), (13, .mn true), (21, .mn true), (22, .mn false)] (by kernel_rfl) ?_ | refine zax (id := 18) [] [] [(0, .lt), (1, .ld true), (2, .lt), (3, .ld true), (4, .lt), (5, .lt)] (by kernel_rfl) ?_ | refine zax (id := 19) [] [13] [(0, .ld true), (1, .ld true), (2, .lt), (3, .lt), (4, .lt), (5, .lt), (7, .ld true), (8, .lt), (9, .lt), (10, .lt), (11, .ld true), (6, .mn true), (12, .mn true), (13, .mn false)] (by kernel_rfl) ?_ | refine zax (id := 23) [] [14] [(0, .ld true), (1, .lt), (2, .lt), (4, .ld true), (5, .lt), (6, .lt), (7, .ld true), (9, .ld true), (10, .lt), (11, .lt), (12, .ld true), (3, .mn true), (8, .mn true), (13, .mn true), (14, .mn false)] (by kernel_rfl) ?_ | (refine zbc [4, 6, 7, 10, 41, 42, 43] T (fun t => ⟨[(4, .loc 4 0), (6, .loc 6 0), (7, .loc 7 0), (10, .val (.int .i64 ((n : Nat) : Int))), (41, .val (cuV T Q)), (42, .val (.int .i64 ((T : Nat) : Int))), (43, .val (.int .i64 ((t : Nat) : Int)))], [(4, [.int .i64 1]), (6, [D, .int .i64 mo, .int .i64 (n : Int), .int .i64 (n : Int), .int .i64 ld]), (7, [(.slm b l.length 0 l.length 1), .int .i64 zo, .int .i64 (n : Int), .int .i64 (c : Int), .int .i64 zl])], H.set b (fl (zah l zo zl n c (loX a g (Q t)))) ++ []⟩) (by simp only [hA]; exact rfl) ?_ ?_ <;> (first | intro t ht K hK | intro K) <;> (try dsimp only at *)) | fail))
 |refine m43 ?_
 |refine zcs ?_
 |refine m21 ?_
 |refine zbb ?_
 |(refine zbd ?_; (first | refine cA (z1h H b l hbl zo zl n c hzI hzG D hD ml mo ld hI hG a hrd pd hpd lo hi lod hid hin hind hfd 1 size (by omega) (by omega) hsz (fun h => absurd h (by decide)) g _) ?_ | refine cA (z1j _ n size T Q hT0 (by omega) hB) ?_ | refine cA (zk6 _ _ D ml mo ld n n hI hG ((hrd _).imp fun l' h => ⟨h.1, h.2.1⟩) (Q t) (Q t) ((Q (t + 1) - Q t)) ((Q (t + 1) - Q t)) (by have := hT t (by omega); omega) (by have := hT t (by omega); omega) _ rfl) ?_ | refine cA (zk6 _ _ D ml mo ld n n hI hG ((hrd _).imp fun l' h => ⟨h.1, h.2.1⟩) (Q (t + 1)) (Q t) (n - Q (t + 1)) ((Q (t + 1) - Q t)) (by have := hT t (by omega); omega) (by have := hT t (by omega); omega) _ rfl) ?_ | refine cA (zvt _ _ (.slm b l.length 0 l.length 1) l.length zo zl n c hzI hzG (zwu H b l hbl zo zl n c _) (Q t) (Q (t + 1) - Q t) (by have := hT t (by omega); omega)) ?_ | refine cA (zvt _ _ (.slm b l.length 0 l.length 1) l.length zo zl n c hzI hzG (zwu H b l hbl zo zl n c _) (Q (t + 1)) (n - Q (t + 1)) (by have := hT t (by omega); omega)) ?_ | refine c_call (zwk H b l hbl zo zl n c hzI hzG D hD ml mo ld hI hG a hrd pd hpd lo hi lod hid hin hind hfd (Q t) (Q (t + 1) - Q t) (by have := hT t (by omega); omega) (by have := hT t (by omega); omega) _ (loA a g (Q t) (Q (t + 1) - Q t)) (fun i j _ _ => zxd a g _ _ i j) _) (za7.set2 hbl (by simp) (by rw [zbs]; omega)) ?_ | refine c_call (z0l H b l hbl zo zl n c hzI hzG D hD ml mo ld hI hG a hrd pd hpd lo hi lod hid hin hind hfd (Q t) (Q (t + 1) - Q t) (Q (t + 1)) (n - Q (t + 1)) (by have := hT t (by omega); omega) (by have := hT t (by omega); omega) (by have := hT t (by omega); omega) (.inl (by have := hT t (by omega); omega)) _ (loX a g (Q (t + 1))) (hle t (by omega)) _) (za7.set2 hbl (by simp) (by rw [zbs]; omega)) ?_ | fail))
 |refine zbz ?_ | refine zb0 ?_ | refine zby ?_ | refine m57 ?_
 |refine zfn ?_ | refine zfo ?_ | refine zfm ?_
 |(refine zfp (by exact rfl) ?_; first | exact hK | fail | (exfalso; first | omega | (simp_all; done) | (simp_all; omega)))
 |refine m05 ?_
 |refine m04 ?_ | refine m02 ?_ | refine m03 ?_ | refine zar ?_
 |intro _)
  all_goals first
    | (exfalso; contradiction)
    | (exfalso; omega)
    | (refine zan (by simp) (by simp [mx, mxL, zaf, aOf, zb1]) ?_; exact rfl)
    | (rw [← hZ]; refine zan (by simp) (by simp [mx, mxL, zaf, aOf, zb1]) ?_; exact rfl)
end Go.Sx
set_option linter.unusedVariables false
set_option linter.unusedSimpArgs false
namespace Go.Sx
def zyb (g : Nat → Nat → Nat) (k t : Nat) : Nat → Nat → Nat := fun i j => if k < i ∧ k < j ∧ j < t then zoe (g i j) (zd8 (g i k) (g k j)) else g i j
def elT (g : Nat → Nat → Nat) (k t : Nat) : Nat → Nat → Nat := zyb (zgx g k) k t
def pnG (g : Nat → Nat → Nat) (n a t : Nat) : Nat → Nat → Nat → Nat
  | 0 => g
  | s + 1 => elT (swK (pnG g n a t s) (a + s) n) (a + s) t
def bhG (w : Nat → Nat → Nat) (a m : Nat) : Nat → Nat → Nat := fun i j => if a + m ≤ j ∧ a ≤ i then lo1 (fun s t => w (a + s) (a + t)) (fun t => w (a + t) j) m (i - a) else w i j
theorem zjm {a a' : Nat → Nat → Nat} {f f' : Nat → Nat} {τ : Nat → Nat} {N : Nat} : ∀ (s : Nat), s ≤ N → (∀ t, t < s → τ t = t) → (∀ i, s ≤ i → s ≤ τ i) → (∀ i, i < N → τ i < N) →
    (∀ i t, i < N → t < s → a' i t = a (τ i) t) → (∀ i, i < N → f' i = f (τ i)) → ∀ i, i < N → lo1 a' f' s i = lo1 a f s (τ i)
  | 0, _, _, _, _, _, hf, i, hi => hf i hi
  | s + 1, hs, h1, h2, h3, ha, hf, i, hi => by
    have ih := zjm s (by omega) (fun t ht => h1 t (by omega)) (fun i h => by
      rcases Nat.eq_or_lt_of_le h with h' | h'
      · rw [← h', h1 s (by omega)]; exact Nat.le_refl _
      · have := h2 i (by omega); omega) h3 (fun i t hi ht => ha i t hi (by omega)) hf
    by_cases h : s < i
    · have h' := h2 i (by omega)
      rw [zhq h, zhq (by omega), ih i hi, ih s (by omega), h1 s (by omega), ha i s hi (by omega)]
    · rw [zgp (by omega), ih i hi, h1 i (by omega), zgp (by omega)]
theorem zsz {g g' : Nat → Nat → Nat} {k n : Nat} (h : ∀ i, i < n → g i k = g' i k) : zov g k n = zov g' k n := by
  unfold zov
  exact zdo fun i hi => h _ (by omega)
theorem zrj {g g' : Nat → Nat → Nat} {k n : Nat} (h : ∀ i, i < n → g i k = g' i k) : pvK g k n = pvK g' k n := by
  unfold pvK; rw [zsz h]
theorem zr7 {g g' : Nat → Nat → Nat} {k p n j : Nat} (h : ∀ i, i < n → g i j = g' i j) (hk : k < n) (hp : p < n) (i : Nat) (hi : i < n) : zh3 g k p i j = zh3 g' k p i j := by
  unfold zh3
  split
  · exact h _ hp
  · split
    · exact h _ hk
    · exact h _ hi
def sgm (k p i : Nat) : Nat := if i = k then p else if i = p then k else i
theorem zg9 (g : Nat → Nat → Nat) (k p i j : Nat) : zh3 g k p i j = g (sgm k p i) j := by
  unfold zh3 sgm
  split
  · rfl
  · split <;> rfl
def PnI (g : Nat → Nat → Nat) (n a m s : Nat) (w : Nat → Nat → Nat) : Prop :=
  ∀ i j, i < n → j < n → (j < a + m → w i j = stG g n (a + s) i j) ∧
    (a + m ≤ j → stG g n (a + s) i j = if a ≤ i then lo1 (fun s t => w (a + s) (a + t)) (fun t => w (a + t) j) s (i - a) else w i j)
theorem zk7 (g : Nat → Nat → Nat) (n a m : Nat) (h : a + m ≤ n) : ∀ s, s ≤ m → PnI g n a m s (pnG (stG g n a) n a (a + m) s)
  | 0, _ => fun i j hi hj => ⟨fun _ => rfl, fun _ => by
      show stG g n a i j = if a ≤ i then stG g n a (a + (i - a)) j else stG g n a i j
      split
      · rw [show a + (i - a) = i by omega]
      · rfl⟩
  | s + 1, hs => by
    have ih := zk7 g n a m h s (by omega)
    show PnI g n a m (s + 1) (elT (swK (pnG (stG g n a) n a (a + m) s) (a + s) n) (a + s) (a + m))
    generalize pnG (stG g n a) n a (a + m) s = w at ih
    have hst : stG g n (a + (s + 1)) = elG (swK (stG g n (a + s)) (a + s) n) (a + s) := rfl
    have hp : pvK (stG g n (a + s)) (a + s) n = pvK w (a + s) n := zrj fun i hi => ((ih i (a + s) hi (by omega)).1 (by omega)).symm
    have hpl := zlb (g := w) (k := a + s) (n := n) (by omega)
    have hpg := @z04 w (a + s) n
    unfold swK at hst ⊢
    rw [hp] at hst
    unfold PnI
    rw [hst]
    generalize hP : pvK w (a + s) n = p at hpl hpg
    have hsw : ∀ i j, i < n → j < a + m → zh3 w (a + s) p i j = zh3 (stG g n (a + s)) (a + s) p i j := fun i j hi hj => zr7 (n := n) (fun i hi => (ih i j hi (by omega)).1 hj) (by omega) hpl i hi
    have hsg : ∀ i, i < n → sgm (a + s) p i < n := fun i hi => by unfold sgm; (repeat' split) <;> omega
    have hsa : ∀ i, a ≤ i → a ≤ sgm (a + s) p i := fun i hi => by unfold sgm; (repeat' split) <;> omega
    intro i j hi hj
    refine ⟨fun hj' => ?_, fun hj' => ?_⟩
    · unfold elT elG zyb z2e zgx
      rw [hsw i j hi hj', hsw i (a + s) hi (by omega), hsw (a + s) (a + s) (by omega) (by omega), hsw (a + s) j (by omega) hj']
      by_cases h1 : a + s < i ∧ a + s < j
      · rw [if_pos ⟨h1.1, h1.2, hj'⟩, if_pos h1]
      · rw [if_neg (fun h => h1 ⟨h.1, h.2.1⟩), if_neg h1]
    · have hX : ∀ i t, i < n → t < a + s → elT (zh3 w (a + s) p) (a + s) (a + m) i t = w (sgm (a + s) p i) t := fun i t _ ht => by
        unfold elT zyb zgx
        rw [if_neg (by omega), if_neg (by omega), zg9]
      have hXj : ∀ i, elT (zh3 w (a + s) p) (a + s) (a + m) i j = w (sgm (a + s) p i) j := fun i => by
        unfold elT zyb zgx
        rw [if_neg (by omega), if_neg (by omega), zg9]
      have hXk : ∀ i, a + s < i → i < n → elT (zh3 w (a + s) p) (a + s) (a + m) i (a + s) = fdiv (zh3 (stG g n (a + s)) (a + s) p i (a + s)) (zh3 (stG g n (a + s)) (a + s) p (a + s) (a + s)) := fun i h1 h2 => by
        unfold elT zyb zgx
        rw [if_neg (by omega), if_pos ⟨h1, rfl⟩, hsw i _ h2 (by omega), hsw (a + s) _ (by omega) (by omega)]
      generalize elT (zh3 w (a + s) p) (a + s) (a + m) = X at hX hXj hXk
      have hL : ∀ i, a ≤ i → i < n → lo1 (fun s t => X (a + s) (a + t)) (fun t => X (a + t) j) s (i - a) = zh3 (stG g n (a + s)) (a + s) p i j := fun i h1 h2 => by
        rw [zg9, (ih (sgm (a + s) p i) j (hsg i h2) hj).2 hj', if_pos (hsa i h1)]
        rw [zjm (a := fun s t => w (a + s) (a + t)) (f := fun t => w (a + t) j) (τ := fun r => sgm (a + s) p (a + r) - a) (N := n - a) s (by omega) (fun t ht => by
            show sgm (a + s) p (a + t) - a = t
            unfold sgm; rw [if_neg (by omega), if_neg (by omega)]; omega) (fun i hi => by
            show s ≤ sgm (a + s) p (a + i) - a
            unfold sgm; (repeat' split) <;> omega) (fun i hi => by
            show sgm (a + s) p (a + i) - a < n - a
            have := hsg (a + i) (by omega); have := hsa (a + i) (by omega); omega) (fun i t hi ht => by
            show X (a + i) (a + t) = w (a + (sgm (a + s) p (a + i) - a)) (a + t)
            have := hsa (a + i) (by omega)
            rw [hX (a + i) (a + t) (by omega) (by omega), show a + (sgm (a + s) p (a + i) - a) = sgm (a + s) p (a + i) by omega]) (fun i hi => by
            show X (a + i) j = w (a + (sgm (a + s) p (a + i) - a)) j
            have := hsa (a + i) (by omega)
            rw [hXj, show a + (sgm (a + s) p (a + i) - a) = sgm (a + s) p (a + i) by omega]) (i - a) (by omega)]
        show lo1 _ _ s (sgm (a + s) p (a + (i - a)) - a) = _
        rw [show a + (i - a) = i by omega]
      by_cases hai : a ≤ i
      · rw [if_pos hai]
        by_cases hk : a + s < i
        · rw [zhq (by omega), hL i hai hi]
          have e := hL (a + s) (by omega) (by omega)
          rw [show a + s - a = s by omega] at e
          rw [e]
          unfold elG z2e zgx
          show (if a + s < i ∧ a + s < j then _ else _) = zoe _ (zd8 (X (a + (i - a)) (a + s)) _)
          rw [show a + (i - a) = i by omega, hXk i hk hi, if_pos (by omega), if_neg (by omega), if_pos (by omega), if_neg (by omega)]
        · rw [zgp (by omega), hL i hai hi]
          exact zpt (by omega)
      · rw [if_neg hai, hXj]
        rw [zpt (by omega), zg9]
        have e : sgm (a + s) p i = i := by unfold sgm; rw [if_neg (by omega), if_neg (by omega)]
        rw [e, (ih i j hi hj).2 hj', if_neg hai]
theorem z2q (g : Nat → Nat → Nat) (n a m : Nat) (h : a + m ≤ n) (i j : Nat) (hi : i < n) (hj : j < n) : bhG (pnG (stG g n a) n a (a + m) m) a m i j = stG g n (a + m) i j := by
  have ih := zk7 g n a m h m (Nat.le_refl _) i j hi hj
  unfold bhG
  by_cases h1 : a + m ≤ j
  · rw [ih.2 h1]
    by_cases h2 : a ≤ i
    · rw [if_pos ⟨h1, h2⟩, if_pos h2]
    · rw [if_neg (fun h => h2 h.2), if_neg h2]
  · rw [if_neg (fun h => h1 h.1)]
    exact ih.1 (by omega)
theorem zwe (g : Nat → Nat → Nat) (n a m : Nat) (h : a + m = n) (i j : Nat) (hi : i < n) (hj : j < n) : pnG (stG g n a) n a (a + m) m i j = stG g n (a + m) i j :=
  (zk7 g n a m (by omega) m (Nat.le_refl _) i j hi hj).1 (by omega)
theorem z02 (g : Nat → Nat → Nat) (n a m s : Nat) (h : a + m ≤ n) (hs : s < m) : pvK (pnG (stG g n a) n a (a + m) s) (a + s) n = pvK (stG g n (a + s)) (a + s) n :=
  zrj fun i hi => (zk7 g n a m h s (by omega) i (a + s) hi (by omega)).1 (by omega)
theorem zxy (g : Nat → Nat → Nat) (n a m s : Nat) (h : a + m ≤ n) (hs : s < m) : feq (swK (pnG (stG g n a) n a (a + m) s) (a + s) n (a + s) (a + s)) 0 = sgK g n (a + s) := by
  unfold sgK swK
  rw [z02 g n a m s h hs, zr7 (g' := stG g n (a + s)) (n := n) (fun i hi => (zk7 g n a m h s (by omega) i (a + s) hi (by omega)).1 (by omega)) (by omega) (zlb (by omega)) (a + s) (by omega)]
def trG (w : Nat → Nat → Nat) (a m r : Nat) : Nat → Nat → Nat := zbw w (loX (fun s t => w (a + s) (a + t)) (fun s t => w (a + s) (a + m + t)) m) a (a + m) m r
def mlG (w : Nat → Nat → Nat) (a m r : Nat) : Nat → Nat → Nat := zbw (trG w a m r) (gmM zcn (fun i j => trG w a m r (a + m + i) (a + j)) (fun i j => trG w a m r (a + i) (a + m + j)) (fun i j => gmB 4607182418800017408 (trG w a m r (a + m + i) (a + m + j))) m) (a + m) (a + m) r r
theorem z3x (w : Nat → Nat → Nat) (hc : ∀ i j, Can (w i j)) (a m r n : Nat) (hn : a + m + r = n) (i j : Nat) (hi : i < n) (hj : j < n) : mlG w a m r i j = bhG w a m i j := by
  have ht1 : ∀ i j, j < a + m → trG w a m r i j = w i j := fun i j h => by unfold trG zbw; rw [if_neg (by omega)]
  have ht2 : ∀ i j, a + m ≤ i → trG w a m r i j = w i j := fun i j h => by unfold trG zbw; rw [if_neg (by omega)]
  have ht3 : ∀ i j, i < m → j < r → trG w a m r (a + i) (a + m + j) = loX (fun s t => w (a + s) (a + t)) (fun s t => w (a + s) (a + m + t)) m i j := fun i j h h' => by
    unfold trG zbw; rw [if_pos (by omega), show a + i - a = i by omega, show a + m + j - (a + m) = j by omega]
  unfold mlG bhG
  by_cases h1 : a + m ≤ j
  · have ej : a + m + (j - (a + m)) = j := by omega
    by_cases h2 : a ≤ i
    · rw [if_pos ⟨h1, h2⟩]
      have hl := zvo (fun s t => w (a + s) (a + t)) (fun s t => w (a + s) (a + m + t)) (fun i j => hc _ _) 0 m (n - a) (i - a) (j - (a + m)) (by omega) (by omega)
      simp only [Nat.zero_add] at hl
      have hl' : loX (fun s t => w (a + s) (a + t)) (fun s t => w (a + s) (a + m + t)) m (i - a) (j - (a + m)) = lo1 (fun s t => w (a + s) (a + t)) (fun t => w (a + t) j) m (i - a) := by
        show lo1 _ (fun t => w (a + t) (a + m + (j - (a + m)))) m (i - a) = _
        rw [ej]
      by_cases h3 : a + m ≤ i
      · unfold zbw
        rw [if_pos (by omega), ← hl', hl, if_pos (by omega)]
        unfold gmM
        have e1 : ∀ (A A' : Nat → Nat) (B B' : Nat → Nat) (z z' : Nat), (∀ t, t < m → A t = A' t) → (∀ t, t < m → B t = B' t) → z = z' → gmS zcn A B z m = gmS zcn A' B' z' m := fun A A' B B' z z' hA hB hz => by
          rw [hz]; exact zhp hA hB
        refine e1 _ _ _ _ _ _ (fun t ht => ?_) (fun t ht => ?_) ?_
        · show trG w a m r (a + m + (i - (a + m))) (a + t) = w (a + (i - a)) (a + t)
          rw [ht1 _ _ (by omega), show a + m + (i - (a + m)) = a + (i - a) by omega]
        · show trG w a m r (a + t) (a + m + (j - (a + m))) = _
          rw [ht3 _ _ ht (by omega)]
          unfold loA loX
          rw [if_pos (by omega), Nat.zero_add]
        · show gmB _ (trG w a m r (a + m + (i - (a + m))) (a + m + (j - (a + m)))) = _
          rw [ht2 _ _ (by omega), show a + m + (i - (a + m)) = i by omega, ej]
          unfold loA
          rw [if_neg (by omega)]
          show _ = gmB 4607182418800017408 (w (a + (i - a)) (a + m + (j - (a + m))))
          rw [ej, show a + (i - a) = i by omega]
      · unfold zbw
        rw [if_neg (by omega)]
        have := ht3 (i - a) (j - (a + m)) (by omega) (by omega)
        rw [ej, show a + (i - a) = i by omega] at this
        rw [this, hl']
    · rw [if_neg (fun h => h2 h.2)]
      unfold zbw; rw [if_neg (by omega)]
      unfold trG zbw; rw [if_neg (by omega)]
  · rw [if_neg (fun h => h1 h.1)]
    unfold zbw; rw [if_neg (by omega)]
    exact ht1 i j (by omega)
end Go.Sx
set_option linter.unusedVariables false
set_option linter.unusedSimpArgs false
set_option linter.unusedSectionVars false
set_option maxRecDepth 20000
namespace Go.Sx
open Go.Proofs
section
attribute [local irreducible] Ex zau exD opX opE zdh zfd zfl Spec zaa Fr zdg zbf zbe ckK zcq zda zbo faK zcz ze4 gK fK rK zgd lpX prK
theorem zxv (H H' : List (List AV)) (b : Nat) (g : Nat → Nat → Nat) (n : Nat) (hn : n ≤ 64) (hb : H[b]? = some (fl (cmA g n n))) (k : Nat) (hk : k < n) (hH : H.set b (fl (cmA (swK g k n) n n)) = H') :
    zaa Try.prog 72 [mt (.slm b (n * n) 0 (n * n) 1) 0 (n : Int) (n : Int) ((max n 1 : Nat) : Int), .int .i64 (k : Int)] H (.tup [.int .i64 (pvK g k n : Int), .bool (!(feq (swK g k n k k) 0))]) H' := by
  have h := zxu H H' b (cmA g n n) hb 0 ((max n 1 : Nat) : Int) n n (zi9 hn) (zcp g n) k hk hk (by rw [zmk, ← hH]; congr 2; exact zbq (fun i j hi hj => zlo (fun _ _ h1 h2 => zgq h1 h2) hk i j hi hj))
  rw [zer, zla (g' := g) (fun _ _ h1 h2 => zgq h1 h2) hk, zlo (g' := g) (fun _ _ h1 h2 => zgq h1 h2) hk k k hk hk] at h
  exact h
theorem zmv (H H' : List (List AV)) (b : Nat) (g : Nat → Nat → Nat) (n : Nat) (hn : n ≤ 64) (hb : H[b]? = some (fl (cmA g n n))) (k : Nat) (hk : k < n) (hH : H.set b (fl (cmA (zgx g k) n n)) = H') :
    zaa Try.prog 73 [mt (.slm b (n * n) 0 (n * n) 1) 0 (n : Int) (n : Int) ((max n 1 : Nat) : Int), .int .i64 (k : Int)] H (vt (.slm b (n * n) 0 (n * n) 1) ((k * n + (k + 1) : Nat) : Int) ((n - (k + 1) : Nat) : Int) 1) H' := by
  have h := zs4 H H' b (cmA g n n) hb 0 ((max n 1 : Nat) : Int) n n (zi9 hn) (zcp g n) k hk hk (by rw [zmk, ← hH]; congr 2; exact zbq (fun i j hi hj => zoa (fun _ _ h1 h2 => zgq h1 h2) hk i j hi hj))
  have e : zcj 0 (n : Int) ((max n 1 : Nat) : Int) (k : Int) + ((k + 1 : Nat) : Int) = ((k * n + (k + 1) : Nat) : Int) := by
    unfold zcj
    rw [if_pos (by omega), show max n 1 = n by omega, Int.natCast_add (k * n), Int.natCast_mul]; omega
  rw [zer, e] at h
  exact h
theorem z4l (H : List (List AV)) (b : Nat) (g : Nat → Nat → Nat) (n : Nat) (hn : n ≤ 64) (hb : H[b]? = some (fl (cmA g n n))) (i j : Nat) (hi : i < n) (hj : j < n) :
    zaa Try.prog 65 [mt (.slm b (n * n) 0 (n * n) 1) 0 (n : Int) (n : Int) ((max n 1 : Nat) : Int), .int .i64 (i : Int), .int .i64 (j : Int)] H (.flt (g i j)) H := by
  have h := zsc H (.slm b (n * n) 0 (n * n) 1) (cmA g n n) (FL.old hb (by simp) (by simp)) 0 n n ((max n 1 : Nat) : Int) (zi9 hn) (zcp g n) i j (by omega) (by omega) (by omega) (by omega)
  simp only [Int.toNat_natCast] at h
  rwa [zgq hi hj] at h
theorem ziy {m : Nat} : zal m 0 (m : Int) 1 := by
  refine ⟨by omega, by omega, by omega, ?_⟩
  by_cases h : m = 0
  · exact .inl (by omega)
  · exact .inr (by omega)
end
end Go.Sx
set_option linter.unusedVariables false
set_option linter.unusedSimpArgs false
set_option maxRecDepth 20000
namespace Go.Sx
def iF (n : Int) : Nat := cn (FloatKind.f64.nearest n)
structure MS where
  n : Nat
  st : Nat
  est : Nat
  v : List Nat
  s : List Nat
  j : Nat
  ct : Nat
def t5 (n t : Nat) : Nat := zd8 4611686018427387904 (fdiv t (iF (3 * (n : Int))))
structure MOk (M : MS) : Prop where
  n1 : 1 ≤ M.n
  n64 : M.n ≤ 64
  j : M.j < M.n
  ct : M.ct ≤ 5
  s : ∀ y ∈ M.s, y = 4607182418800017408 ∨ y = 13830554455654793216
  v : M.v.length ≤ M.n
  sl : M.s.length ≤ M.n
end Go.Sx
set_option linter.unusedVariables false
set_option linter.unusedSimpArgs false
namespace Go.Sx
def FrW (n₀ : Nat) (keep : List Nat) (H H' : List (List AV)) : Prop :=
  H'.length = n₀ + keep.length ∧ ∀ id cs', H'[id]? = some cs' → mxL cs' ≤ H'.length ∧ ∃ k cs, H[k]? = some cs ∧ ((id < n₀ ∧ k = id) ∨ (n₀ ≤ id ∧ keep[id - n₀]? = some k)) ∧ cs'.length = cs.length ∧ Frs n₀ keep H cs cs'
theorem zsk {w : World} {g : Gh} {n₀ : Nat} {keep : List Nat} {H : List (List AV)} (hw : WRep w g H) (hk : ∀ k ∈ keep, n₀ ≤ k) {l l' : List AV} {b o : Nat} (ha : Frs n₀ keep H l l') (hl : zc9 w g l b o) : zc9 w (frG g n₀ keep H) l' b o := by
  obtain ⟨d, ha⟩ := ha
  rw [zdl] at hl ⊢
  intro i c h1
  have hlt : i < l.length := by rw [ha.1]; exact (List.getElem?_eq_some_iff.1 h1).1
  obtain ⟨x, j1, j2, j3⟩ := hl i l[i] (by simp [hlt])
  exact ⟨x, j1, j2, zmp hw hk d l[i] c x (ha.2 i l[i] c (by simp [hlt]) h1) j3⟩
theorem zp3 {w₀ w : World} {g₀ g : Gh} {H₀ H H' : List (List AV)} {keep : List Nat} (hw₀ : WRep w₀ g₀ H₀) (hw : WRep w g H) (hs : Since w₀ g₀ H₀ w g H) (hnd : keep.Nodup)
    (hk : ∀ k ∈ keep, H₀.length ≤ k ∧ ∃ cs, H[k]? = some cs) (hF : FrW H₀.length keep H H') :
    WRep w (frG g H₀.length keep H) H' ∧ Since w₀ g₀ H₀ w (frG g H₀.length keep H) H' := by
  have hlen : H₀.length ≤ H.length := hs.len
  obtain ⟨hfl, hF⟩ := hF
  have hrho : ∀ id cs', H'[id]? = some cs' → ∃ k cs, H[k]? = some cs ∧ (frG g H₀.length keep H).ρ id cs'.length = g.ρ k cs.length ∧ ((id < H₀.length ∧ k = id) ∨ (H₀.length ≤ id ∧ keep[id - H₀.length]? = some k ∧ H₀.length ≤ k)) ∧ cs'.length = cs.length ∧ Frs H₀.length keep H cs cs' ∧ mxL cs' ≤ H'.length := by
    intro id cs' hc
    obtain ⟨hm, k, cs, h1, h2, h3, h4⟩ := hF id cs' hc
    rcases h2 with ⟨hid, rfl⟩ | ⟨hid, hkj⟩
    · exact ⟨k, cs, h1, by simp only [frG, if_pos hid, h3], .inl ⟨hid, rfl⟩, h3, h4, hm⟩
    · refine ⟨k, cs, h1, ?_, .inr ⟨hid, hkj, (hk k (List.mem_of_getElem? hkj)).1⟩, h3, h4, hm⟩
      simp only [frG]
      rw [if_neg (by omega), hkj]
      simp [h1, h3]
  have hnf : ∀ k cs b δ, H[k]? = some cs → g.ρ k cs.length = some (b, δ) → (k < H₀.length ∨ k ∈ keep) → ¬ (frG g H₀.length keep H).Fz b := by
    rintro k cs b δ hc hp hkk (hf | ⟨id, cs', δ', h1, h2, h3, h4⟩)
    · obtain ⟨b', δ', c, e, q1, q2, q3, q4, q5, q6⟩ := hw.blk k cs hc
      rw [hp] at q1; simp only [Option.some.injEq, Prod.mk.injEq] at q1; obtain ⟨rfl, rfl⟩ := q1
      exact q5 hf
    · have := hw.inj k id cs cs' b δ δ' hc h3 hp h4
      subst this
      rcases hkk with h | h
      · omega
      · exact h2 h
  refine ⟨⟨fun id cs' hc => ?_, fun i j cs₁ cs₂ b δ₁ δ₂ h1 h2 h3 h4 => ?_, fun b hb => ?_, fun id gen b δ hp => ?_, fun id gen p hp => ?_⟩, ?_⟩
  · obtain ⟨k, cs, h1, h2, h3, h4, h5, h6⟩ := hrho id cs' hc
    obtain ⟨b, δ, c, e, q1, q2, q3, q4, q5, q6⟩ := hw.blk k cs h1
    refine ⟨b, δ, c, e, by rw [h2]; exact q1, q2, by rw [h4]; exact q3, zsk hw (fun k hkk => (hk k hkk).1) h5 q4, hnf k cs b δ h1 q1 ?_, h6⟩
    rcases h3 with ⟨h, rfl⟩ | ⟨_, h, _⟩
    · exact .inl h
    · exact .inr (List.mem_of_getElem? h)
  · obtain ⟨k, c1, p1, p2, p3, _⟩ := hrho i cs₁ h1
    obtain ⟨k', c2, r1, r2, r3, _⟩ := hrho j cs₂ h2
    rw [p2] at h3; rw [r2] at h4
    have hkk := hw.inj k k' c1 c2 b δ₁ δ₂ p1 r1 h3 h4
    subst hkk
    rcases p3 with ⟨a1, a2⟩ | ⟨a1, a2, a3⟩ <;> rcases r3 with ⟨b1, b2⟩ | ⟨b1, b2, b3⟩
    · omega
    · omega
    · omega
    · have hi := (List.getElem?_eq_some_iff.1 a2).1
      have hj := (List.getElem?_eq_some_iff.1 b2).1
      have hp := List.pairwise_iff_getElem.1 hnd
      obtain ⟨_, e1⟩ := List.getElem?_eq_some_iff.1 a2
      obtain ⟨_, e2⟩ := List.getElem?_eq_some_iff.1 b2
      rcases Nat.lt_trichotomy i j with h | h | h
      · exact absurd (e1.trans e2.symm) (hp _ _ hi hj (by omega))
      · exact h
      · exact absurd (e2.trans e1.symm) (hp _ _ hj hi (by omega))
  · rcases hb with hb | ⟨id, cs, δ, _, _, h3, h4⟩
    · exact hw.fzlt b hb
    · exact hw.rholt _ _ _ _ h4
  · simp only [frG] at hp
    split at hp
    · exact hw.rholt _ _ _ _ hp
    · split at hp
      · split at hp
        · exact hw.rholt _ _ _ _ hp
        · simp at hp
      · simp at hp
  · simp only [frG] at hp
    have key : ∀ k cs, H[k]? = some cs → ((id < H₀.length ∧ k = id) ∨ (H₀.length ≤ id ∧ keep[id - H₀.length]? = some k)) → ∃ cs', H'[id]? = some cs' ∧ cs'.length = cs.length := by
      intro k cs hc hkk
      have hlt : id < H'.length := by
        rw [hfl]
        rcases hkk with ⟨h, _⟩ | ⟨h, hj⟩
        · omega
        · have := (List.getElem?_eq_some_iff.1 hj).1; omega
      obtain ⟨_, k', cs₁, h1, h2, h3, _⟩ := hF id H'[id] (by simp [hlt])
      have : k' = k := by
        rcases hkk with ⟨h, rfl⟩ | ⟨h, hj⟩ <;> rcases h2 with ⟨h', rfl⟩ | ⟨h', hj'⟩
        · rfl
        · omega
        · omega
        · rw [hj] at hj'; simpa using hj'.symm
      subst this
      rw [hc] at h1; simp only [Option.some.injEq] at h1; subst h1
      exact ⟨H'[id], by simp [hlt], h3⟩
    split at hp
    · rename_i hid
      obtain ⟨cs, h1, h2⟩ := hw.rhoid _ _ _ hp
      obtain ⟨cs', h3, h4⟩ := key id cs h1 (.inl ⟨hid, rfl⟩)
      exact ⟨cs', h3, by omega⟩
    · rename_i hid
      split at hp
      · rename_i k hkj
        split at hp
        · rename_i hg
          obtain ⟨_, cs, h1⟩ := hk k (List.mem_of_getElem? hkj)
          rw [h1] at hg; simp only [Option.map_some, Option.some.injEq] at hg
          obtain ⟨cs', h3, h4⟩ := key k cs h1 (.inr ⟨by omega, hkj⟩)
          exact ⟨cs', h3, by omega⟩
        · simp at hp
      · simp at hp
  · refine ⟨hs.sz, hs.keep, hs.bszk, hs.fro, fun b hb => .inl (hs.fz b hb), fun b hb hlt => ?_, fun id gen p hp => ?_, fun id cs b δ hlt hc hp => ?_, by rw [hfl]; omega, hs.same⟩
    · rcases hb with hb | ⟨id, cs, δ, h1, _, h3, h4⟩
      · exact hs.fznew b hb hlt
      · obtain ⟨cs₀, h5, _⟩ := hs.hbi id cs b δ hlt h3 h4
        have := (List.getElem?_eq_some_iff.1 h5).1
        omega
    · have h1 := hs.rho id gen p hp
      have hid : id < H₀.length := hw₀.ids _ _ _ hp
      simp only [frG, if_pos hid]; exact h1
    · obtain ⟨k, c1, h1, h2, h3, h4, _⟩ := hrho id cs hc
      rw [h2] at hp
      obtain ⟨cs₀, h5, h6⟩ := hs.hbi k c1 b δ hlt h1 hp
      have hkl := (List.getElem?_eq_some_iff.1 h5).1
      rcases h3 with ⟨_, rfl⟩ | ⟨_, _, h⟩
      · exact ⟨cs₀, h5, h6⟩
      · omega
def z1z (P : Program) (fn : Func) (H₀ : List (List AV)) (r : AV) (H' : List (List AV)) : XE → St → Prop := fun e st =>
  (match e with | .exit _ => False | _ => True) ∧ ∃ vs keep, (fn.results.toList.map (resV P st)).mapM id = some vs ∧ keep.Nodup ∧
    (∀ k ∈ keep, H₀.length ≤ k ∧ ∃ cs, st.H[k]? = some cs) ∧ FrW H₀.length keep st.H H' ∧ Fr H₀.length keep st.H (zaf vs) r
theorem Spec.introL {P : Program} {f : Nat} {fn : Func} {body : Code} {args : List AV} {H H' : List (List AV)} {r : AV} (hf : P.funcs[f]? = some fn) (hb : fn.body = some body)
    (hd : zdc fn.ntmps body = true) (hn : args.length ≤ fn.ntmps) (esc : Bool) (fz : List Nat) {draw : Array Oper → (St → Prop) → St → Prop} (hdr : ∀ C : Cx, C.P = P → C.cfg = ⟨esc, 0, fz⟩ → zfr C draw)
    (h : Ex P ⟨esc, 0, fz⟩ draw body (z1z P fn H r H') ⟨zbp 0 args, [], H⟩) : Spec P f args H r H' := by
  intro w g cargs hw hl
  have hsz : cargs.size = args.length := by have := zat hl; simpa using this
  refine calls_of_wp hf hb ?_
  let C : Cx := ⟨P, ⟨esc, 0, fz⟩, w, g, H, fn.ntmps⟩
  have hs : zge C ⟨zbp 0 args, [], H⟩ { tmps := cargs ++ Array.replicate (fn.ntmps - cargs.size) undef, defers := [] } w := by
    refine ⟨g, fun _ => 0, hw, Since.refl hw, ⟨fun key cs hc => by simp [lk] at hc, fun k k' h1 h2 _ => by simp [lk] at h1⟩, fun t e he => ?_, rfl, ?_, Nat.zero_le _, fun id cs hid _ => absurd hid (Nat.not_lt_zero _)⟩
    · obtain ⟨_, x, h1, h2⟩ := zi4 (lam := fun _ => 0) hl he
      refine ⟨x, ?_, h2⟩
      rw [Nat.sub_zero] at h1
      have hlt : t < cargs.size := by have := (List.getElem?_eq_some_iff.1 h1).1; simpa using this
      rw [Array.getElem?_append_left hlt]; simpa using h1
    · simp [C]; omega
  refine wp_mono (zdz (C := C) (hdr C rfl rfl) body _ _ _ w hd h hs) fun e a w' he => ?_
  have key : ∀ e' st, zge C st a w' → z1z P fn H r H' e' st → a.defers = [] ∧ ∃ v, (results fn a.tmps).run P w' = .ok v w' ∧
      ∃ v₁ g', (Ending.returned v) = .returned v₁ ∧ WRep w' g' H' ∧ Since w g H w' g' H' ∧ zaj w' g' r v₁ := by
    rintro e' st ⟨g', lam, hs'⟩ ⟨_, vs, keep, h1, h2, h3, h4, h5⟩
    obtain ⟨xs, j1, j2⟩ := zmg hs' fn.results.toList vs h1
    dsimp only [C] at j1
    obtain ⟨k1, k2⟩ := zp3 hw hs'.wr hs'.si h2 h3 h4
    refine ⟨hs'.defs, ?_⟩
    have hrun : (fn.results.mapM (zyu a)).run P w' = .ok xs.toArray w' := by
      rw [Array.mapM_eq_mapM_toList, map_eq_pure_bind, Sem.run_bind, j1]
      simp
    obtain ⟨d, h5⟩ := h5
    have hxl := zat j2
    have hv : zaj w' g' (zaf vs) (if h : xs.toArray.size = 1 then xs.toArray[0] else .tuple xs.toArray) := by
      match vs, xs, j2, hxl with
      | [], [], j2, _ => simp only [zaf]; simp [zaj, zba]
      | [v], [x], j2, _ =>
        simp only [zba] at j2
        obtain ⟨y, rest, hh, j3, j4⟩ := j2
        simp only [List.cons.injEq] at hh; obtain ⟨rfl, rfl⟩ := hh
        simpa [zaf] using j3
      | v :: v' :: vs, x :: x' :: xs, j2, _ =>
        have : ¬ ((x :: x' :: xs).toArray.size = 1) := by simp
        rw [dif_neg this]
        simp only [zaf, zaj]
        exact ⟨_, rfl, by simpa using j2⟩
      | [], _ :: _, _, h => simp at h
      | [_], [], _, h => simp at h
      | [_], _ :: _ :: _, _, h => simp at h
      | _ :: _ :: _, [], _, h => simp at h
      | _ :: _ :: _, [_], _, h => simp at h
    refine ⟨_, ?_, _, frG g' H.length keep st.H, rfl, k1, k2, zmp hs'.wr (fun k hk => (h3 k hk).1) d _ r _ h5 hv⟩
    simp only [results, Sem.run_bind]
    exact congrArg (fun q => Result.andThen q (fun vs w'' => (Sem.run P (Pure.pure (if h : vs.size = 1 then vs[0] else Value.tuple vs)) w''))) hrun
  cases e <;> simp only [Post] at he
  · obtain ⟨st, h1, h2⟩ := he; exact key _ st h1 h2
  · obtain ⟨st, h1, h2⟩ := he; exact h2.1.elim
  · obtain ⟨st, h1, h2⟩ := he; exact key _ st h1 h2
end Go.Sx
set_option linter.unusedVariables false
set_option linter.unusedSimpArgs false
set_option maxRecDepth 20000
namespace Go.Sx
def znx (H₀ : List (List AV)) (r : AV) (H' H : List (List AV)) (vs : List AV) : Prop :=
  ∃ keep : List Nat, keep.Nodup ∧ (∀ k ∈ keep, H₀.length ≤ k ∧ ∃ cs, H[k]? = some cs) ∧ FrW H₀.length keep H H' ∧ Fr H₀.length keep H (zaf vs) r
theorem zu8 {P : Program} {fn : Func} {H₀ H H' : List (List AV)} {r : AV} {x : XE} {rs : List ResultVar} {e : List (Nat × EV)} {L : List (Nat × List AV)} (hx : x = .ret ∨ x = .normal) (hf : fn.results.toList = rs) (h : rK P rs [] (znx H₀ r H' H) ⟨e, L, H⟩) : z1z P fn H₀ r H' x ⟨e, L, H⟩ := by
  obtain ⟨vs, h1, keep, h2, h3, h4, h5⟩ := h
  subst hf
  exact ⟨by rcases hx with rfl | rfl <;> trivial, vs, keep, h1, h2, h3, h4, by simpa using h5⟩
def zyn (H : List (List AV)) : Prop := ∀ (id : Nat) cs, H[id]? = some cs → mxL cs ≤ H.length
theorem Spec.mxok {P : Program} {f : Nat} {args : List AV} {H H' : List (List AV)} {r : AV} (h : zyn H → Spec P f args H r H') : Spec P f args H r H' := by
  intro w g c hw hl
  exact h (fun id cs hc => by obtain ⟨_, _, _, _, _, _, _, _, _, h6⟩ := hw.blk id cs hc; exact h6) w g c hw hl
theorem za7.zero (H H' : List (List AV)) : za7 0 H H' := fun id _ h _ => absurd h (Nat.not_lt_zero id)
theorem Spec.introL' {P : Program} {f : Nat} {fn : Func} {body : Code} {args : List AV} {H H' : List (List AV)} {r : AV} (hf : P.funcs[f]? = some fn) (hb : fn.body = some body)
    (hd : zdc fn.ntmps body = true) (hn : args.length ≤ fn.ntmps) (esc : Bool) (fz : List Nat) {draw : Array Oper → (St → Prop) → St → Prop} (hdr : ∀ C : Cx, C.P = P → C.cfg = ⟨esc, 0, fz⟩ → zfr C draw)
    (h : Ex P ⟨esc, 0, fz⟩ draw body (z1z P fn H r H') ⟨zbp 0 args, [], H ++ []⟩) : Spec P f args H r H' :=
  Spec.introL hf hb hd hn esc fz hdr (by rw [List.append_nil] at h; exact h)
end Go.Sx
set_option linter.unusedVariables false
set_option linter.unusedSimpArgs false
set_option maxRecDepth 20000
namespace Go.Sx
open Go.Proofs
def wC (s : Int) (b n : Nat) (p : AV) : List AV := [.int .i64 s, .int .i64 s, .int .i64 s, (.slm b (n * n) 0 (n * n) 1), .int .i64 0, .int .i64 (n : Int), .int .i64 (n : Int), .int .i64 ((max n 1 : Nat) : Int), p]
abbrev wP (w : Nat) : AV := .eptr (.slm w 9 0 1 9) 0
@[simp] theorem z5c (s : Int) (b n : Nat) (p : AV) : (wC s b n p).length = 9 := rfl
theorem z03 {H : List (List AV)} {D : AV} {n : Nat} {l : List AV} {b : Nat} {X : List AV} (hb : H[b]? = some X) (hl : 0 < n) (hn : l.length = n) : ptrEq H (.sl none n l) 0 (.slm b X.length 0 X.length 1) 0 = some false := by
  cases l with
  | nil => simp at hn; omega
  | cons x t => simp [ptrEq, zls, hb]
attribute [local irreducible] Ex zau exD opX opE zdh zfd zfl Spec zaa Fr zdg zbf zbe ckK zcq zda zbo faK zcz ze4 gK fK rK zgd lpX prK
theorem zva (H : List (List AV)) (w b : Nat) (s : Int) (p : AV) (g : Nat → Nat → Nat) (n : Nat) (hn : n ≤ 64) (hw : H[w]? = some (wC s b n p)) (hb : H[b]? = some (fl (cmA g n n))) (k t : Nat) (hk : k < t) (ht : t ≤ n) :
    zaa Try.prog 75 [wP w, .int .i64 (k : Int), .int .i64 (t : Int)] H (vt (.sl none (t - (k + 1)) (fl (urK g k (t - (k + 1))))) 0 ((t - (k + 1) : Nat) : Int) 1) H := by
  refine .go Try.call75 Try.func75 false [24] dOk ?_
  simp only [zbp, Nat.reduceAdd]
  repeat' (first
 |(refine za4 ?_; (first | refine zcm ?_ | refine zay ?_ | fail))
 |(refine za5 ?_; (first | refine m14 ?_ | (refine m17 ?_; first | refine m19 ?_ | refine m18 ?_) | (refine m07 ?_; (first | refine m15 ?_ | refine m16 ?_ | refine z0i hw (by exact rfl) (by exact rfl) ?_ | refine zsg hw (by exact rfl) (by exact rfl) ?_ | fail)) | refine zek (by (conv => {lhs; whnf}); done) ?_ | refine zu5 (i := 0) (N₀ := []) (by (conv => {lhs; whnf}); done) (by (conv => {lhs; whnf}); done) (by exact rfl) (by exact rfl) (by simp) (by omega) (by exact rfl) (by exact rfl) (l' := fl (urK g k (v + 1))) (by exact zvv (fun j => g k (k + 1 + j)) v) ?_ | refine zbm (by (conv => {lhs; whnf}); done) (by exact zhn _ _ _) ?_ | (refine m00 ?_; (first | refine zbk ((k + 1 : Nat) : Int) (by omega) (by omega) ?_ | refine zbk ((k + 1 + (v + 1) : Nat) : Int) (by omega) (by omega) ?_ | refine m47 ?_ | refine m48 ?_ | refine m49 ?_ | refine m50 ?_ | refine v_k ?_ | refine m51 ?_ | fail)) | refine m42 ?_ | refine zad ?_ | refine zae ?_ | refine m08 ?_ | refine zao ?_ | refine zbm (by (conv => {lhs; whnf}); done) (by first | rfl | assumption) ?_ | refine zn0 (by (conv => {lhs; whnf}); done) (by (conv => {lhs; whnf}); done) (by first | exact (by exact rfl) | exact za8 (zhn _ _ _) | fail) (by exact rfl) (by exact rfl) (by exact Nat.le_of_ble_eq_true rfl) (by (conv => {lhs; simp only [sc, List.set_cons_zero, List.set_cons_succ]}); done) ?_ | refine m24 ?_ | refine zco ?_ | refine zgg (by exact rfl) (by exact rfl) (by decide) ?_ | fail))
 |refine za2 ?_ | refine za3 ?_ | refine za1 ?_
 |(refine za6 ?_; (first | refine za0 ?_ | refine zab ?_ | (refine m06 ?_; (first | refine c_T ?_ | refine c_F ?_ | refine c_P ?_ ?_ | refine c_B ?_ ?_ | fail)) | refine zaz ?_ | refine zaq ?_ | refine zai ?_ | refine b_exit ?_ | (refine zbc [0, 1, 2, 6, 7, 8] (t - (k + 1)) (fun v => ⟨[(0, .val (wP w)), (1, .val (.int .i64 ((k : Nat) : Int))), (2, .val (.int .i64 ((t : Nat) : Int))), (6, .loc 6 0), (7, .val (gV H.length 0 v)), (8, .val (.int .i64 ((k + 1 + v : Nat) : Int)))], [(6, [.slnil, .int .i64 0, .int .i64 0, .int .i64 0])], H ++ gN (fl (urK g k v))⟩) (by exact rfl) ?_ ?_ <;> (first | intro v hv K hK | intro K) <;> (try dsimp only at *)) | fail))
 |refine m21 ?_
 |refine zbb ?_
 |(refine zbd ?_; (first | refine cA (z4l _ b g n hn (zav hb) k (k + 1 + v) (by omega) (by omega)) ?_ | fail))
 |refine zjf (by (conv => {lhs; whnf}); done) (by first | exact (by exact rfl) | exact za8 (zhn _ _ _) | fail) (by exact rfl) (by exact rfl) (by (conv => {lhs; simp only [sc, List.set_cons_zero, List.set_cons_succ]}); done) ?_
 |refine zdu ?_
 |refine m44 ?_
 |refine m40 ?_
 |(refine zdq (by (conv => {lhs; simp only [List.nil_append, List.cons_append]}); done) ?_; first | refine ⟨by exact rfl, ?_⟩ | skip)
 |refine zd9 ?_
 |(intro N' hN'; simp only [List.nil_append, List.cons_append] at hN'; subst hN')
 |refine zbz ?_ | refine zb0 ?_ | refine zby ?_ | refine m57 ?_
 |refine zfn ?_ | refine zfo ?_ | refine zfm ?_
 |(refine zfp (by exact rfl) ?_; first | exact hK | (exfalso; first | omega | (simp_all; done) | (simp_all; omega)))
 |refine m05 ?_
 |refine m04 ?_ | refine m02 ?_ | refine m03 ?_ | refine zar ?_
 |intro _)
  all_goals first
    | (exfalso; omega)
    | (refine zmi rfl ?_; exact Fr.agg (Frs.cons (zz1 (N₀ := []) (i := 0) rfl rfl (by simp) (by rw [zbs]; exact Nat.zero_le _)) (Frs.cons (Fr.old (by simp [mx])) (Frs.cons (Fr.old (by simp [mx])) (Frs.cons (Fr.old (by simp [mx, aOf, zb1])) Frs.nil)))))
end Go.Sx
set_option linter.unusedVariables false
set_option linter.unusedSimpArgs false
set_option maxRecDepth 20000
namespace Go.Sx
open Go.Proofs
theorem zg7 {h f : Nat → Nat → Nat} {n i0 j0 r c : Nat} (hr : i0 + r ≤ n) (hc : j0 + c ≤ n) :
    zah (cmA h n n) (zcy 0 ((max n 1 : Nat) : Int) (i0 : Int) (j0 : Int) (r : Int) (c : Int)) ((max n 1 : Nat) : Int) r c f = cmA (zbw h f i0 j0 r c) n n := by
  have hG := zdn (zcp h n) (i := i0) (j := j0) (r' := r) (c' := c) hr hc
  by_cases h0 : 0 < r ∧ 0 < c
  · unfold zcy at hG ⊢
    rw [if_pos (by omega)] at hG ⊢
    rw [zle (zcp h n) hr hc hG, zmk]
    refine zbq fun i j hi hj => ?_
    unfold zbw
    split
    · rfl
    · exact zgq hi hj
  · rw [zam (g' := mel (cmA h n n) (zcy 0 ((max n 1 : Nat) : Int) (i0 : Int) (j0 : Int) (r : Int) (c : Int)) ((max n 1 : Nat) : Int)) hG.2.2.2.1 hG.2.2.1 (fun i j hi hj => absurd ⟨by omega, by omega⟩ h0), zd3 hG.2.2.2.1 hG.2.2.1]
    refine zbq fun i j hi hj => ?_
    unfold zbw; rw [if_neg (by omega)]
theorem zl7 {h : Nat → Nat → Nat} {n i0 j0 r c i j : Nat} (hr : i0 + r ≤ n) (hc : j0 + c ≤ n) (hi : i < r) (hj : j < c) :
    mel (cmA h n n) (zcy 0 ((max n 1 : Nat) : Int) (i0 : Int) (j0 : Int) (r : Int) (c : Int)) ((max n 1 : Nat) : Int) i j = h (i0 + i) (j0 + j) := by
  unfold zcy
  rw [if_pos (by omega), zfz, zgq (by omega) (by omega)]
theorem ziw (H : List (List AV)) (b : Nat) (h : Nat → Nat → Nat) (n : Nat) (hn : n ≤ 64) (hb : H[b]? = some (fl (cmA h n n))) (i j r c : Nat) (hir : i + r ≤ n) (hjc : j + c ≤ n) (xi xj xr xc : Int) (hi : xi = (i : Int)) (hj : xj = (j : Int)) (hr : xr = (r : Int)) (hc : xc = (c : Int)) :
    zaa Try.prog 33 [mt (.slm b (n * n) 0 (n * n) 1) 0 (n : Int) (n : Int) ((max n 1 : Nat) : Int), .int .i64 xi, .int .i64 xj, .int .i64 xr, .int .i64 xc] H (mt (.slm b (n * n) 0 (n * n) 1) (zcy 0 ((max n 1 : Nat) : Int) (i : Int) (j : Int) (r : Int) (c : Int)) (r : Int) (c : Int) ((max n 1 : Nat) : Int)) H := by
  subst hi hj hr hc
  exact zk5 H (.slm b (n * n) 0 (n * n) 1) (cmA h n n) (FL.old hb (by simp) (by simp)) 0 n n ((max n 1 : Nat) : Int) (zi9 hn) (zcp h n) i j r c (by omega) (by omega) (by omega) (by omega) (by omega) (by omega)
theorem zz9 (H H' : List (List AV)) (b : Nat) (h : Nat → Nat → Nat) (n : Nat) (hn : n ≤ 64) (hb : H[b]? = some (fl (cmA h n n))) (k t : Nat) (hk : k < t) (ht : t ≤ n) (x : Nat) (hx : H[x]? = some (fl (lcK h k n))) (hxb : x ≠ b) (hH : H.set b (fl (cmA (zyb h k t) n n)) = H') :
    zaa Try.prog 74 [.flt zcn, vt (.slm x (n - (k + 1)) 0 (n - (k + 1)) 1) 0 ((n - (k + 1) : Nat) : Int) 1, vt (.sl none (t - (k + 1)) (fl (urK h k (t - (k + 1))))) 0 ((t - (k + 1) : Nat) : Int) 1, mt (.slm b (n * n) 0 (n * n) 1) (zcy 0 ((max n 1 : Nat) : Int) ((k + 1 : Nat) : Int) ((k + 1 : Nat) : Int) ((n - (k + 1) : Nat) : Int) ((t - (k + 1) : Nat) : Int)) ((n - (k + 1) : Nat) : Int) ((t - (k + 1) : Nat) : Int) ((max n 1 : Nat) : Int)] H (.int .i64 0) H' := by
  have hG' := zdn (zcp h n) (i := k + 1) (j := k + 1) (r' := n - (k + 1)) (c' := t - (k + 1)) (by omega) (by omega)
  have hI' := zfi (zi9 (g := h) hn) (zcp h n) (i := k + 1) (j := k + 1) (r' := n - (k + 1)) (c' := t - (k + 1)) (by omega) (by omega)
  have hv : ∀ m : Nat, m ≤ 64 → VI m 0 (m : Int) 1 := fun m hm => ⟨by omega, by omega, by omega, by omega, by omega, by omega, by omega⟩
  have hv2 : ∀ m : Nat, m ≤ 64 → MI m 0 1 (m : Int) 1 := fun m hm => ⟨by omega, by omega, by omega, by omega, by omega, by omega, by omega, by omega, by omega⟩
  have e := z3k H H' b (cmA h n n) hb _ _ _ _ hI' hG' zcn (.slm x (n - (k + 1)) 0 (n - (k + 1)) 1) (n - (k + 1)) 0 1 (hv _ (by omega)) ziy (fun i => h (k + 1 + i) k) (fun g => ⟨lcK h k n, FL.old (by rw [List.getElem?_set_ne (Ne.symm hxb)]; exact hx) (by simp) (by simp), by simp, fun i hi => by rw [show (0 + (i : Int) * 1).toNat = i by omega, lcK, zew hi]⟩)
    (fun N => by
      refine zkx _ _ _ 0 1 _ 1 rfl (hv2 _ (by omega)) _ _ _ _ _ _ rfl hI' (fun _ _ => ?_)
      simp [ptrEq, zls, zav hx, zav hb, hxb])
    (.sl none (t - (k + 1)) (fl (urK h k (t - (k + 1))))) (t - (k + 1)) 0 1 (hv _ (by omega)) ziy (fun j => h k (k + 1 + j)) (fun g => ⟨urK h k (t - (k + 1)), (by have := FL.fz (H.set b (fl (zah (cmA h n n) (zcy 0 ((max n 1 : Nat) : Int) ((k + 1 : Nat) : Int) ((k + 1 : Nat) : Int) ((n - (k + 1) : Nat) : Int) ((t - (k + 1) : Nat) : Int)) ((max n 1 : Nat) : Int) (n - (k + 1)) (t - (k + 1)) g))) none (urK h k (t - (k + 1))); rwa [zyh] at this), by simp, fun i hi => by rw [show (0 + (i : Int) * 1).toNat = i by omega, urK, zew hi]⟩)
    (fun N => by
      refine zkx _ _ _ 0 1 _ 1 rfl (hv2 _ (by omega)) _ _ _ _ _ _ rfl hI' (fun h1 _ => ?_)
      have := z03 (H := H ++ N) (D := .junk) (n := t - (k + 1)) (l := fl (urK h k (t - (k + 1)))) (zav hb) h1 (by simp)
      simpa using this)
    (by rw [zg7 (by omega) (by omega), ← hH]; congr 2; refine zbq (fun i j hi hj => ?_)
        unfold zbw zyb
        by_cases hc : k < i ∧ k < j ∧ j < t
        · rw [if_pos (by omega), if_pos hc]
          simp only [zw1]
          rw [zl7 (by omega) (by omega) (by omega) (by omega), show k + 1 + (i - (k + 1)) = i by omega, show k + 1 + (j - (k + 1)) = j by omega]
          exact zm4
        · rw [if_neg (by omega), if_neg hc])
  rw [zer] at e
  exact e
def gbQ (W : Nat → Nat → Nat → Nat) (n a : Nat) : Nat → List (List AV)
  | 0 => []
  | k + 1 => gbQ W n a k ++ [fl (lcK (zgx (swK (W k) (a + k) n) (a + k)) (a + k) n)]
@[simp] theorem zjk (W : Nat → Nat → Nat → Nat) (n a k : Nat) : (gbQ W n a k).length = k := by
  induction k with
  | zero => rfl
  | succ k ih => simp [gbQ, ih]
theorem zu3 {P : Program} {cfg : Cfg} {e : List (Nat × EV)} {L : List (Nat × List AV)} {K : St → Prop} {ty : TypeId} {pos : String} {aft : Array Edge} {gd : Option (Nat × Bool)} {dd : Nat}
    {t tx : TypeId} {s x : Operand} {by_ el' z' : Nat} {z c v0 v1 : AV} {A B : List (List AV)} [ei : EI P t 1 by_ [z]] [si : SlI P tx el' z'] (hs : St.ev ⟨e, L, A⟩ s = .val v0) (hx : St.ev ⟨e, L, A⟩ x = .val (.sl none 1 [c]))
    (ha : ∀ K' : Eff → Prop, K' ⟨some (.val v1), none, B⟩ → zj8 cfg 1 A v0 1 [c] K') (hz : (decide (by_ ≤ 2 ^ 10) && decide (0 < by_)) = true) (h : K ⟨(dd, .val v1) :: e, L, B⟩) :
    opX P cfg ⟨some dd, .call { callee := .builtin .append, args := #[s, x], argTypes := #[t, tx] }, ty, pos, aft, gd⟩ K ⟨e, L, A⟩ := by
  simp only [Bool.and_eq_true, decide_eq_true_eq] at hz
  have hsrc : zlk A 1 (.sl none 1 [c]) = some (1, [c]) := zgu rfl
  simp only [opX, opE, List.map_cons, List.map_nil, hs, hx, EV.asV, ei.h, si.h, hsrc]
  exact ⟨hz.1, hz.2, rfl, by decide, ha _ h⟩
attribute [local irreducible] Ex zau exD opX opE zdh zfd zfl Spec zaa Fr zdg zbf zbe ckK zcq zda zbo faK zcz ze4 gK fK rK zgd lpX prK
end Go.Sx
set_option linter.unusedVariables false
set_option linter.unusedSimpArgs false
set_option maxRecDepth 20000
namespace Go.Sx
open Go.Proofs
theorem zma (H H' : List (List AV)) (b : Nat) (g : Nat → Nat → Nat) (n : Nat) (hn : n ≤ 64) (hb : H[b]? = some (fl (cmA g n n))) (k : Nat) (hk : k < n) (hH : H.set b (fl (cmA (swK g k n) n n)) = H') (ok : Bool) (hok : feq (swK g k n k k) 0 = !ok) :
    zaa Try.prog 72 [mt (.slm b (n * n) 0 (n * n) 1) 0 (n : Int) (n : Int) ((max n 1 : Nat) : Int), .int .i64 (k : Int)] H (.tup [.int .i64 (pvK g k n : Int), .bool ok]) H' := by
  have := zxv H H' b g n hn hb k hk hH
  rw [hok, Bool.not_not] at this
  exact this
def slX (b q lo m : Nat) : AV := if 0 < m then .slm b q lo m 1 else .sl none 0 []
theorem zry {b q lo hi m : Nat} (h : hi = lo + m) : zsi 1 lo hi (.slm b q 0 q 1) = some (slX b q lo m) := by
  unfold slX zsi
  subst h
  show (if (1 : Nat) = 1 then _ else _) = _
  rw [if_pos rfl]
  by_cases hm : 0 < m
  · rw [if_pos hm, if_pos (by omega)]; simp
  · rw [if_neg hm, if_neg (by omega)]
theorem zrz {H : List (List AV)} {b n : Nat} {h : Nat → Nat → Nat} {k : Nat} (hb : H[b]? = some (fl (cmA h n n))) (hk : k < n) : zlk H 1 (slX b (n * n) (k * n + (k + 1)) (n - (k + 1))) = some (n - (k + 1), fl (lcK h k n)) := by
  unfold slX
  have hl : n * n = (cmA h n n).length := by simp [cmA]
  split
  · have hkn : k * n + n ≤ n * n := by have h1 := Nat.mul_le_mul_right n (show k + 1 ≤ n by omega); rw [Nat.add_mul] at h1; omega
    have h1 := z1c (FL.slm (H := H) (id := b) (g := n * n) (off := k * n + (k + 1)) (n := n - (k + 1)) (l := lcK h k n) (m := cmA h n n) hb (by simp) (by simp; omega) (zpp hk).symm)
    simpa using h1
  · rename_i h0
    have e : lcK h k n = [] := List.eq_nil_of_length_eq_zero (by simp; omega)
    rw [e, show n - (k + 1) = 0 by omega]; rfl
theorem zrx {b n k m : Nat} : slen (slX b n k m) = some m := by
  unfold slX; split
  · rfl
  · rw [show m = 0 by omega]; rfl
theorem zzg {P : Program} {cfg : Cfg} {e : List (Nat × EV)} {L : List (Nat × List AV)} {A B : List (List AV)} {K : St → Prop} {ty : TypeId} {pos : String} {aft : Array Edge} {gd : Option (Nat × Bool)}
    {t : TypeId} {x v : Operand} {w off : Nat} {a : Bool} {cs : List AV} {c : AV} {ev : EV} [ti : TyI P t 1 a] (hx : St.ev ⟨e, L, A⟩ x = .val (.eptr (.slm w 9 0 1 9) off)) (hv : St.ev ⟨e, L, A⟩ v = ev) (hvs : ev.asV.bind AV.cells = some [c])
    (hc : A[w]? = some cs) (hg : cs.length = 9) (ho : off < 9) (hm : cfg.n0 ≤ w ∨ mx c ≤ cfg.n0) (hB : A.set w (cs.set off c) = B) (h : K ⟨e, L, B⟩) :
    opX P cfg ⟨none, .store t x v, ty, pos, aft, gd⟩ K ⟨e, L, A⟩ := by
  subst hB
  refine zss hx hv hvs rfl hc hg (by simp; omega) (by rcases hm with h | h; exact .inl h; exact .inr (by simpa [mxL] using h)) rfl ?_
  rw [Nat.zero_add, zrt]; exact h
theorem zjj {W : Nat → Nat → Nat → Nat} {n a k : Nat} {x : List AV} : (gbQ W n a k ++ [x])[k]? = some x := zjl (zjk W n a k).symm
theorem zp6 {W : Nat → Nat → Nat → Nat} {n a k : Nat} {x y : List AV} : (gbQ W n a k ++ [x]).set k y = gbQ W n a k ++ [y] := zno (zjk W n a k).symm
attribute [local irreducible] Ex zau exD opX opE zdh zfd zfl Spec zaa Fr zdg zbf zbe ckK zcq zda zbo faK zcz ze4 gK fK rK zgd lpX prK
theorem zq8 (H : List (List AV)) (w b : Nat) (s : Int) (n : Nat) (hn : n ≤ 64) (PH QH RH : (Nat → Nat → Nat) → Nat → List (List AV)) (PV : Nat → AV) (W : Nat → Nat → Nat → Nat) (a m : Nat) (ham : a + m ≤ n) (hWs : ∀ k, k < m → W (k + 1) = elT (swK (W k) (a + k) n) (a + k) (a + m))
  (hH : H = PH (W 0) 0) (hwA : ∀ g k, (PH g k)[w]? = some (wC s b n (PV k))) (hbA : ∀ g k, (PH g k)[b]? = some (fl (cmA g n n))) (hsA : ∀ g g' k N, (PH g k ++ N).set b (fl (cmA g' n n)) = PH g' k ++ N)
  (hPc : ∀ k, (PV k).cells = some [PV k]) (hpA : ∀ g k N (K' : Eff → Prop), k < m → (k = 0 → N = []) → K' ⟨some (.val (PV (k + 1))), none, QH g k ++ N⟩ → zj8 ⟨false, 0, [46]⟩ 1 (PH g k ++ N) (PV k) 1 [.int .i64 (pvK (W k) (a + k) n : Int)] K')
  (hqA : ∀ g k, (QH g k)[w]? = some (wC s b n (PV k))) (hqS : ∀ g k N, (QH g k ++ N).set w (wC s b n (PV (k + 1))) = PH g (k + 1) ++ N)
  (hfin : zyn H → ∀ g k N v, k ≤ m → znx H (.int .i64 v) (RH g k) (PH g k ++ N) [.int .i64 v]) (z : Nat) (hz : z < m) (hno : ∀ k, k < z → feq ((swK (W k) (a + k) n) (a + k) (a + k)) 0 = false) (hyes : feq ((swK (W z) (a + z) n) (a + z) (a + z)) 0 = true) :
    zaa Try.prog 54 [wP w, .int .i64 (a : Int), .int .i64 (m : Int)] H (.int .i64 ((a + z + 1 : Nat) : Int)) (RH (swK (W z) (a + z) n) z) := by
  have hkn : ∀ k, k < m → ((a + k) * n + (a + k + 1)) + (n - (a + k + 1)) ≤ n * n ∧ n * n ≤ 4096 := fun k hk => by
    have h1 := Nat.mul_le_mul_right n (show a + k + 1 ≤ n by omega)
    have h2 := Nat.mul_le_mul hn hn
    rw [Nat.add_mul] at h1
    exact ⟨by omega, by omega⟩
  subst hH
  refine .mk (fun args w => Try.call54 args w) (Spec.mxok (fun hmx => Spec.introL' (fn := Try.f54) Try.func54 rfl (by kernel_rfl) (by simp) false [46] (draw := zhl Try.prog ⟨false, 0, [46]⟩) dOk ?_))
  simp only [zbp, Nat.reduceAdd]
  repeat' (first
 |(refine za4 ?_; (first | refine zcm ?_ | refine zay ?_ | fail))
 |(refine za5 ?_; (first | refine m14 ?_ | (refine m17 ?_; first | refine m19 ?_ | refine m18 ?_) | (refine m07 ?_; (first | refine m15 ?_ | refine m16 ?_ | refine zsg (hwA _ _) (by exact rfl) (by exact rfl) ?_ | refine z0i (hwA _ _) (by exact rfl) (by exact rfl) ?_ | fail)) | refine zek (by (conv => {lhs; whnf}); done) ?_ | refine zu3 (by (conv => {lhs; whnf}); done) (by (conv => {lhs; whnf}); done) (fun K' h => hpA _ k _ K' (by omega) (fun h0 => by subst h0; rfl) h) (by exact rfl) ?_ | refine zzg (by (conv => {lhs; whnf}); done) (by (conv => {lhs; whnf}); done) (by exact hPc _) (zav (hqA _ _)) (by exact rfl) (by decide) (.inl (Nat.zero_le _)) (hqS _ _ _) ?_ | refine zsr (by (conv => {lhs; whnf}); done) (by exact rfl) (by exact rfl) (by exact rfl) (by have := hkn k (by omega); omega) (by exact zry (m := n - (a + k + 1)) (by omega)) ?_ | refine zpa (i := k) (by exact rfl) (by exact rfl) (by decide) (by exact rfl) (by exact zjk W n a k) ?_ | refine zkf (i := k) (q := n - (a + k + 1)) (g' := n - (a + k + 1)) (by (conv => {lhs; whnf}); done) (by (conv => {lhs; whnf}); done) (by exact rfl) (by exact zjj) (by exact zrz (zav (hbA _ _)) (by omega)) (by exact rfl) (by exact rfl) (by simp; omega) (.inl (Nat.zero_le _)) (by exact rfl) (by exact rfl) (by exact zp6) (by simp) (by simp) ?_ | (refine m00 ?_; (first | refine zbk ((a + m : Nat) : Int) (by omega) (by omega) ?_ | refine zbk ((a + k : Nat) : Int) (by omega) (by omega) ?_ | refine zbk ((a + (k + 1) : Nat) : Int) (by omega) (by omega) ?_ | refine zbk ((a + k + 1 : Nat) : Int) (by omega) (by omega) ?_ | refine zbk ((n - (a + k + 1) : Nat) : Int) (by omega) (by omega) ?_ | refine zbk ((a + m - (a + k + 1) : Nat) : Int) (by omega) (by omega) ?_ | refine zbk ((n - (a + k) : Nat) : Int) (by omega) (by omega) ?_ | refine zbk ((a + m - (a + k) : Nat) : Int) (by omega) (by omega) ?_ | refine zbk ((a + z + 1 : Nat) : Int) (by omega) (by omega) ?_ | refine zbk ((((a + k) * n + (a + k + 1)) + (n - (a + k + 1)) : Nat) : Int) (by have := hkn k (by omega); omega) (by omega) ?_ | refine m47 ?_ | refine m48 ?_ | refine m49 ?_ | refine m50 ?_ | refine zdk ?_ | refine zdi ?_ | refine zdj ?_ | refine v_k ?_ | refine m51 ?_ | fail)) | refine m42 ?_ | refine zad ?_ | refine zae ?_ | refine m08 ?_ | (refine m20 ?_; (first | refine zbk ((a + m : Nat) : Int) (by omega) (by omega) ?_ | refine zbk ((a + k : Nat) : Int) (by omega) (by omega) ?_ | refine zbk ((a + (k + 1) : Nat) : Int) (by omega) (by omega) ?_ | refine zbk ((a + k + 1 : Nat) : Int) (by omega) (by omega) ?_ | refine zbk ((n - (a + k + 1) : Nat) : Int) (by omega) (by omega) ?_ | refine zbk ((a + m - (a + k + 1) : Nat) : Int) (by omega) (by omega) ?_ | refine zbk ((n - (a + k) : Nat) : Int) (by omega) (by omega) ?_ | refine zbk ((a + m - (a + k) : Nat) : Int) (by omega) (by omega) ?_ | refine zbk ((a + z + 1 : Nat) : Int) (by omega) (by omega) ?_ | refine zbk ((((a + k) * n + (a + k + 1)) + (n - (a + k + 1)) : Nat) : Int) (by have := hkn k (by omega); omega) (by omega) ?_ | refine m47 ?_ | refine m48 ?_ | refine m49 ?_ | refine m50 ?_ | refine zdk ?_ | refine zdi ?_ | refine zdj ?_ | refine v_k ?_ | refine m51 ?_ | fail)) | refine zao ?_ | refine m23 ?_ | refine zn0 (by (conv => {lhs; whnf}); done) (by (conv => {lhs; whnf}); done) (by first | exact (by exact rfl) | exact za8 zrx | fail) (by exact rfl) (by exact rfl) (by exact Nat.le_of_ble_eq_true rfl) (by (conv => {lhs; simp only [sc, List.set_cons_zero, List.set_cons_succ]}); done) ?_ | refine m24 ?_ | refine zgg (by exact rfl) (by exact rfl) (by decide) ?_ | fail))
 |(refine zcv ?_; (first | refine m36 ?_ | refine zct ?_ | fail))
 |(refine zcu ?_; (first | refine zfe ?_ | refine zh6 ?_ | refine zh7 (by (conv => {lhs; whnf}); done) ?_ | refine zh8 ?_ | refine zh5 (by exact rfl) (by exact rfl) ?_ | refine m34 ?_ | refine m35 ?_ | refine m33 ?_ | refine zff ?_ | refine m56 ?_ | refine zcw ?_ | refine zdr (by exact rfl) ?_ | fail))
 |refine za2 ?_ | refine za3 ?_ | refine za1 ?_
 |(refine za6 ?_; (first | refine za0 ?_ | refine zab ?_ | (refine m06 ?_; (first | refine c_T ?_ | refine c_F ?_ | refine c_P ?_ ?_ | refine c_B ?_ ?_ | fail)) | refine zaz ?_ | refine zaq ?_ | refine zai ?_ | refine b_exit ?_ | refine zax (id := 12) [] [22] [(0, .ld true), (1, .lt), (2, .lt), (3, .lt), (5, .lt), (6, .lt), (7, .lt), (8, .ld true), (9, .lt), (10, .lt), (11, .lt), (12, .lt), (13, .lt), (14, .lt), (15, .lt), (16, .lt), (17, .lt), (18, .lt), (19, .lt), (20, .lt), (4, .mn true), (21, .mn true), (22, .mn false)] (by kernel_rfl) ?_ | (refine zbc [0, 7, 8, 9] z (fun k => ⟨[(0, .val (wP w)), (7, .val (.int .i64 ((n : Nat) : Int))), (8, .val (.int .i64 ((a + m : Nat) : Int))), (9, .val (.int .i64 ((a + k : Nat) : Int)))], [], PH (W k) k ++ gbQ W n a k⟩) (by exact rfl) ?_ ?_ <;> (first | intro k hk K hK | intro K) <;> (try dsimp only at *)) | fail))
 |refine m43 ?_
 |refine zcs ?_
 |refine m21 ?_
 |refine zbb ?_
 |(refine zbd ?_; (first | refine c_call (zma _ _ b (W k) n hn (zav (hbA _ _)) (a + k) (by omega) (hsA _ _ _ _) true (hno k (by omega))) (za7.zero _ _) ?_ | refine c_call (zmv _ _ b (swK (W k) (a + k) n) n hn (zav (hbA _ _)) (a + k) (by omega) (hsA _ _ _ _)) (za7.zero _ _) ?_ | refine c_call (zva _ w b s _ (zgx (swK (W k) (a + k) n) (a + k)) n hn (zav (hwA _ _)) (zav (hbA _ _)) (a + k) (a + m) (by omega) (by omega)) (za7.zero _ _) ?_ | refine c_call (ziw _ b (zgx (swK (W k) (a + k) n) (a + k)) n hn (zav (hbA _ _)) (a + k + 1) (a + k + 1) (n - (a + k + 1)) (a + m - (a + k + 1)) (by omega) (by omega) _ _ _ _ (by omega) (by omega) (by omega) (by omega)) (za7.zero _ _) ?_ | refine c_call (zz9 _ _ b (zgx (swK (W k) (a + k) n) (a + k)) n hn (zav (hbA _ _)) (a + k) (a + m) (by omega) (by omega) _ (zbg (by exact rfl) zjj) (by have := (List.getElem?_eq_some_iff.1 (hbA (zgx (swK (W k) (a + k) n) (a + k)) (k + 1))).1; omega) (hsA _ _ _ _)) (za7.zero _ _) ?_ | refine c_call (zma _ _ b (W z) n hn (zav (hbA _ _)) (a + z) (by omega) (hsA _ _ _ _) false hyes) (za7.zero _ _) ?_ | fail))
 |refine m44 ?_
 |refine m40 ?_
 |(refine zdq (by (conv => {lhs; simp only [List.nil_append, List.cons_append]}); done) ?_; first | refine ⟨by exact rfl, ?_⟩ | skip)
 |refine zd9 ?_
 |(intro N' hN'; subst hN')
 |refine zbz ?_ | refine zb0 ?_ | refine zby ?_ | refine m57 ?_
 |refine zfn ?_ | refine zfo ?_ | refine zfm ?_
 |(refine zfp (by exact rfl) ?_; first | exact hK | (rw [hWs k (by omega)] at hK; exact hK) | (exfalso; first | omega | (simp_all; done) | (simp_all; omega)))
 |(refine zu8 (by simp) (by (conv => {lhs; whnf}); done) ?_)
 |refine m04 ?_ | refine m02 ?_ | refine m03 ?_ | refine zar ?_
 |(refine ⟨by simp [zt1], fun N' hN' => ?_⟩; simp only [List.nil_append, List.cons_append] at hN'; subst hN')
 |intro _)
  all_goals first
    | (exfalso; omega)
    | exact hfin hmx _ _ _ _ (by omega)
theorem zq7 (H : List (List AV)) (w b : Nat) (s : Int) (n : Nat) (hn : n ≤ 64) (PH QH RH : (Nat → Nat → Nat) → Nat → List (List AV)) (PV : Nat → AV) (W : Nat → Nat → Nat → Nat) (a m : Nat) (ham : a + m ≤ n) (hWs : ∀ k, k < m → W (k + 1) = elT (swK (W k) (a + k) n) (a + k) (a + m))
  (hH : H = PH (W 0) 0) (hwA : ∀ g k, (PH g k)[w]? = some (wC s b n (PV k))) (hbA : ∀ g k, (PH g k)[b]? = some (fl (cmA g n n))) (hsA : ∀ g g' k N, (PH g k ++ N).set b (fl (cmA g' n n)) = PH g' k ++ N)
  (hPc : ∀ k, (PV k).cells = some [PV k]) (hpA : ∀ g k N (K' : Eff → Prop), k < m → (k = 0 → N = []) → K' ⟨some (.val (PV (k + 1))), none, QH g k ++ N⟩ → zj8 ⟨false, 0, [46]⟩ 1 (PH g k ++ N) (PV k) 1 [.int .i64 (pvK (W k) (a + k) n : Int)] K')
  (hqA : ∀ g k, (QH g k)[w]? = some (wC s b n (PV k))) (hqS : ∀ g k N, (QH g k ++ N).set w (wC s b n (PV (k + 1))) = PH g (k + 1) ++ N)
  (hfin : zyn H → ∀ g k N v, k ≤ m → znx H (.int .i64 v) (RH g k) (PH g k ++ N) [.int .i64 v]) (hno : ∀ k, k < m → feq ((swK (W k) (a + k) n) (a + k) (a + k)) 0 = false) :
    zaa Try.prog 54 [wP w, .int .i64 (a : Int), .int .i64 (m : Int)] H (.int .i64 0) (RH (W m) m) := by
  have hkn : ∀ k, k < m → ((a + k) * n + (a + k + 1)) + (n - (a + k + 1)) ≤ n * n ∧ n * n ≤ 4096 := fun k hk => by
    have h1 := Nat.mul_le_mul_right n (show a + k + 1 ≤ n by omega)
    have h2 := Nat.mul_le_mul hn hn
    rw [Nat.add_mul] at h1
    exact ⟨by omega, by omega⟩
  subst hH
  refine .mk (fun args w => Try.call54 args w) (Spec.mxok (fun hmx => Spec.introL' (fn := Try.f54) Try.func54 rfl (by kernel_rfl) (by simp) false [46] (draw := zhl Try.prog ⟨false, 0, [46]⟩) dOk ?_))
  simp only [zbp, Nat.reduceAdd]
  repeat' (first
 |(refine za4 ?_; (first | refine zcm ?_ | refine zay ?_ | fail))
 |(refine za5 ?_; (first | refine m14 ?_ | (refine m17 ?_; first | refine m19 ?_ | refine m18 ?_) | (refine m07 ?_; (first | refine m15 ?_ | refine m16 ?_ | refine zsg (hwA _ _) (by exact rfl) (by exact rfl) ?_ | refine z0i (hwA _ _) (by exact rfl) (by exact rfl) ?_ | fail)) | refine zek (by (conv => {lhs; whnf}); done) ?_ | refine zu3 (by (conv => {lhs; whnf}); done) (by (conv => {lhs; whnf}); done) (fun K' h => hpA _ k _ K' (by omega) (fun h0 => by subst h0; rfl) h) (by exact rfl) ?_ | refine zzg (by (conv => {lhs; whnf}); done) (by (conv => {lhs; whnf}); done) (by exact hPc _) (zav (hqA _ _)) (by exact rfl) (by decide) (.inl (Nat.zero_le _)) (hqS _ _ _) ?_ | refine zsr (by (conv => {lhs; whnf}); done) (by exact rfl) (by exact rfl) (by exact rfl) (by have := hkn k (by omega); omega) (by exact zry (m := n - (a + k + 1)) (by omega)) ?_ | refine zpa (i := k) (by exact rfl) (by exact rfl) (by decide) (by exact rfl) (by exact zjk W n a k) ?_ | refine zkf (i := k) (q := n - (a + k + 1)) (g' := n - (a + k + 1)) (by (conv => {lhs; whnf}); done) (by (conv => {lhs; whnf}); done) (by exact rfl) (by exact zjj) (by exact zrz (zav (hbA _ _)) (by omega)) (by exact rfl) (by exact rfl) (by simp; omega) (.inl (Nat.zero_le _)) (by exact rfl) (by exact rfl) (by exact zp6) (by simp) (by simp) ?_ | (refine m00 ?_; (first | refine zbk ((a + m : Nat) : Int) (by omega) (by omega) ?_ | refine zbk ((a + k : Nat) : Int) (by omega) (by omega) ?_ | refine zbk ((a + (k + 1) : Nat) : Int) (by omega) (by omega) ?_ | refine zbk ((a + k + 1 : Nat) : Int) (by omega) (by omega) ?_ | refine zbk ((n - (a + k + 1) : Nat) : Int) (by omega) (by omega) ?_ | refine zbk ((a + m - (a + k + 1) : Nat) : Int) (by omega) (by omega) ?_ | refine zbk ((n - (a + k) : Nat) : Int) (by omega) (by omega) ?_ | refine zbk ((a + m - (a + k) : Nat) : Int) (by omega) (by omega) ?_ | refine zbk ((a + m + 1 : Nat) : Int) (by omega) (by omega) ?_ | refine zbk ((((a + k) * n + (a + k + 1)) + (n - (a + k + 1)) : Nat) : Int) (by have := hkn k (by omega); omega) (by omega) ?_ | refine m47 ?_ | refine m48 ?_ | refine m49 ?_ | refine m50 ?_ | refine zdk ?_ | refine zdi ?_ | refine zdj ?_ | refine v_k ?_ | refine m51 ?_ | fail)) | refine m42 ?_ | refine zad ?_ | refine zae ?_ | refine m08 ?_ | (refine m20 ?_; (first | refine zbk ((a + m : Nat) : Int) (by omega) (by omega) ?_ | refine zbk ((a + k : Nat) : Int) (by omega) (by omega) ?_ | refine zbk ((a + (k + 1) : Nat) : Int) (by omega) (by omega) ?_ | refine zbk ((a + k + 1 : Nat) : Int) (by omega) (by omega) ?_ | refine zbk ((n - (a + k + 1) : Nat) : Int) (by omega) (by omega) ?_ | refine zbk ((a + m - (a + k + 1) : Nat) : Int) (by omega) (by omega) ?_ | refine zbk ((n - (a + k) : Nat) : Int) (by omega) (by omega) ?_ | refine zbk ((a + m - (a + k) : Nat) : Int) (by omega) (by omega) ?_ | refine zbk ((a + m + 1 : Nat) : Int) (by omega) (by omega) ?_ | refine zbk ((((a + k) * n + (a + k + 1)) + (n - (a + k + 1)) : Nat) : Int) (by have := hkn k (by omega); omega) (by omega) ?_ | refine m47 ?_ | refine m48 ?_ | refine m49 ?_ | refine m50 ?_ | refine zdk ?_ | refine zdi ?_ | refine zdj ?_ | refine v_k ?_ | refine m51 ?_ | fail)) | refine zao ?_ | refine m23 ?_ | refine zn0 (by (conv => {lhs; whnf}); done) (by (conv => {lhs; whnf}); done) (by first | exact (by exact rfl) | exact za8 zrx | fail) (by exact rfl) (by exact rfl) (by exact Nat.le_of_ble_eq_true rfl) (by (conv => {lhs; simp only [sc, List.set_cons_zero, List.set_cons_succ]}); done) ?_ | refine m24 ?_ | refine zgg (by exact rfl) (by exact rfl) (by decide) ?_ | fail))
 |(refine zcv ?_; (first | refine m36 ?_ | refine zct ?_ | fail))
 |(refine zcu ?_; (first | refine zfe ?_ | refine zh6 ?_ | refine zh7 (by (conv => {lhs; whnf}); done) ?_ | refine zh8 ?_ | refine zh5 (by exact rfl) (by exact rfl) ?_ | refine m34 ?_ | refine m35 ?_ | refine m33 ?_ | refine zff ?_ | refine m56 ?_ | refine zcw ?_ | refine zdr (by exact rfl) ?_ | fail))
 |refine za2 ?_ | refine za3 ?_ | refine za1 ?_
 |(refine za6 ?_; (first | refine za0 ?_ | refine zab ?_ | (refine m06 ?_; (first | refine c_T ?_ | refine c_F ?_ | refine c_P ?_ ?_ | refine c_B ?_ ?_ | fail)) | refine zaz ?_ | refine zaq ?_ | refine zai ?_ | refine b_exit ?_ | refine zax (id := 12) [] [22] [(0, .ld true), (1, .lt), (2, .lt), (3, .lt), (5, .lt), (6, .lt), (7, .lt), (8, .ld true), (9, .lt), (10, .lt), (11, .lt), (12, .lt), (13, .lt), (14, .lt), (15, .lt), (16, .lt), (17, .lt), (18, .lt), (19, .lt), (20, .lt), (4, .mn true), (21, .mn true), (22, .mn false)] (by kernel_rfl) ?_ | (refine zbc [0, 7, 8, 9] m (fun k => ⟨[(0, .val (wP w)), (7, .val (.int .i64 ((n : Nat) : Int))), (8, .val (.int .i64 ((a + m : Nat) : Int))), (9, .val (.int .i64 ((a + k : Nat) : Int)))], [], PH (W k) k ++ gbQ W n a k⟩) (by exact rfl) ?_ ?_ <;> (first | intro k hk K hK | intro K) <;> (try dsimp only at *)) | fail))
 |refine m43 ?_
 |refine zcs ?_
 |refine m21 ?_
 |refine zbb ?_
 |(refine zbd ?_; (first | refine c_call (zma _ _ b (W k) n hn (zav (hbA _ _)) (a + k) (by omega) (hsA _ _ _ _) true (hno k (by omega))) (za7.zero _ _) ?_ | refine c_call (zmv _ _ b (swK (W k) (a + k) n) n hn (zav (hbA _ _)) (a + k) (by omega) (hsA _ _ _ _)) (za7.zero _ _) ?_ | refine c_call (zva _ w b s _ (zgx (swK (W k) (a + k) n) (a + k)) n hn (zav (hwA _ _)) (zav (hbA _ _)) (a + k) (a + m) (by omega) (by omega)) (za7.zero _ _) ?_ | refine c_call (ziw _ b (zgx (swK (W k) (a + k) n) (a + k)) n hn (zav (hbA _ _)) (a + k + 1) (a + k + 1) (n - (a + k + 1)) (a + m - (a + k + 1)) (by omega) (by omega) _ _ _ _ (by omega) (by omega) (by omega) (by omega)) (za7.zero _ _) ?_ | refine c_call (zz9 _ _ b (zgx (swK (W k) (a + k) n) (a + k)) n hn (zav (hbA _ _)) (a + k) (a + m) (by omega) (by omega) _ (zbg (by exact rfl) zjj) (by have := (List.getElem?_eq_some_iff.1 (hbA (zgx (swK (W k) (a + k) n) (a + k)) (k + 1))).1; omega) (hsA _ _ _ _)) (za7.zero _ _) ?_ | fail))
 |refine m44 ?_
 |refine m40 ?_
 |(refine zdq (by (conv => {lhs; simp only [List.nil_append, List.cons_append]}); done) ?_; first | refine ⟨by exact rfl, ?_⟩ | skip)
 |refine zd9 ?_
 |(intro N' hN'; subst hN')
 |refine zbz ?_ | refine zb0 ?_ | refine zby ?_ | refine m57 ?_
 |refine zfn ?_ | refine zfo ?_ | refine zfm ?_
 |(refine zfp (by exact rfl) ?_; first | exact hK | (rw [hWs k (by omega)] at hK; exact hK) | (exfalso; first | omega | (simp_all; done) | (simp_all; omega)))
 |(refine zu8 (by simp) (by (conv => {lhs; whnf}); done) ?_)
 |refine m04 ?_ | refine m02 ?_ | refine m03 ?_ | refine zar ?_
 |(refine ⟨by simp [zt1], fun N' hN' => ?_⟩; simp only [List.nil_append, List.cons_append] at hN'; subst hN')
 |intro _)
  all_goals first
    | (exfalso; omega)
    | exact hfin hmx _ _ _ _ (by omega)
end Go.Sx
set_option linter.unusedVariables false
set_option linter.unusedSimpArgs false
set_option linter.unusedSectionVars false
set_option maxRecDepth 20000
namespace Go.Sx
open Go.Proofs
def pvW (W : Nat → Nat → Nat → Nat) (n a k : Nat) : List Int := (List.range k).map fun t => (pvK (W t) (a + t) n : Int)
@[simp] theorem z4e (W : Nat → Nat → Nat → Nat) (n a k : Nat) : (pvW W n a k).length = k := by simp [pvW]
theorem zg6 (W : Nat → Nat → Nat → Nat) (n a k : Nat) : pvW W n a (k + 1) = pvW W n a k ++ [(pvK (W k) (a + k) n : Int)] := by simp [pvW, List.range_succ]
theorem zqi (l : List Int) (x : Int) : il l ++ [.int .i64 x] = il (l ++ [x]) := by simp [il]
theorem zmj {H A N : List (List AV)} {v : Int} (hA : A.length = H.length) (hold : ∀ (id : Nat) cs, A[id]? = some cs → mxL cs ≤ H.length) : znx H (.int .i64 v) A (A ++ N) [.int .i64 v] := by
  refine ⟨[], by simp, fun k hk => by simp at hk, ⟨by simp [hA], fun id cs' hg => ?_⟩, Fr.old (by simp [zaf, mx])⟩
  have hid : id < A.length := (List.getElem?_eq_some_iff.1 hg).1
  have h1 := hold id cs' hg
  exact ⟨by omega, id, cs', by rw [List.getElem?_append_left hid]; exact hg, .inl ⟨by omega, rfl⟩, rfl, Frs.old h1⟩
theorem zym {s : Int} {b n : Nat} {p : AV} {m : Nat} (hb : b < m) (hp : mx p ≤ m) : mxL (wC s b n p) ≤ m := by
  simp [wC, mxL, mx]; omega
theorem zrq {H A N : List (List AV)} {v : Int} {w b n k : Nat} {s : Int} {c : List AV} (hA : A.length = H.length) (hb : b < H.length) (hold : ∀ (id : Nat) cs, id ≠ w → A[id]? = some cs → mxL cs ≤ H.length) (hw : A[w]? = some (wC s b n (gV H.length 0 k))) (hc : mxL c = 0) (hk : c.length = k) :
    znx H (.int .i64 v) (A ++ gN c) ((A ++ gN c) ++ N) [.int .i64 v] := by
  by_cases h0 : k = 0
  · have e : c = [] := List.eq_nil_of_length_eq_zero (by omega)
    subst e
    have hw' : A[w]? = some (wC s b n .slnil) := by rw [hw, h0]; rfl
    show znx H (.int .i64 v) (A ++ []) ((A ++ []) ++ N) _
    rw [List.append_nil]
    refine zmj hA fun id cs hg => ?_
    by_cases hi : id = w
    · subst hi; rw [hw'] at hg; cases hg; exact zym hb (Nat.zero_le _)
    · exact hold id cs hi hg
  · have hcn : c ≠ [] := fun e => by rw [e] at hk; simp at hk; omega
    have e1 : gN c = [c] := zth hcn
    have e2 : gV H.length 0 k = .slm (H.length + 0) k 0 k 1 := if_neg h0
    rw [e1]; rw [e2] at hw
    have hl : (A ++ [c]).length = H.length + 1 := by simp [hA]
    have hn : (A ++ [c] ++ N)[H.length]? = some c := by
      rw [List.getElem?_append_left (by rw [hl]; omega), List.getElem?_append_right (by omega), hA]; simp
    refine ⟨[H.length], by simp, fun k hk => ?_, ⟨by rw [hl]; rfl, fun id cs' hg => ?_⟩, Fr.old (by simp [zaf, mx])⟩
    · rw [List.mem_singleton.1 hk]; exact ⟨Nat.le_refl _, c, hn⟩
    · have hid : id < (A ++ [c]).length := (List.getElem?_eq_some_iff.1 hg).1
      have hg' : (A ++ [c] ++ N)[id]? = some cs' := by rw [List.getElem?_append_left hid]; exact hg
      rcases Nat.lt_or_ge id H.length with h | h
      · have hgA : A[id]? = some cs' := by rwa [List.getElem?_append_left (by omega)] at hg
        by_cases hi : id = w
        · subst hi
          rw [hw] at hgA; cases hgA
          refine ⟨by rw [hl]; exact zym (by omega) (by simp [mx]), id, _, hg', .inl ⟨h, rfl⟩, rfl, ?_⟩
          have hf := Fr.kp (n₀ := H.length) (keep := [H.length]) (H := A ++ [c] ++ N) (id := H.length + 0) (gen := k) (off := 0) (len := k) (sz := 1) (j := 0) (cs := c) rfl hn hk
          unfold wC
          refine Frs.cons (Fr.old (by simp [mx])) (Frs.cons (Fr.old (by simp [mx])) (Frs.cons (Fr.old (by simp [mx])) (Frs.cons (Fr.old (by simp [mx]; omega)) (Frs.cons (Fr.old (by simp [mx])) (Frs.cons (Fr.old (by simp [mx])) (Frs.cons (Fr.old (by simp [mx])) (Frs.cons (Fr.old (by simp [mx])) (Frs.cons hf Frs.nil))))))))
        · have h1 := hold id cs' hi hgA
          exact ⟨by rw [hl]; omega, id, cs', hg', .inl ⟨h, rfl⟩, rfl, Frs.old h1⟩
      · have hid' : id = H.length := by omega
        subst hid'
        rw [hn] at hg'; cases hg'
        exact ⟨by rw [hc]; exact Nat.zero_le _, H.length, c, hn, .inr ⟨Nat.le_refl _, by simp⟩, rfl, Frs.old (by rw [hc]; exact Nat.zero_le _)⟩
section
variable (H : List (List AV)) (w b : Nat) (s : Int) (n : Nat) (W : Nat → Nat → Nat → Nat) (a : Nat)
def pA (g : Nat → Nat → Nat) (p : AV) : List (List AV) := (H.set b (fl (cmA g n n))).set w (wC s b n p)
def pH0 (g : Nat → Nat → Nat) (k : Nat) : List (List AV) := pA H w b s n g (gV H.length 0 k) ++ gN (il (pvW W n a k))
def pQ0 (g : Nat → Nat → Nat) (k : Nat) : List (List AV) := pA H w b s n g (gV H.length 0 k) ++ gN (il (pvW W n a (k + 1)))
end
section
variable {H : List (List AV)} {w b : Nat} {s : Int} {n : Nat} {g g' : Nat → Nat → Nat} {p p' : AV} {N : List (List AV)}
theorem zdv : (pA H w b s n g p).length = H.length := by simp [pA]
theorem zq6 (hw : w < H.length) : (pA H w b s n g p)[w]? = some (wC s b n p) := by unfold pA; rw [List.getElem?_set, if_pos rfl, if_pos (by simpa using hw)]
theorem z2a (hb : b < H.length) (hwb : w ≠ b) : (pA H w b s n g p)[b]? = some (fl (cmA g n n)) := by unfold pA; rw [List.getElem?_set_ne hwb, zgm hb]
theorem zjv (hwb : w ≠ b) : (pA H w b s n g p).set b (fl (cmA g' n n)) = pA H w b s n g' p := by
  unfold pA; rw [List.set_comm _ _ (Ne.symm hwb).symm, List.set_set]
theorem zjw : (pA H w b s n g p).set w (wC s b n p') = pA H w b s n g p' := by unfold pA; rw [List.set_set]
theorem zl9 (hw : H[w]? = some (wC s b n p)) (hb : H[b]? = some (fl (cmA g n n))) : pA H w b s n g p = H := by
  unfold pA; rw [set_self hb, set_self hw]
theorem zxr (hm : zyn H) (id : Nat) (cs : List AV) (hi : id ≠ w) (h : (pA H w b s n g p)[id]? = some cs) : mxL cs ≤ H.length := by
  unfold pA at h
  rw [List.getElem?_set_ne (Ne.symm hi), List.getElem?_set] at h
  split at h
  · split at h
    · cases h; rw [zbs]; exact Nat.zero_le _
    · cases h
  · exact hm id cs h
end
theorem zm2 (n i k : Nat) : (gV n i k).cells = some [gV n i k] := by unfold gV; split <;> rfl
def qH (H : List (List AV)) (w b q : Nat) (s : Int) (n : Nat) (W : Nat → Nat → Nat → Nat) (a : Nat) (p0 : List Int) (g : Nat → Nat → Nat) (k : Nat) : List (List AV) :=
  pA (H.set q (il (p0 ++ pvW W n a k))) w b s n g (.slm q (p0.length + k) 0 (p0.length + k) 1)
def qQ (H : List (List AV)) (w b q : Nat) (s : Int) (n : Nat) (W : Nat → Nat → Nat → Nat) (a : Nat) (p0 : List Int) (g : Nat → Nat → Nat) (k : Nat) : List (List AV) :=
  pA (H.set q (il (p0 ++ pvW W n a (k + 1)))) w b s n g (.slm q (p0.length + k) 0 (p0.length + k) 1)
theorem zyy {H N : List (List AV)} {w b : Nat} {s : Int} {n : Nat} {W : Nat → Nat → Nat → Nat} {a k : Nat} {g : Nat → Nat → Nat} {K' : Eff → Prop} (hk : k < 64) (h0 : k = 0 → N = [])
    (h : K' ⟨some (.val (gV H.length 0 (k + 1))), none, pQ0 H w b s n W a g k ++ N⟩) : zj8 ⟨false, 0, [46]⟩ 1 (pH0 H w b s n W a g k ++ N) (gV H.length 0 k) 1 [.int .i64 (pvK (W k) (a + k) n : Int)] K' := by
  have e1 : gV H.length 0 (k + 1) = .slm (H.length + 0) (k + 1) 0 (k + 1) 1 := if_neg (by omega)
  have e3 : gN (il (pvW W n a (k + 1))) = [il (pvW W n a (k + 1))] := zth (by rw [zg6]; simp [il])
  rw [e1] at h
  by_cases hk0 : k = 0
  · subst hk0
    have hN := h0 rfl
    subst hN
    have e2 : pH0 H w b s n W a g 0 ++ [] = pA H w b s n g (gV H.length 0 0) := by rw [List.append_nil]; show _ ++ [] = _; rw [List.append_nil]
    have e4 : pQ0 H w b s n W a g 0 ++ [] = pA H w b s n g (gV H.length 0 0) ++ [[.int .i64 (pvK (W 0) (a + 0) n : Int)]] := by rw [List.append_nil]; unfold pQ0; rw [e3]; rfl
    rw [e2]; rw [e4] at h
    refine ⟨by omega, fun h => absurd h (by omega), fun _ => ?_⟩
    rw [zdv]; exact h
  · have e2 : gV H.length 0 k = .slm (H.length + 0) k 0 k 1 := if_neg hk0
    have e4 : gN (il (pvW W n a k)) = [il (pvW W n a k)] := zth (fun e => by have := congrArg List.length e; simp [il] at this; omega)
    have e5 : (pH0 H w b s n W a g k ++ N)[H.length + 0]? = some (il (pvW W n a k)) := by
      unfold pH0; rw [List.append_assoc]; refine zbg zdv ?_
      rw [e4]; rfl
    generalize gV H.length 0 k = v at e2 ⊢
    subst e2
    unfold zj8
    show (match (pH0 H w b s n W a g k ++ N)[H.length + 0]? with | some cs => _ | none => False)
    rw [e5]
    refine ⟨rfl, by simp, rfl, by simp, by omega, .inl (Nat.zero_le _), ?_⟩
    have e6 : (pH0 H w b s n W a g k ++ N).set (H.length + 0) (il (pvW W n a k) ++ [.int .i64 (pvK (W k) (a + k) n : Int)]) = pQ0 H w b s n W a g k ++ N := by
      unfold pH0 pQ0
      rw [List.append_assoc, List.append_assoc, zqi, ← zg6]
      refine zea zdv ?_
      rw [e4, e3]; rfl
    rw [e6]
    simpa using h
theorem zyz {H N : List (List AV)} {w b q : Nat} {s : Int} {n : Nat} {W : Nat → Nat → Nat → Nat} {a k : Nat} {p0 : List Int} {g : Nat → Nat → Nat} {K' : Eff → Prop} (hq : q < H.length) (hqw : q ≠ w) (hqb : q ≠ b) (hk : p0.length + k < 64)
    (h : K' ⟨some (.val (.slm q (p0.length + (k + 1)) 0 (p0.length + (k + 1)) 1)), none, qQ H w b q s n W a p0 g k ++ N⟩) : zj8 ⟨false, 0, [46]⟩ 1 (qH H w b q s n W a p0 g k ++ N) (.slm q (p0.length + k) 0 (p0.length + k) 1) 1 [.int .i64 (pvK (W k) (a + k) n : Int)] K' := by
  have e5 : (qH H w b q s n W a p0 g k ++ N)[q]? = some (il (p0 ++ pvW W n a k)) := by
    refine zav ?_
    unfold qH pA
    rw [List.getElem?_set_ne (Ne.symm hqw), List.getElem?_set_ne (Ne.symm hqb), zgm hq]
  unfold zj8
  show (match (qH H w b q s n W a p0 g k ++ N)[q]? with | some cs => _ | none => False)
  rw [e5]
  refine ⟨rfl, by simp, rfl, by simp, by omega, .inl (Nat.zero_le _), ?_⟩
  have e6 : (qH H w b q s n W a p0 g k ++ N).set q (il (p0 ++ pvW W n a k) ++ [.int .i64 (pvK (W k) (a + k) n : Int)]) = qQ H w b q s n W a p0 g k ++ N := by
    rw [za9 (by unfold qH; rw [zdv]; simpa using hq), zqi, List.append_assoc, ← zg6]
    unfold qH qQ pA
    rw [List.set_comm _ _ hqw.symm, List.set_comm _ _ hqb.symm, List.set_set]
  rw [e6]
  have e7 : (il (p0 ++ pvW W n a k)).length + [AV.int IntKind.i64 (pvK (W k) (a + k) n : Int)].length = p0.length + (k + 1) := by simp; omega
  rw [e7]; exact h
section
variable (H : List (List AV)) (w b : Nat) (s : Int) (g : Nat → Nat → Nat) (n : Nat) (hn : n ≤ 64) (hb : H[b]? = some (fl (cmA g n n))) (hwb : w ≠ b) (a m : Nat) (ham : a + m ≤ n)
include hn hb hwb ham
theorem z0u (hw : H[w]? = some (wC s b n .slnil)) (hno : ∀ k, k < m → feq (swK (pnG g n a (a + m) k) (a + k) n (a + k) (a + k)) 0 = false) :
    zaa Try.prog 54 [wP w, .int .i64 (a : Int), .int .i64 (m : Int)] H (.int .i64 0) (pH0 H w b s n (pnG g n a (a + m)) a (pnG g n a (a + m) m) m) := by
  have hwl := (List.getElem?_eq_some_iff.1 hw).1
  have hbl := (List.getElem?_eq_some_iff.1 hb).1
  exact zq7 H w b s n hn (pH0 H w b s n (pnG g n a (a + m)) a) (pQ0 H w b s n (pnG g n a (a + m)) a) (pH0 H w b s n (pnG g n a (a + m)) a) (gV H.length 0) (pnG g n a (a + m)) a m ham (fun _ _ => rfl)
    (by show H = pA H w b s n g .slnil ++ []; rw [List.append_nil, zl9 hw hb]) (fun g k => zav (zq6 hwl)) (fun g k => zav (z2a hbl hwb)) (fun g g' k N => by unfold pH0; rw [List.append_assoc, za9 (by rw [zdv]; exact hbl), zjv hwb, List.append_assoc])
    (fun k => zm2 _ _ _) (fun g k N K' hk h0 h => zyy (by omega) h0 h) (fun g k => zav (zq6 hwl)) (fun g k N => by unfold pQ0 pH0; rw [List.append_assoc, za9 (by rw [zdv]; exact hwl), zjw, List.append_assoc])
    (fun hm g k N v hk => zrq zdv hbl (zxr hm) (zq6 hwl) (by rw [zky]) (by simp)) hno
theorem z0v (hw : H[w]? = some (wC s b n .slnil)) (z : Nat) (hz : z < m) (hno : ∀ k, k < z → feq (swK (pnG g n a (a + m) k) (a + k) n (a + k) (a + k)) 0 = false) (hyes : feq (swK (pnG g n a (a + m) z) (a + z) n (a + z) (a + z)) 0 = true) :
    zaa Try.prog 54 [wP w, .int .i64 (a : Int), .int .i64 (m : Int)] H (.int .i64 ((a + z + 1 : Nat) : Int)) (pH0 H w b s n (pnG g n a (a + m)) a (swK (pnG g n a (a + m) z) (a + z) n) z) := by
  have hwl := (List.getElem?_eq_some_iff.1 hw).1
  have hbl := (List.getElem?_eq_some_iff.1 hb).1
  exact zq8 H w b s n hn (pH0 H w b s n (pnG g n a (a + m)) a) (pQ0 H w b s n (pnG g n a (a + m)) a) (pH0 H w b s n (pnG g n a (a + m)) a) (gV H.length 0) (pnG g n a (a + m)) a m ham (fun _ _ => rfl)
    (by show H = pA H w b s n g .slnil ++ []; rw [List.append_nil, zl9 hw hb]) (fun g k => zav (zq6 hwl)) (fun g k => zav (z2a hbl hwb)) (fun g g' k N => by unfold pH0; rw [List.append_assoc, za9 (by rw [zdv]; exact hbl), zjv hwb, List.append_assoc])
    (fun k => zm2 _ _ _) (fun g k N K' hk h0 h => zyy (by omega) h0 h) (fun g k => zav (zq6 hwl)) (fun g k N => by unfold pQ0 pH0; rw [List.append_assoc, za9 (by rw [zdv]; exact hwl), zjw, List.append_assoc])
    (fun hm g k N v hk => zrq zdv hbl (zxr hm) (zq6 hwl) (by rw [zky]) (by simp)) z hz hno hyes
variable (q : Nat) (p0 : List Int) (hq : H[q]? = some (il p0)) (hqw : q ≠ w) (hqb : q ≠ b) (hp : p0.length + m ≤ 64) (hw : H[w]? = some (wC s b n (.slm q p0.length 0 p0.length 1)))
include hq hqw hqb hp hw
theorem zq9 (W : Nat → Nat → Nat → Nat) (hm : zyn H) (g : Nat → Nat → Nat) (k : Nat) (id : Nat) (cs : List AV) (hg : (qH H w b q s n W a p0 g k)[id]? = some cs) : mxL cs ≤ H.length := by
  have hwl := (List.getElem?_eq_some_iff.1 hw).1
  have hbl := (List.getElem?_eq_some_iff.1 hb).1
  have hql := (List.getElem?_eq_some_iff.1 hq).1
  unfold qH at hg
  by_cases hi : id = w
  · subst hi
    rw [zq6 (by simpa using hwl)] at hg; cases hg
    exact zym hbl (by simp [mx]; omega)
  · have hm' : zyn (H.set q (il (p0 ++ pvW W n a k))) := fun id cs h => by
      rw [List.length_set]
      by_cases hqi : q = id
      · subst hqi; rw [zgm hql] at h; cases h; rw [zky]; exact Nat.zero_le _
      · rw [List.getElem?_set_ne hqi] at h; exact hm id cs h
    have := zxr hm' id cs hi hg
    simpa using this
theorem zvs (W : Nat → Nat → Nat → Nat) : qH H w b q s n W a p0 g 0 = H := by
  unfold qH
  rw [show p0 ++ pvW W n a 0 = p0 by simp [pvW], set_self hq]
  exact zl9 hw hb
theorem z0y (hno : ∀ k, k < m → feq (swK (pnG g n a (a + m) k) (a + k) n (a + k) (a + k)) 0 = false) :
    zaa Try.prog 54 [wP w, .int .i64 (a : Int), .int .i64 (m : Int)] H (.int .i64 0) (qH H w b q s n (pnG g n a (a + m)) a p0 (pnG g n a (a + m) m) m) := by
  have hwl := (List.getElem?_eq_some_iff.1 hw).1
  have hbl := (List.getElem?_eq_some_iff.1 hb).1
  have hql := (List.getElem?_eq_some_iff.1 hq).1
  exact zq7 H w b s n hn (qH H w b q s n (pnG g n a (a + m)) a p0) (qQ H w b q s n (pnG g n a (a + m)) a p0) (qH H w b q s n (pnG g n a (a + m)) a p0) (fun k => .slm q (p0.length + k) 0 (p0.length + k) 1) (pnG g n a (a + m)) a m ham (fun _ _ => rfl)
    (zvs H w b s g n hn hb hwb a m ham q p0 hq hqw hqb hp hw _).symm (fun g k => zq6 (by simpa using hwl)) (fun g k => z2a (by simpa using hbl) hwb) (fun g g' k N => by unfold qH; rw [za9 (by rw [zdv]; simpa using hbl), zjv hwb])
    (fun k => rfl) (fun g k N K' hk h0 h => zyz hql hqw hqb (by omega) h) (fun g k => zq6 (by simpa using hwl)) (fun g k N => by unfold qQ qH; rw [za9 (by rw [zdv]; simpa using hwl), zjw])
    (fun hm g' k N v hk => zmj (by unfold qH; rw [zdv]; simp) (zq9 H w b s g n hn hb hwb a m ham q p0 hq hqw hqb hp hw _ hm g' k)) hno
theorem z0z (z : Nat) (hz : z < m) (hno : ∀ k, k < z → feq (swK (pnG g n a (a + m) k) (a + k) n (a + k) (a + k)) 0 = false) (hyes : feq (swK (pnG g n a (a + m) z) (a + z) n (a + z) (a + z)) 0 = true) :
    zaa Try.prog 54 [wP w, .int .i64 (a : Int), .int .i64 (m : Int)] H (.int .i64 ((a + z + 1 : Nat) : Int)) (qH H w b q s n (pnG g n a (a + m)) a p0 (swK (pnG g n a (a + m) z) (a + z) n) z) := by
  have hwl := (List.getElem?_eq_some_iff.1 hw).1
  have hbl := (List.getElem?_eq_some_iff.1 hb).1
  have hql := (List.getElem?_eq_some_iff.1 hq).1
  exact zq8 H w b s n hn (qH H w b q s n (pnG g n a (a + m)) a p0) (qQ H w b q s n (pnG g n a (a + m)) a p0) (qH H w b q s n (pnG g n a (a + m)) a p0) (fun k => .slm q (p0.length + k) 0 (p0.length + k) 1) (pnG g n a (a + m)) a m ham (fun _ _ => rfl)
    (zvs H w b s g n hn hb hwb a m ham q p0 hq hqw hqb hp hw _).symm (fun g k => zq6 (by simpa using hwl)) (fun g k => z2a (by simpa using hbl) hwb) (fun g g' k N => by unfold qH; rw [za9 (by rw [zdv]; simpa using hbl), zjv hwb])
    (fun k => rfl) (fun g k N K' hk h0 h => zyz hql hqw hqb (by omega) h) (fun g k => zq6 (by simpa using hwl)) (fun g k N => by unfold qQ qH; rw [za9 (by rw [zdv]; simpa using hwl), zjw])
    (fun hm g' k N v hk => zmj (by unfold qH; rw [zdv]; simp) (zq9 H w b s g n hn hb hwb a m ham q p0 hq hqw hqb hp hw _ hm g' k)) z hz hno hyes
end
end Go.Sx
set_option linter.unusedVariables false
set_option linter.unusedSimpArgs false
set_option maxRecDepth 20000
namespace Go.Sx
open Go.Proofs
theorem zlv (H H' : List (List AV)) (b : Nat) (h : Nat → Nat → Nat) (n : Nat) (hn : n ≤ 64) (hb : H[b]? = some (fl (cmA h n n))) (i j r c : Nat) (hir : i + r ≤ n) (hjc : j + c ≤ n) (m : Nat) (hm : H.length = m) (hH : H ++ [fl (cmA (fun s t => h (i + s) (j + t)) r c)] = H') :
    zaa Try.prog 32 [mt (.slm b (n * n) 0 (n * n) 1) (zcy 0 ((max n 1 : Nat) : Int) ((i : Nat) : Int) ((j : Nat) : Int) ((r : Nat) : Int) ((c : Nat) : Int)) ((r : Nat) : Int) ((c : Nat) : Int) ((max n 1 : Nat) : Int)] H (.tup [mt (.slm m (r * c) 0 (r * c) 1) 0 (r : Int) (c : Int) ((max r 1 : Nat) : Int), .int .i64 0]) H' := by
  refine zi8 H H' (.slm b (n * n) 0 (n * n) 1) (cmA h n n) (FL.old hb (by simp) (by simp)) _ _ r c (zfi (zi9 (g := h) hn) (zcp h n) hir hjc) (zdn (zcp h n) hir hjc) (by omega) (by omega) m hm ?_
  rw [← hH]; congr 2; congr 1; exact zbq fun s t h1 h2 => zl7 hir hjc h1 h2
theorem z4i (H H' : List (List AV)) (b : Nat) (h : Nat → Nat → Nat) (n : Nat) (hn : n ≤ 64) (hb : H[b]? = some (fl (cmA h n n))) (a m r : Nat) (har : a + m + r ≤ n) (hm : 1 ≤ m) (x : Nat) (lw : Nat → Nat → Nat) (hx : H[x]? = some (fl (cmA lw m m))) (hxb : x ≠ b) (size : Int) (hs1 : 1 ≤ size) (hs2 : size ≤ 9223372036854775807) (hc : ∀ i j, Can (h i j))
    (hH : H.set b (fl (cmA (zbw h (loX lw (fun s t => h (a + s) (a + m + t)) m) a (a + m) m r) n n)) = H') :
    zaa Try.prog 20 [.int .i64 1, .int .i64 size, mt (.slm x (m * m) 0 (m * m) 1) 0 (m : Int) (m : Int) ((max m 1 : Nat) : Int), mt (.slm b (n * n) 0 (n * n) 1) (zcy 0 ((max n 1 : Nat) : Int) ((a : Nat) : Int) ((a + m : Nat) : Int) ((m : Nat) : Int) ((r : Nat) : Int)) ((m : Nat) : Int) ((r : Nat) : Int) ((max n 1 : Nat) : Int)] H (.int .i64 0) H' := by
  have hbl := (List.getElem?_eq_some_iff.1 hb).1
  have e0 : cmA (zbw h (fun s t => h (a + s) (a + m + t)) a (a + m) m r) n n = cmA h n n := zbq fun i j _ _ => ziv i j
  have hl : (cmA lw m m).length = m * m := by simp
  have h1 := z4h H b (cmA h n n) hbl (zcy 0 ((max n 1 : Nat) : Int) ((a : Nat) : Int) ((a + m : Nat) : Int) ((m : Nat) : Int) ((r : Nat) : Int)) ((max n 1 : Nat) : Int) m r (zfi (zi9 (g := h) hn) (zcp h n) (by omega) (by omega)) (zdn (zcp h n) (by omega) (by omega))
    (.slm x (m * m) 0 (m * m) 1) (by simp [mx]; have := (List.getElem?_eq_some_iff.1 hx).1; omega) (m * m) 0 ((max m 1 : Nat) : Int) (by have := zkj (g := lw) (r := m) (c := m) (by omega) (by omega); rwa [hl] at this) (by have := ze1 lw m m; rwa [hl] at this) lw
    (fun g => ⟨cmA lw m m, FL.old (by rw [List.getElem?_set_ne (Ne.symm hxb)]; exact hx) (by simp) (by simp), hl, fun i j hi hj => zhs hi hj⟩) false
    (fun g N _ _ => by
      have e1 : (H.set b (fl (zah (cmA h n n) (zcy 0 ((max n 1 : Nat) : Int) ((a : Nat) : Int) ((a + m : Nat) : Int) ((m : Nat) : Int) ((r : Nat) : Int)) ((max n 1 : Nat) : Int) m r g)) ++ N)[b]? = some (fl (zah (cmA h n n) (zcy 0 ((max n 1 : Nat) : Int) ((a : Nat) : Int) ((a + m : Nat) : Int) ((m : Nat) : Int) ((r : Nat) : Int)) ((max n 1 : Nat) : Int) m r g)) := ze8 hbl
      have e2 : (H.set b (fl (zah (cmA h n n) (zcy 0 ((max n 1 : Nat) : Int) ((a : Nat) : Int) ((a + m : Nat) : Int) ((m : Nat) : Int) ((r : Nat) : Int)) ((max n 1 : Nat) : Int) m r g)) ++ N)[x]? = some (fl (cmA lw m m)) := zav (by rw [List.getElem?_set_ne (Ne.symm hxb)]; exact hx)
      generalize (H.set b (fl (zah (cmA h n n) (zcy 0 ((max n 1 : Nat) : Int) ((a : Nat) : Int) ((a + m : Nat) : Int) ((m : Nat) : Int) ((r : Nat) : Int)) ((max n 1 : Nat) : Int) m r g)) ++ N) = A at e1 e2 ⊢
      simp [ptrEq, zls, e1, e2, Ne.symm hxb])
    _ _ _ _ (.inr (.inr ⟨Int.le_refl _, Int.le_refl _⟩)) (.inr (.inr ⟨Int.le_refl _, Int.le_refl _⟩)) (fun h => by cases h) size hs1 hs2 hm (by omega) (fun s t => h (a + s) (a + m + t)) (fun i j => hc _ _)
  rw [zg7 (by omega) (by omega), zg7 (by omega) (by omega), e0, set_self hb, hH, zer] at h1
  exact h1
theorem z4a (H H' : List (List AV)) (b : Nat) (h : Nat → Nat → Nat) (n : Nat) (hn : n ≤ 64) (hb : H[b]? = some (fl (cmA h n n))) (a r m : Nat) (har : a + r ≤ n) (hm : m ≤ 64) (size : Int) (hs1 : 1 ≤ size) (hs2 : size ≤ 9223372036854775807) (x y : Nat) (X Y : Nat → Nat → Nat) (hx : H[x]? = some (fl (cmA X r m))) (hy : H[y]? = some (fl (cmA Y m r))) (hxb : x ≠ b) (hyb : y ≠ b)
    (hH : H.set b (fl (cmA (zbw h (gmM zcn X Y (fun i j => gmB 4607182418800017408 (h (a + i) (a + j))) m) a a r r) n n)) = H') :
    zaa Try.prog 11 [.agg [.int .i64 size, .int .i64 size, .int .i64 size], .flt zcn, mt (.slm x (r * m) 0 (r * m) 1) 0 (r : Int) (m : Int) ((max r 1 : Nat) : Int), mt (.slm y (m * r) 0 (m * r) 1) 0 (m : Int) (r : Int) ((max m 1 : Nat) : Int), .flt 4607182418800017408, mt (.slm b (n * n) 0 (n * n) 1) (zcy 0 ((max n 1 : Nat) : Int) ((a : Nat) : Int) ((a : Nat) : Int) ((r : Nat) : Int) ((r : Nat) : Int)) ((r : Nat) : Int) ((r : Nat) : Int) ((max n 1 : Nat) : Int)] H (.int .i64 0) H' := by
  have hbl := (List.getElem?_eq_some_iff.1 hb).1
  have mX := zkj (g := X) (r := r) (c := m) (by omega) hm
  have mY := zkj (g := Y) (r := m) (c := r) hm (by omega)
  have mZ := zfi (zi9 (g := h) hn) (zcp h n) (i := a) (j := a) (r' := r) (c' := r) har har
  have gZ := zdn (zcp h n) (i := a) (j := a) (r' := r) (c' := r) har har
  have h1 := zzn H size size size hs1 hs1 hs1 ⟨by omega, hs2⟩ ⟨by omega, hs2⟩ ⟨by omega, hs2⟩ x (cmA X r m) hx 0 ((max r 1 : Nat) : Int) r m mX (ze1 X r m) y (cmA Y m r) hy 0 ((max m 1 : Nat) : Int) m r mY (ze1 Y m r)
    b (cmA h n n) hb (zcy 0 ((max n 1 : Nat) : Int) ((a : Nat) : Int) ((a : Nat) : Int) ((r : Nat) : Int) ((r : Nat) : Int)) ((max n 1 : Nat) : Int) r r mZ gZ (by omega) (by omega) hm rfl rfl rfl _ _ _ _ _ _ (.inr (.inr ⟨Int.le_refl _, Int.le_refl _⟩)) (.inr (.inr ⟨Int.le_refl _, Int.le_refl _⟩)) (.inr (.inr ⟨Int.le_refl _, Int.le_refl _⟩)) (fun h => absurd (of_decide_eq_true h) hxb) (fun h => absurd (of_decide_eq_true h) hyb)
    (fun N => zkx _ _ _ _ _ _ _ rfl mZ _ _ _ _ _ _ rfl mX (fun _ _ => by simp [ptrEq, zls, zav hx, zav hb, Ne.symm hxb]))
    (fun N => zkx _ _ _ _ _ _ _ rfl mZ _ _ _ _ _ _ rfl mY (fun _ _ => by simp [ptrEq, zls, zav hy, zav hb, Ne.symm hyb])) zcn 4607182418800017408
  rw [zg7 har har] at h1
  have e : cmA (zbw h (gmM zcn (mel (cmA X r m) 0 ((max r 1 : Nat) : Int)) (mel (cmA Y m r) 0 ((max m 1 : Nat) : Int)) (fun i j => gmB 4607182418800017408 (mel (cmA h n n) (zcy 0 ((max n 1 : Nat) : Int) ((a : Nat) : Int) ((a : Nat) : Int) ((r : Nat) : Int) ((r : Nat) : Int)) ((max n 1 : Nat) : Int) i j)) m) a a r r) n n
      = cmA (zbw h (gmM zcn X Y (fun i j => gmB 4607182418800017408 (h (a + i) (a + j))) m) a a r r) n n := zbq fun i j hi hj => by
    unfold zbw
    split
    · show gmS zcn _ _ (gmB 4607182418800017408 (mel (cmA h n n) (zcy 0 ((max n 1 : Nat) : Int) ((a : Nat) : Int) ((a : Nat) : Int) ((r : Nat) : Int) ((r : Nat) : Int)) ((max n 1 : Nat) : Int) (i - a) (j - a))) m = gmS zcn (X (i - a)) (fun k => Y k (j - a)) (gmB 4607182418800017408 (h (a + (i - a)) (a + (j - a)))) m
      rw [zl7 har har (by omega) (by omega)]
      exact zhp (fun t ht => zhs (by omega) ht) (fun t ht => zhs ht (by omega))
    · rfl
  rw [e, hH, zer, zer, zer] at h1
  exact h1
attribute [local irreducible] Ex zau exD opX opE zdh zfd zfl Spec zaa Fr zdg zbf zbe ckK zcq zda zbo faK zcz ze4 gK fK rK zgd lpX prK
theorem ze3 :
    (∀ (H : List (List AV)) (w b : Nat) (s : Int) (hs1 : 1 ≤ s) (hs2 : s ≤ 9223372036854775807) (p : AV) (h : Nat → Nat → Nat) (n : Nat) (hn : n ≤ 64) (hw : H[w]? = some (wC s b n p)) (hb : H[b]? = some (fl (cmA h n n))) (hwb : w ≠ b) (a m : Nat) (hm : 1 ≤ m) (ham : a + m ≤ n) (hz : a + m = n), zaa Try.prog 55 [wP w, .int .i64 (a : Int), .int .i64 (m : Int)] H (.tup []) H) ∧
    (∀ (H : List (List AV)) (w b : Nat) (s : Int) (hs1 : 1 ≤ s) (hs2 : s ≤ 9223372036854775807) (p : AV) (h : Nat → Nat → Nat) (n : Nat) (hn : n ≤ 64) (hw : H[w]? = some (wC s b n p)) (hb : H[b]? = some (fl (cmA h n n))) (hwb : w ≠ b) (hc : ∀ i j, Can (h i j)) (a m : Nat) (hm : 1 ≤ m) (ham : a + m ≤ n) (hz : a + m < n), zaa Try.prog 55 [wP w, .int .i64 (a : Int), .int .i64 (m : Int)] H (.tup []) (H.set b (fl (cmA (bhG h a m) n n)))) := by
  refine ⟨?_, ?_⟩
  (intro H w b s hs1 hs2 p h n hn hw hb hwb a m hm ham hz
   refine .go Try.call55 Try.func55 false [] dOk ?_
   simp only [zbp, Nat.reduceAdd])
  rotate_left
  (intro H w b s hs1 hs2 p h n hn hw hb hwb hc a m hm ham hz
   have hbl := (List.getElem?_eq_some_iff.1 hb).1
   have hw1 : (H.set b (fl (cmA (trG h a m (n - (a + m))) n n)))[w]? = some (wC s b n p) := by rw [List.getElem?_set_ne (Ne.symm hwb)]; exact hw
   have hfin : cmA (bhG h a m) n n = cmA (mlG h a m (n - (a + m))) n n := zbq fun i j hi hj => (z3x h hc a m (n - (a + m)) n (by omega) i j hi hj).symm
   refine .go Try.call55 Try.func55 false [] dOk ?_
   simp only [zbp, Nat.reduceAdd])
  rotate_left
  all_goals (repeat' (first
 |(refine za4 ?_; (first | refine zcm ?_ | refine zay ?_ | fail))
 |(refine za5 ?_; (first | refine m14 ?_ | (refine m17 ?_; first | refine m19 ?_ | refine m18 ?_) | (refine m07 ?_; (first | refine m15 ?_ | refine m16 ?_ | refine zsg hw (by exact rfl) (by exact rfl) ?_ | refine z0i hw (by exact rfl) (by exact rfl) ?_ | refine zsg hw1 (by exact rfl) (by exact rfl) ?_ | refine z0i hw1 (by exact rfl) (by exact rfl) ?_ | fail)) | refine zek (by (conv => {lhs; whnf}); done) ?_ | (refine m45 ?_; (first | refine zbk ((a + m : Nat) : Int) (by omega) (by omega) ?_ | refine zbk ((n - (a + m) : Nat) : Int) (by omega) (by omega) ?_ | refine zeg (by exact rfl) ?_ | refine v_k ?_ | fail)) | (refine m00 ?_; (first | refine zbk ((a + m : Nat) : Int) (by omega) (by omega) ?_ | refine zbk ((n - (a + m) : Nat) : Int) (by omega) (by omega) ?_ | refine m52 ?_ | refine m53 ?_ | refine zgv ?_ | refine m49 ?_ | refine m50 ?_ | refine v_k ?_ | refine m51 ?_ | fail)) | refine m08 ?_ | refine zao ?_ | refine m23 ?_ | refine m25 ?_ | refine m24 ?_ | fail))
 |(refine zcv ?_; (first | refine m36 ?_ | refine zct ?_ | fail))
 |(refine zcu ?_; (first | refine zfe ?_ | refine zh6 ?_ | refine zh7 (by (conv => {lhs; whnf}); done) ?_ | refine zh8 ?_ | refine zh5 (by exact rfl) (by exact rfl) ?_ | refine m34 ?_ | refine m35 ?_ | refine m33 ?_ | refine zff ?_ | refine m56 ?_ | refine zcw ?_ | refine zdr (by exact rfl) ?_ | fail))
 |refine za2 ?_ | refine za3 ?_ | refine za1 ?_
 |(refine za6 ?_; (first | refine za0 ?_ | refine zab ?_ | (refine m06 ?_; (first | refine c_T ?_ | refine c_F ?_ | refine c_P ?_ ?_ | refine c_B ?_ ?_ | fail)) | refine zaz ?_ | refine zaq ?_ | refine zai ?_ | refine b_exit ?_ | refine zax (id := 5) [] [7] [(0, .lt), (1, .lt), (2, .lt), (3, .lt), (4, .ld true), (5, .ld true), (6, .ld true), (7, .mn false)] (by kernel_rfl) ?_ | refine zax (id := 8) [] [15] [(0, .lt), (1, .lt), (2, .lt), (3, .ld true), (4, .ld true), (5, .ld true), (6, .lt), (7, .lt), (8, .lt), (9, .ld true), (10, .lt), (11, .lt), (12, .lt), (13, .lt), (14, .mn true), (15, .mn false)] (by kernel_rfl) ?_ | fail))
 |refine m43 ?_
 |refine zcs ?_
 |refine m21 ?_
 |refine zbb ?_
 |(refine zbd ?_; (first | refine cA (ziw _ b h n hn (zav hb) a a m m (by omega) (by omega) _ _ _ _ (by omega) (by omega) (by omega) (by omega)) ?_ | refine cA (zlv _ (H ++ [fl (cmA (fun s t => h (a + s) (a + t)) m m)]) b h n hn (zav hb) a a m m (by omega) (by omega) _ (by (conv => {lhs; simp only [List.length_append, List.length_cons, List.length_nil, List.length_set, Nat.reduceAdd, Nat.zero_add]}); done) (by (conv => {lhs; simp only [List.append_assoc, List.cons_append, List.nil_append]}); done)) ?_ | refine cA (ziw _ b h n hn (zav hb) a (a + m) m (n - (a + m)) (by omega) (by omega) _ _ _ _ (by omega) (by omega) (by omega) (by omega)) ?_ | refine c_call (z4i _ (H.set b (fl (cmA (trG h a m (n - (a + m))) n n)) ++ [fl (cmA (fun s t => h (a + s) (a + t)) m m)]) b h n hn (zav hb) a m (n - (a + m)) (by omega) hm _ (fun s t => h (a + s) (a + t)) (zbg (by exact rfl) rfl) (by omega) s hs1 hs2 hc (za9 hbl)) (za7.set (by simp) (by rw [zbs]; exact Nat.zero_le _)) ?_ | refine cA (ziw _ b (trG h a m (n - (a + m))) n hn (ze8 hbl) (a + m) a (n - (a + m)) m (by omega) (by omega) _ _ _ _ (by omega) (by omega) (by omega) (by omega)) ?_ | refine cA (zlv _ (H.set b (fl (cmA (trG h a m (n - (a + m))) n n)) ++ [fl (cmA (fun s t => h (a + s) (a + t)) m m), fl (cmA (fun s t => (trG h a m (n - (a + m))) (a + m + s) (a + t)) (n - (a + m)) m)]) b (trG h a m (n - (a + m))) n hn (ze8 hbl) (a + m) a (n - (a + m)) m (by omega) (by omega) (H.length + 1) (by simp) (by (conv => {lhs; simp only [List.append_assoc, List.cons_append, List.nil_append]}); done)) ?_ | refine cA (zlv _ (H.set b (fl (cmA (trG h a m (n - (a + m))) n n)) ++ [fl (cmA (fun s t => h (a + s) (a + t)) m m), fl (cmA (fun s t => (trG h a m (n - (a + m))) (a + m + s) (a + t)) (n - (a + m)) m), fl (cmA (fun s t => (trG h a m (n - (a + m))) (a + s) (a + m + t)) m (n - (a + m)))]) b (trG h a m (n - (a + m))) n hn (ze8 hbl) a (a + m) m (n - (a + m)) (by omega) (by omega) (H.length + 2) (by simp) (by (conv => {lhs; simp only [List.append_assoc, List.cons_append, List.nil_append]}); done)) ?_ | refine cA (ziw _ b (trG h a m (n - (a + m))) n hn (ze8 hbl) (a + m) (a + m) (n - (a + m)) (n - (a + m)) (by omega) (by omega) _ _ _ _ (by omega) (by omega) (by omega) (by omega)) ?_ | refine c_call (z4a _ (H.set b (fl (cmA (mlG h a m (n - (a + m))) n n)) ++ [fl (cmA (fun s t => h (a + s) (a + t)) m m), fl (cmA (fun s t => (trG h a m (n - (a + m))) (a + m + s) (a + t)) (n - (a + m)) m), fl (cmA (fun s t => (trG h a m (n - (a + m))) (a + s) (a + m + t)) m (n - (a + m)))]) b (trG h a m (n - (a + m))) n hn (ze8 hbl) (a + m) (n - (a + m)) m (by omega) (by omega) s hs1 hs2 _ _ _ _ (zbg (by simp) rfl) (zbg (by simp) rfl) (by omega) (by omega) (zl5 hbl)) (za7.set2 hbl (by simp) (by rw [zbs]; exact Nat.zero_le _)) ?_ | fail))
 |refine m05 ?_
 |refine m04 ?_ | refine m02 ?_ | refine m03 ?_ | refine zar ?_
 |intro _))
  all_goals first
    | (exfalso; omega)
    | (refine zan (by simp) (by first | (simp [mx, mxL, zaf]; done) | fail) ?_; exact rfl)
    | (rw [hfin]; refine zan (by simp) (by first | (simp [mx, mxL, zaf]; done) | fail) ?_; exact rfl)
theorem zsw : type_of% @ze3.1 := @ze3.1
theorem zsv : type_of% @ze3.2 := @ze3.2
end Go.Sx
set_option linter.unusedVariables false
set_option linter.unusedSimpArgs false
set_option linter.unusedSectionVars false
set_option maxRecDepth 20000
namespace Go.Sx
open Go.Proofs
def inG (n : Nat) (h : Nat → Nat → Nat) : Nat → Nat → Nat := fun i j => if i < n ∧ j < n then h i j else 0
theorem zm6 {n : Nat} {h : Nat → Nat → Nat} {i j : Nat} (hi : i < n) (hj : j < n) : inG n h i j = h i j := if_pos ⟨hi, hj⟩
theorem zzr (n : Nat) (h : Nat → Nat → Nat) : cmA (inG n h) n n = cmA h n n := zbq fun i j hi hj => zm6 hi hj
theorem zwd {n a m : Nat} {h : Nat → Nat → Nat} (ham : a + m ≤ n) {i j : Nat} (hi : i < n) (hj : j < n) : bhG (inG n h) a m i j = bhG h a m i j := by
  unfold bhG
  split
  · exact zjm (τ := fun i => i) (N := n - a) m (by omega) (fun _ _ => rfl) (fun _ h => h) (fun _ h => h) (fun i t h1 h2 => zm6 (by omega) (by omega)) (fun i h1 => zm6 (by omega) hj) (i - a) (by omega)
  · exact zm6 hi hj
theorem zsu (H : List (List AV)) (w b : Nat) (s : Int) (hs1 : 1 ≤ s) (hs2 : s ≤ 9223372036854775807) (p : AV) (h : Nat → Nat → Nat) (n : Nat) (hn : n ≤ 64) (hw : H[w]? = some (wC s b n p)) (hb : H[b]? = some (fl (cmA h n n))) (hwb : w ≠ b) (a m : Nat) (hm : 1 ≤ m) (ham : a + m ≤ n) (hz : a + m < n) :
    zaa Try.prog 55 [wP w, .int .i64 (a : Int), .int .i64 (m : Int)] H (.tup []) (H.set b (fl (cmA (bhG h a m) n n))) := by
  refine .mk (fun args w => Try.call55 args w) (Spec.canB hb fun hc => ?_)
  have hcan : ∀ i j, Can (inG n h i j) := fun i j => by
    unfold inG
    split
    · rename_i hij
      refine hc _ ?_
      have e := zgq (g := h) hij.1 hij.2
      rw [← zlw (g := h) hij.1 hij.2, List.getD_eq_getElem?_getD, List.getElem?_eq_getElem (by simpa using zvb hij.1 hij.2)]
      exact List.getElem_mem _
    · exact ⟨by decide, by decide⟩
  have h1 := zsv H w b s hs1 hs2 p (inG n h) n hn hw (by rw [zzr]; exact hb) hwb hcan a m hm ham hz
  rw [zbq fun i j hi hj => zwd ham hi hj] at h1
  exact h1.spec (fun args w => Try.call55 args w)
theorem Cuts.find {n T : Nat} {P : Nat → Nat} (h : Cuts n T P) {x : Nat} (hx : x < n) : ∃ t, t < T ∧ P t ≤ x ∧ x < P (t + 1) := by
  have key : ∀ t, t ≤ T → P t ≤ x ∨ ∃ u, u < t ∧ P u ≤ x ∧ x < P (u + 1) := by
    intro t
    induction t with
    | zero => intro _; left; rw [h.zero]; omega
    | succ t ih =>
      intro ht
      rcases ih (by omega) with h1 | ⟨u, h1, h2, h3⟩
      · by_cases h4 : P (t + 1) ≤ x
        · exact .inl h4
        · exact .inr ⟨t, by omega, h1, by omega⟩
      · exact .inr ⟨u, by omega, h2, h3⟩
  rcases key T (Nat.le_refl _) with h1 | ⟨u, h1, h2, h3⟩
  · rw [h.last] at h1; omega
  · exact ⟨u, h1, h2, h3⟩
theorem Cuts.pos {n T : Nat} {P : Nat → Nat} (h : Cuts n T P) : ∀ {t : Nat}, t ≤ T → t ≤ P t := by
  intro t
  induction t with
  | zero => intro _; exact Nat.zero_le _
  | succ t ih => intro ht; have := ih (by omega); have := h.inc t (by omega); omega
theorem zrk (g : Nat → Nat → Nat) (n a m : Nat) (h : a + m ≤ n) : ∀ s, s ≤ m → pvL g n (a + s) = pvL g n a ++ pvW (pnG (stG g n a) n a (a + m)) n a s
  | 0, _ => by simp [pvW]
  | s + 1, hs => by
    rw [show a + (s + 1) = (a + s) + 1 from rfl, zua, zrk g n a m h s (by omega), zg6, z02 g n a m s h (by omega), List.append_assoc]
def fQ (c : Nat → List AV) (l : List Int) : Nat → List (List AV)
  | 0 => []
  | 1 => [c 0, il l]
  | t + 2 => fQ c l (t + 1) ++ [c (t + 1)]
theorem zko (c : Nat → List AV) (l : List Int) : ∀ t, (fQ c l (t + 1)).length = t + 2
  | 0 => rfl
  | t + 1 => by show (fQ c l (t + 1) ++ [c (t + 1)]).length = _; rw [List.length_append, zko c l t]; rfl
def fQl : Nat → Nat
  | 0 => 0
  | t + 1 => t + 2
theorem zwx (c : Nat → List AV) (l : List Int) : ∀ t, (fQ c l t).length = fQl t
  | 0 => rfl
  | t + 1 => zko c l t
theorem ztb (c : Nat → List AV) (l : List Int) : ∀ t, (fQ c l (t + 1))[1]? = some (il l)
  | 0 => rfl
  | t + 1 => by
    show (fQ c l (t + 1) ++ [c (t + 1)])[1]? = _
    rw [List.getElem?_append_left (by rw [zko]; omega)]; exact ztb c l t
theorem zve (c : Nat → List AV) (l l' : List Int) : ∀ t, (fQ c l (t + 1)).set 1 (il l') = fQ c l' (t + 1)
  | 0 => rfl
  | t + 1 => by
    show (fQ c l (t + 1) ++ [c (t + 1)]).set 1 _ = _
    rw [List.set_append_left _ _ (by rw [zko]; omega), zve c l l' t]; rfl
section
variable (H : List (List AV)) (B0 B1 B3 : List AV) (s : Int) (n : Nat)
def fN5 (g : Nat → Nat → Nat) (k : Nat) (R : List (List AV)) : List (List AV) := B0 :: B1 :: fl (cmA g n n) :: B3 :: wC s (H.length + 2) n (gV H.length 6 k) :: R
end
section
variable {H : List (List AV)} {B0 B1 B3 : List AV} {s : Int} {n : Nat} {c : Nat → List AV}
theorem zyr {g : Nat → Nat → Nat} {k : Nat} {R : List (List AV)} : (H ++ fN5 H B0 B1 B3 s n g k R)[H.length + 2]? = some (fl (cmA g n n)) := zbg rfl rfl
theorem zys {g : Nat → Nat → Nat} {k : Nat} {R : List (List AV)} : (H ++ fN5 H B0 B1 B3 s n g k R)[H.length + 4]? = some (wC s (H.length + 2) n (gV H.length 6 k)) := zbg rfl rfl
theorem zjd {g g' : Nat → Nat → Nat} {k : Nat} {R : List (List AV)} : (H ++ fN5 H B0 B1 B3 s n g k R).set (H.length + 2) (fl (cmA g' n n)) = H ++ fN5 H B0 B1 B3 s n g' k R := zea rfl rfl
theorem zpy {g : Nat → Nat → Nat} {k k' : Nat} {R : List (List AV)} : (H ++ fN5 H B0 B1 B3 s n g k R).set (H.length + 4) (wC s (H.length + 2) n (gV H.length 6 k')) = H ++ fN5 H B0 B1 B3 s n g k' R := zea rfl rfl
theorem zzw {g : Nat → Nat → Nat} {k : Nat} {R : List (List AV)} : (H ++ fN5 H B0 B1 B3 s n g k R).length = H.length + 5 + R.length := by simp [fN5]; omega
theorem z3d {g g' : Nat → Nat → Nat} {a m : Nat} {W : Nat → Nat → Nat → Nat} (hm : 0 < m) :
    pH0 (H ++ fN5 H B0 B1 B3 s n g 0 ([] ++ [c 0])) (H.length + 4) (H.length + 2) s n W a g' m = H ++ fN5 H B0 B1 B3 s n g' m (fQ c (pvW W n a m) 1) := by
  have e1 : (H ++ fN5 H B0 B1 B3 s n g 0 ([] ++ [c 0])).length = H.length + 6 := by rw [zzw]; rfl
  have e2 : gN (il (pvW W n a m)) = [il (pvW W n a m)] := zth (fun e => by have := congrArg List.length e; simp at this; omega)
  have e3 : gV (H.length + 6) 0 m = gV H.length 6 m := rfl
  unfold pH0 pA
  rw [e1, e2, e3, zjd, zpy, List.append_assoc]
  rfl
theorem zzx {g g' : Nat → Nat → Nat} {a m t : Nat} {W : Nat → Nat → Nat → Nat} {l : List Int} (hl : 0 < l.length) :
    qH (H ++ fN5 H B0 B1 B3 s n g l.length (fQ c l (t + 1) ++ [c (t + 1)])) (H.length + 4) (H.length + 2) (H.length + 6) s n W a l g' m = H ++ fN5 H B0 B1 B3 s n g' (l.length + m) (fQ c (l ++ pvW W n a m) (t + 1 + 1)) := by
  have e3 : (.slm (H.length + 6) (l.length + m) 0 (l.length + m) 1 : AV) = gV H.length 6 (l.length + m) := (if_neg (by omega)).symm
  have e4 : (H ++ fN5 H B0 B1 B3 s n g l.length (fQ c l (t + 1) ++ [c (t + 1)])).set (H.length + 6) (il (l ++ pvW W n a m)) = H ++ fN5 H B0 B1 B3 s n g l.length (fQ c (l ++ pvW W n a m) (t + 1 + 1)) := by
    refine zea rfl ?_
    show B0 :: B1 :: fl (cmA g n n) :: B3 :: _ :: (fQ c l (t + 2)).set 1 _ = _
    rw [zve]; rfl
  unfold qH pA
  rw [e3, e4, zjd, zpy]
end
section
variable (H : List (List AV)) (B0 B1 B3 : List AV) (s : Int) (n : Nat) (hn : n ≤ 64) (c : Nat → List AV) (g : Nat → Nat → Nat) (T : Nat) (Q : Nat → Nat) (hC : Cuts n T Q) (t : Nat) (ht : t < T)
include hn hC ht
theorem z0w (hno : ∀ k, k < Q (t + 1) → sgK g n k = false) :
    zaa Try.prog 54 [wP (H.length + 4), .int .i64 (Q t : Int), .int .i64 ((Q (t + 1) - Q t : Nat) : Int)] (H ++ fN5 H B0 B1 B3 s n (stG g n (Q t)) (Q t) (fQ c (pvL g n (Q t)) t ++ [c t])) (.int .i64 0)
      (H ++ fN5 H B0 B1 B3 s n (pnG (stG g n (Q t)) n (Q t) (Q (t + 1)) (Q (t + 1) - Q t)) (Q (t + 1)) (fQ c (pvL g n (Q (t + 1))) (t + 1))) := by
  have h1 := hC.ltn ht
  obtain ⟨m, hm⟩ : ∃ m, Q (t + 1) = Q t + m := ⟨Q (t + 1) - Q t, by omega⟩
  rw [hm] at h1 hno ⊢
  rw [show Q t + m - Q t = m by omega]
  have hsg : ∀ k, k < m → feq (swK (pnG (stG g n (Q t)) n (Q t) (Q t + m) k) (Q t + k) n (Q t + k) (Q t + k)) 0 = false := fun k hk => by
    rw [zxy g n (Q t) m k h1.2 hk]; exact hno _ (by omega)
  have hadd := zrk g n (Q t) m h1.2 m (Nat.le_refl _)
  cases t with
  | zero =>
    rw [hC.zero] at *
    have h := z0u (H ++ fN5 H B0 B1 B3 s n (stG g n 0) 0 (fQ c (pvL g n 0) 0 ++ [c 0])) (H.length + 4) (H.length + 2) s (stG g n 0) n hn zyr (by omega) 0 m h1.2 zys hsg
    have e := z3d (H := H) (B0 := B0) (B1 := B1) (B3 := B3) (s := s) (n := n) (c := c) (g := stG g n 0) (g' := pnG (stG g n 0) n 0 (0 + m) m) (a := 0) (W := pnG (stG g n 0) n 0 (0 + m)) (m := m) (by omega)
    rw [show (fQ c (pvL g n 0) 0 ++ [c 0]) = [] ++ [c 0] from rfl] at h ⊢
    rw [e] at h
    rw [hadd, zue, List.nil_append, Nat.zero_add] at *
    exact h
  | succ t =>
    have hp := hC.pos (t := t + 1) (by omega)
    have hl : (pvL g n (Q (t + 1))).length = Q (t + 1) := zhw _ _ _
    have e0 : (.slm (H.length + 6) (pvL g n (Q (t + 1))).length 0 (pvL g n (Q (t + 1))).length 1 : AV) = gV H.length 6 (Q (t + 1)) := by rw [hl]; exact (if_neg (by omega)).symm
    have h := z0y (H ++ fN5 H B0 B1 B3 s n (stG g n (Q (t + 1))) (Q (t + 1)) (fQ c (pvL g n (Q (t + 1))) (t + 1) ++ [c (t + 1)])) (H.length + 4) (H.length + 2) s (stG g n (Q (t + 1))) n hn zyr (by omega) (Q (t + 1)) m h1.2 (H.length + 6) (pvL g n (Q (t + 1)))
      (zbg rfl (ztb c _ (t + 1))) (by omega) (by omega) (by rw [hl]; omega) (by rw [e0]; exact zys) hsg
    have e := zzx (H := H) (B0 := B0) (B1 := B1) (B3 := B3) (s := s) (n := n) (c := c) (g := stG g n (Q (t + 1))) (g' := pnG (stG g n (Q (t + 1))) n (Q (t + 1)) (Q (t + 1) + m) m) (a := Q (t + 1)) (t := t) (m := m) (W := pnG (stG g n (Q (t + 1))) n (Q (t + 1)) (Q (t + 1) + m)) (l := pvL g n (Q (t + 1))) (by rw [hl]; omega)
    rw [hl] at e
    rw [e, ← hadd] at h
    exact h
theorem z0x (z : Nat) (hz : Q t ≤ z) (hz2 : z < Q (t + 1)) (hno : ∀ k, k < z → sgK g n k = false) (hyes : sgK g n z = true) :
    ∃ N', zaa Try.prog 54 [wP (H.length + 4), .int .i64 (Q t : Int), .int .i64 ((Q (t + 1) - Q t : Nat) : Int)] (H ++ fN5 H B0 B1 B3 s n (stG g n (Q t)) (Q t) (fQ c (pvL g n (Q t)) t ++ [c t])) (.int .i64 ((z + 1 : Nat) : Int))
      (H ++ (B0 :: B1 :: N')) := by
  have h1 := hC.ltn ht
  obtain ⟨m, hm⟩ : ∃ m, Q (t + 1) = Q t + m := ⟨Q (t + 1) - Q t, by omega⟩
  rw [hm] at h1 hz2 ⊢
  rw [show Q t + m - Q t = m by omega]
  obtain ⟨y, rfl⟩ : ∃ y, z = Q t + y := ⟨z - Q t, by omega⟩
  have hsg : ∀ k, k < y → feq (swK (pnG (stG g n (Q t)) n (Q t) (Q t + m) k) (Q t + k) n (Q t + k) (Q t + k)) 0 = false := fun k hk => by
    rw [zxy g n (Q t) m k h1.2 (by omega)]; exact hno _ (by omega)
  have hsy : feq (swK (pnG (stG g n (Q t)) n (Q t) (Q t + m) y) (Q t + y) n (Q t + y) (Q t + y)) 0 = true := by
    rw [zxy g n (Q t) m y h1.2 (by omega)]; exact hyes
  cases t with
  | zero =>
    rw [hC.zero] at *
    have h := z0v (H ++ fN5 H B0 B1 B3 s n (stG g n 0) 0 (fQ c (pvL g n 0) 0 ++ [c 0])) (H.length + 4) (H.length + 2) s (stG g n 0) n hn zyr (by omega) 0 m h1.2 zys y (by omega) hsg hsy
    unfold pH0 pA at h
    rw [zjd] at h
    have e9 : ∀ (x y : List AV) k R (p : AV) (C : List (List AV)) (gg : Nat → Nat → Nat), (H ++ fN5 H B0 B1 B3 s n gg k R).set (H.length + 4) (wC s (H.length + 2) n p) ++ C = H ++ (B0 :: B1 :: (fl (cmA gg n n) :: B3 :: wC s (H.length + 2) n p :: (R ++ C))) := fun x y k R p C gg => by
      rw [zea (N' := B0 :: B1 :: fl (cmA gg n n) :: B3 :: wC s (H.length + 2) n p :: R) rfl rfl, List.append_assoc]; rfl
    rw [e9 [] []] at h
    exact ⟨_, h⟩
  | succ t =>
    have hp := hC.pos (t := t + 1) (by omega)
    have hl : (pvL g n (Q (t + 1))).length = Q (t + 1) := zhw _ _ _
    have e0 : (.slm (H.length + 6) (pvL g n (Q (t + 1))).length 0 (pvL g n (Q (t + 1))).length 1 : AV) = gV H.length 6 (Q (t + 1)) := by rw [hl]; exact (if_neg (by omega)).symm
    have h := z0z (H ++ fN5 H B0 B1 B3 s n (stG g n (Q (t + 1))) (Q (t + 1)) (fQ c (pvL g n (Q (t + 1))) (t + 1) ++ [c (t + 1)])) (H.length + 4) (H.length + 2) s (stG g n (Q (t + 1))) n hn zyr (by omega) (Q (t + 1)) m h1.2 (H.length + 6) (pvL g n (Q (t + 1)))
      (zbg rfl (ztb c _ (t + 1))) (by omega) (by omega) (by rw [hl]; omega) (by rw [e0]; exact zys) y (by omega) hsg hsy
    have e := zzx (H := H) (B0 := B0) (B1 := B1) (B3 := B3) (s := s) (n := n) (c := c) (g := stG g n (Q (t + 1))) (g' := swK (pnG (stG g n (Q (t + 1))) n (Q (t + 1)) (Q (t + 1) + m) y) (Q (t + 1) + y) n) (a := Q (t + 1)) (t := t) (m := y) (W := pnG (stG g n (Q (t + 1))) n (Q (t + 1)) (Q (t + 1) + m)) (l := pvL g n (Q (t + 1))) (by rw [hl]; omega)
    rw [hl] at e
    rw [e] at h
    exact ⟨_, h⟩
theorem zzj (hs1 : 1 ≤ s) (hs2 : s ≤ 9223372036854775807) (k : Nat) (R : List (List AV)) :
    zaa Try.prog 55 [wP (H.length + 4), .int .i64 (Q t : Int), .int .i64 ((Q (t + 1) - Q t : Nat) : Int)] (H ++ fN5 H B0 B1 B3 s n (pnG (stG g n (Q t)) n (Q t) (Q (t + 1)) (Q (t + 1) - Q t)) k R) (.tup [])
      (H ++ fN5 H B0 B1 B3 s n (stG g n (Q (t + 1))) k R) := by
  have h1 := hC.ltn ht
  obtain ⟨m, hm⟩ : ∃ m, Q (t + 1) = Q t + m := ⟨Q (t + 1) - Q t, by omega⟩
  rw [hm] at h1 ⊢
  rw [show Q t + m - Q t = m by omega]
  rcases Nat.lt_or_ge (Q t + m) n with h2 | h2
  · have h := zsu (H ++ fN5 H B0 B1 B3 s n (pnG (stG g n (Q t)) n (Q t) (Q t + m) m) k R) (H.length + 4) (H.length + 2) s hs1 hs2 (gV H.length 6 k) (pnG (stG g n (Q t)) n (Q t) (Q t + m) m) n hn zys zyr (by omega) (Q t) m (by omega) (by omega) h2
    rw [zjd] at h
    have e : fN5 H B0 B1 B3 s n (bhG (pnG (stG g n (Q t)) n (Q t) (Q t + m) m) (Q t) m) k R = fN5 H B0 B1 B3 s n (stG g n (Q t + m)) k R := by
      unfold fN5
      rw [zbq fun i j hi hj => z2q g n (Q t) m (by omega) i j hi hj]
    rw [e] at h; exact h
  · have h := zsw (H ++ fN5 H B0 B1 B3 s n (pnG (stG g n (Q t)) n (Q t) (Q t + m) m) k R) (H.length + 4) (H.length + 2) s hs1 hs2 (gV H.length 6 k) (pnG (stG g n (Q t)) n (Q t) (Q t + m) m) n hn zys zyr (by omega) (Q t) m (by omega) (by omega) (by omega)
    have e : fN5 H B0 B1 B3 s n (pnG (stG g n (Q t)) n (Q t) (Q t + m) m) k R = fN5 H B0 B1 B3 s n (stG g n (Q t + m)) k R := by
      unfold fN5
      rw [zbq fun i j hi hj => zwe g n (Q t) m (by omega) i j hi hj]
    rw [e] at h ⊢; exact h
end
theorem znm {P : Program} {e : List (Nat × EV)} {L : List (Nat × List AV)} {A N : List (List AV)} {x t k0 : Nat} {rs : List ResultVar} {acc : List AV} {k : List AV → Prop} [ti : TyI P t k0 true] {n j g len sz : Nat} {cs : List AV} (hx : St.ev ⟨e, L, A ++ N⟩ (.tmp x) = .val (.eptr (.slm (n + j) g 0 len sz) 0))
    (hA : A.length = n) (hj : N[j]? = some cs) (hg : cs.length = g) (hk : g = k0) (h : rK P rs (acc ++ [.agg cs]) k ⟨e, L, A ++ N⟩) : rK P (.cell x t :: rs) acc k ⟨e, L, A ++ N⟩ := by
  have h2 : zbx (A ++ N) (.slm (n + j) g 0 len sz) 0 k0 = some cs := by
    simp only [zbx, zbg hA hj, hg]
    rw [← hk, ← hg]
    simpa using zfy cs rfl
  exact zj2 (by simp [resV, zas, hx, ti.sz, h2, ldv, ti.kind]) h
end Go.Sx
