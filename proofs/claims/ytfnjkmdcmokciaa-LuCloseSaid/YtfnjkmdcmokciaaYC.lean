/- A part of the proofs of this seat: YC. No condition is set. -/
import Derived.Test.YtfnjkmdcmokciaaXR
import Derived.Test.YtfnjkmdcmokciaaYA
import Derived.Test.YtfnjkmdcmokciaaYB
set_option linter.unusedVariables false
set_option linter.unusedSimpArgs false
set_option maxRecDepth 20000
namespace Go.Sx
open Go.Proofs
attribute [local irreducible] Ex exOps exD opX opE thenX blkX RetQ Spec CSpec Fr condK guardK guardD ckK valK pickK loadK faK callK argK gK fK rK RetV lpX prK

theorem pivot_d (H H' : List (List AV)) (b : Nat) (g : Nat → Nat → Nat) (n : Nat) (hn : n ≤ 64) (hb : H[b]? = some (fl (cmA g n n))) (k : Nat) (hk : k < n) (hH : H.set b (fl (cmA (swK g k n) n n)) = H') :
    CSpec Try.prog 103 [mt (.slm b (n * n) 0 (n * n) 1) 0 (n : Int) (n : Int) ((max n 1 : Nat) : Int), .int .i64 (k : Int)] H (.tup [.int .i64 (pvK g k n : Int), .bool (!(feq (swK g k n k k) 0))]) H' := by
  have h := pivot_c H H' b (cmA g n n) hb 0 ((max n 1 : Nat) : Int) n n (cm_MI hn) (cm_good g n) k hk hk (by rw [setM_cm, ← hH]; congr 2; exact cmA_congr (fun i j hi hj => swK_congr (fun _ _ h1 h2 => mel_cm h1 h2) hk i j hi hj))
  rw [cmA_len, pvK_congr (g' := g) (fun _ _ h1 h2 => mel_cm h1 h2) hk, swK_congr (g' := g) (fun _ _ h1 h2 => mel_cm h1 h2) hk k k hk hk] at h
  exact h
theorem column_d (H H' : List (List AV)) (b : Nat) (g : Nat → Nat → Nat) (n : Nat) (hn : n ≤ 64) (hb : H[b]? = some (fl (cmA g n n))) (k : Nat) (hk : k < n) (hH : H.set b (fl (cmA (divG g k) n n)) = H') :
    CSpec Try.prog 104 [mt (.slm b (n * n) 0 (n * n) 1) 0 (n : Int) (n : Int) ((max n 1 : Nat) : Int), .int .i64 (k : Int)] H (vt (.slm b (n * n) 0 (n * n) 1) ((k * n + (k + 1) : Nat) : Int) ((n - (k + 1) : Nat) : Int) 1) H' := by
  have h := column_c H H' b (cmA g n n) hb 0 ((max n 1 : Nat) : Int) n n (cm_MI hn) (cm_good g n) k hk hk (by rw [setM_cm, ← hH]; congr 2; exact cmA_congr (fun i j hi hj => divG_congr (fun _ _ h1 h2 => mel_cm h1 h2) hk i j hi hj))
  have e : cOff 0 (n : Int) ((max n 1 : Nat) : Int) (k : Int) + ((k + 1 : Nat) : Int) = ((k * n + (k + 1) : Nat) : Int) := by
    unfold cOff
    rw [if_pos (by omega), show max n 1 = n by omega, Int.natCast_add (k * n), Int.natCast_mul]; omega
  rw [cmA_len, e] at h
  exact h
theorem vat_d (H : List (List AV)) (b : Nat) (g : Nat → Nat → Nat) (n : Nat) (hn : n ≤ 64) (hb : H[b]? = some (fl (cmA g n n))) (i j : Nat) (hi : i < n) (hj : j < n) :
    CSpec Try.prog 105 [mt (.slm b (n * n) 0 (n * n) 1) 0 (n : Int) (n : Int) ((max n 1 : Nat) : Int), .int .i64 (i : Int), .int .i64 (j : Int)] H (.flt (g i j)) H := by
  have h := vat_c H (.slm b (n * n) 0 (n * n) 1) (cmA g n n) (FL.old hb (by simp) (by simp)) 0 n n ((max n 1 : Nat) : Int) (cm_MI hn) (cm_good g n) i j (by omega) (by omega) (by omega) (by omega)
  simp only [Int.toNat_natCast] at h
  rwa [mel_cm hi hj] at h
theorem part_d (H : List (List AV)) (b : Nat) (g : Nat → Nat → Nat) (n : Nat) (hn : n ≤ 64) (hb : H[b]? = some (fl (cmA g n n))) (k : Nat) (hk : k + 1 < n) :
    CSpec Try.prog 107 [mt (.slm b (n * n) 0 (n * n) 1) 0 (n : Int) (n : Int) ((max n 1 : Nat) : Int), .int .i64 ((k + 1 : Nat) : Int), .int .i64 ((k + 1 : Nat) : Int), .int .i64 ((n - (k + 1) : Nat) : Int), .int .i64 ((n - (k + 1) : Nat) : Int)] H (mt (.slm b (n * n) 0 (n * n) 1) (0 + (((k + 1 : Nat) : Int) + ((k + 1 : Nat) : Int) * ((max n 1 : Nat) : Int))) ((n - (k + 1) : Nat) : Int) ((n - (k + 1) : Nat) : Int) ((max n 1 : Nat) : Int)) H := by
  have h := part_c H (.slm b (n * n) 0 (n * n) 1) (cmA g n n) (FL.old hb (by simp) (by simp)) 0 n n ((max n 1 : Nat) : Int) (cm_MI hn) (cm_good g n) ((k + 1 : Nat) : Int) ((k + 1 : Nat) : Int) ((n - (k + 1) : Nat) : Int) ((n - (k + 1) : Nat) : Int) (by omega) (by omega) (by omega) (by omega) (by omega) (by omega)
  unfold pOff at h
  rwa [if_pos (by omega)] at h
theorem right_full {m : Nat} : RightP m 0 (m : Int) 1 := by
  refine ⟨by omega, by omega, by omega, ?_⟩
  by_cases h : m = 0
  · exact .inl (by omega)
  · exact .inr (by omega)
theorem ger_d (H H' : List (List AV)) (b : Nat) (h : Nat → Nat → Nat) (n : Nat) (hn : n ≤ 64) (hb : H[b]? = some (fl (cmA h n n))) (k : Nat) (hk : k + 1 < n) (x y : Nat) (hx : H[x]? = some (fl (lcK h k n))) (hy : H[y]? = some (fl (urK h k (n - (k + 1))))) (hxb : x ≠ b) (hyb : y ≠ b) (hH : H.set b (fl (cmA (subG h k) n n)) = H') :
    CSpec Try.prog 106 [.flt negOne, vt (.slm x (n - (k + 1)) 0 (n - (k + 1)) 1) 0 ((n - (k + 1) : Nat) : Int) 1, vt (.slm y (n - (k + 1)) 0 (n - (k + 1)) 1) 0 ((n - (k + 1) : Nat) : Int) 1, mt (.slm b (n * n) 0 (n * n) 1) (0 + (((k + 1 : Nat) : Int) + ((k + 1 : Nat) : Int) * ((max n 1 : Nat) : Int))) ((n - (k + 1) : Nat) : Int) ((n - (k + 1) : Nat) : Int) ((max n 1 : Nat) : Int)] H (.int .i64 0) H' := by
  have hG' := part_good (cm_good h n) (i0 := k + 1) (j0 := k + 1) (r' := n - (k + 1)) (c' := n - (k + 1)) (by omega) (by omega) (by omega) (by omega)
  have hI' := part_MI (cm_MI (g := h) hn) (cm_good h n) (i0 := k + 1) (j0 := k + 1) (r' := n - (k + 1)) (c' := n - (k + 1)) (by omega) (by omega) (by omega) (by omega)
  have hv : VI (n - (k + 1)) 0 ((n - (k + 1) : Nat) : Int) 1 := ⟨by omega, by omega, by omega, by omega, by omega, by omega, by omega⟩
  have hv2 : MI (n - (k + 1)) 0 1 ((n - (k + 1) : Nat) : Int) 1 := ⟨by omega, by omega, by omega, by omega, by omega, by omega, by omega, by omega, by omega⟩
  have hmt : ∀ (z : Nat) (lz : List Nat), lz.length = n - (k + 1) → H[z]? = some (fl lz) → z ≠ b → ∀ N, CSpec Try.prog 17 [mt (.slm z (n - (k + 1)) 0 (n - (k + 1)) 1) 0 1 ((n - (k + 1) : Nat) : Int) 1, mt (.slm b (cmA h n n).length 0 (cmA h n n).length 1) (0 + (((k + 1 : Nat) : Int) + ((k + 1 : Nat) : Int) * ((max n 1 : Nat) : Int))) ((n - (k + 1) : Nat) : Int) ((n - (k + 1) : Nat) : Int) ((max n 1 : Nat) : Int)] (H ++ N) (.bool false) (H ++ N) := fun z lz hlz hz hzb N => by
    refine meet_f _ _ _ 0 1 _ 1 rfl hv2 _ _ _ _ _ _ rfl hI' (fun _ _ => ?_)
    simp [ptrEq, curG, hg_old hz, hg_old hb, hlz, hzb]
  have e := ger_c H H' b (cmA h n n) hb _ _ _ _ hI' hG' negOne (.slm x (n - (k + 1)) 0 (n - (k + 1)) 1) (n - (k + 1)) 0 1 hv right_full (fun i => h (k + 1 + i) k) (fun g => ⟨lcK h k n, FL.old (by rw [List.getElem?_set_ne (Ne.symm hxb)]; exact hx) (by simp) (by simp), by simp, fun i hi => by rw [show (0 + (i : Int) * 1).toNat = i by omega, lcK, rml_get hi]⟩) (hmt x _ (by simp) hx hxb)
    (.slm y (n - (k + 1)) 0 (n - (k + 1)) 1) (n - (k + 1)) 0 1 hv right_full (fun j => h k (k + 1 + j)) (fun g => ⟨urK h k (n - (k + 1)), FL.old (by rw [List.getElem?_set_ne (Ne.symm hyb)]; exact hy) (by simp) (by simp), by simp, fun i hi => by rw [show (0 + (i : Int) * 1).toNat = i by omega, urK, rml_get hi]⟩) (hmt y _ (by simp) hy hyb)
    (by rw [setM_part (cm_good h n) (by omega) (by omega) hG', setM_cm, ← hH]; congr 2; exact cmA_congr (fun i j hi hj => ger_part rfl i j hi hj (by omega)))
  rw [cmA_len] at e
  exact e

end Go.Sx

set_option linter.unusedVariables false
set_option linter.unusedSimpArgs false
set_option maxRecDepth 20000
namespace Go.Sx
open Go.Proofs
attribute [local irreducible] Ex exOps exD opX opE thenX blkX RetQ Spec CSpec Fr condK guardK guardD ckK valK pickK loadK faK callK argK gK fK rK RetV lpX prK

theorem pivot_e (H H' : List (List AV)) (b : Nat) (g : Nat → Nat → Nat) (n : Nat) (hn : n ≤ 64) (hb : H[b]? = some (fl (cmA g n n))) (k : Nat) (hk : k < n) (hH : H.set b (fl (cmA (swK g k n) n n)) = H') (p : Nat) (hp : p = pvK g k n) (ok : Bool) (hok : feq (swK g k n k k) 0 = !ok) :
    CSpec Try.prog 103 [mt (.slm b (n * n) 0 (n * n) 1) 0 (n : Int) (n : Int) ((max n 1 : Nat) : Int), .int .i64 (k : Int)] H (.tup [.int .i64 (p : Int), .bool ok]) H' := by
  have := pivot_d H H' b g n hn hb k hk hH
  rw [hok, Bool.not_not] at this
  rw [hp]; exact this
theorem ger_e (H H' : List (List AV)) (b : Nat) (h : Nat → Nat → Nat) (n : Nat) (hn : n ≤ 64) (hb : H[b]? = some (fl (cmA h n n))) (k : Nat) (hk : k + 1 < n) (x m i : Nat) (hx : H[x]? = some (fl (lcK h k n))) (hy : H[m + i]? = some (fl (urK h k (n - (k + 1))))) (hxb : x ≠ b) (hyb : m + i ≠ b) (hH : H.set b (fl (cmA (subG h k) n n)) = H') :
    CSpec Try.prog 106 [.flt negOne, vt (.slm x (n - (k + 1)) 0 (n - (k + 1)) 1) 0 ((n - (k + 1) : Nat) : Int) 1, vt (gV m i (n - (k + 1))) 0 ((n - (k + 1) : Nat) : Int) 1, mt (.slm b (n * n) 0 (n * n) 1) (0 + (((k + 1 : Nat) : Int) + ((k + 1 : Nat) : Int) * ((max n 1 : Nat) : Int))) ((n - (k + 1) : Nat) : Int) ((n - (k + 1) : Nat) : Int) ((max n 1 : Nat) : Int)] H (.int .i64 0) H' := by
  have e : gV m i (n - (k + 1)) = .slm (m + i) (n - (k + 1)) 0 (n - (k + 1)) 1 := if_neg (by omega)
  rw [e]
  exact ger_d H H' b h n hn hb k hk x (m + i) hx hy hxb hyb hH
theorem hNl (g : Nat → Nat → Nat) (n k : Nat) (X : List AV) : ([X] ++ (gN (il (pvL g n (k + 1))) ++ gbK g n k)).length = 2 * k + 2 := by
  rw [gN_pv]; simp [gbK_len]
theorem hNl2 (g : Nat → Nat → Nat) (n k : Nat) (X Y : List AV) : ([X] ++ (gN (il (pvL g n (k + 1))) ++ (gbK g n k ++ [Y]))).length = 2 * k + 3 := by
  rw [gN_pv]; simp [gbK_len]
theorem hNg (g : Nat → Nat → Nat) (n k : Nat) (X Y : List AV) : (X :: (gN (il (pvL g n (k + 1))) ++ gbK g n k ++ [Y]))[2 * k + 2]? = some Y := by
  have := get_last (A := [X] ++ (gN (il (pvL g n (k + 1))) ++ gbK g n k)) (x := Y) (hNl g n k X).symm
  simpa using this
theorem hNs (g : Nat → Nat → Nat) (n k : Nat) (X Y Z : List AV) : (X :: (gN (il (pvL g n (k + 1))) ++ gbK g n k ++ [Y])).set (2 * k + 2) Z = [X] ++ (gN (il (pvL g n (k + 1))) ++ (gbK g n k ++ [Z])) := by
  have := set_last (A := [X] ++ (gN (il (pvL g n (k + 1))) ++ gbK g n k)) (x := Y) (y := Z) (hNl g n k X).symm
  simpa using this
theorem hNx (g : Nat → Nat → Nat) (n k : Nat) (X Y : List AV) (Z : List (List AV)) : (([X] ++ (gN (il (pvL g n (k + 1))) ++ (gbK g n k ++ [Y]))) ++ Z)[2 * k + 2]? = some Y := by
  have := get_last (A := [X] ++ (gN (il (pvL g n (k + 1))) ++ gbK g n k)) (x := Y) (hNl g n k X).symm
  rw [List.getElem?_append_left (by rw [hNl2]; omega)]
  simpa using this
theorem hNy (g : Nat → Nat → Nat) (n k : Nat) (X Y : List AV) (u : List Nat) (hu : u ≠ []) : (([X] ++ (gN (il (pvL g n (k + 1))) ++ (gbK g n k ++ [Y]))) ++ gN (fl u))[2 * k + 3]? = some (fl u) := by
  rw [gN_ne (l := fl u) (by simpa [fl] using hu)]
  exact get_last (hNl2 g n k X Y).symm
theorem urK_ne {h : Nat → Nat → Nat} {k t : Nat} (ht : 0 < t) : urK h k t ≠ [] := fun e => by
  have := congrArg List.length e; simp at this; omega
theorem hGB (g : Nat → Nat → Nat) (n k : Nat) (hk : k + 1 < n) (X : List AV) :
    ([X] ++ (gN (il (pvL g n (k + 1))) ++ (gbK g n k ++ [fl (lcK (divG (swK (stG g n k) k n) k) k n)]))) ++ gN (fl (urK (divG (swK (stG g n k) k n) k) k (n - (k + 1)))) = [X] ++ (gN (il (pvL g n (k + 1))) ++ gbK g n (k + 1)) := by
  rw [gN_ne (l := fl (urK _ _ _)) (by simpa [fl] using urK_ne (by omega))]
  simp [gbK]
theorem urK_fl (h : Nat → Nat → Nat) (k t : Nat) : fl (urK h k t) ++ [.flt (h k (k + 1 + t))] = fl (urK h k (t + 1)) := rml_fl (fun j => h k (k + 1 + j)) t
theorem fac_last {g : Nat → Nat → Nat} {n : Nat} (h : 0 < n) : cmA (swK (stG g n (n - 1)) (n - 1) n) n n = cmA (stG g n n) n n := by
  have e : stG g n n = elG (swK (stG g n (n - 1)) (n - 1) n) (n - 1) := by
    obtain ⟨m, rfl⟩ : ∃ m, n = m + 1 := ⟨n - 1, by omega⟩
    rfl
  rw [e]
  exact cmA_congr fun i j hi hj => (elG_row (by omega)).symm
set_option maxHeartbeats 4000000 in
theorem fac_s (H : List (List AV)) (D : AV) (l : List Nat) (hF : FL H D l) (off ld : Int) (n : Nat) (hI : MI l.length off n n ld) (hG : GoodP l.length off n n ld) (hn : n ≤ 64) (g : Nat → Nat → Nat) (hg : g = mel l off ld) (hN : fN g n < n) :
    CSpec Try.prog 39 [mt D off n n ld] H (.tup [.agg [.slnil, .int .i64 0, .int .i64 0, .int .i64 0, .int .i64 0, .slnil], .int .i64 (((fN g n) + 1 : Nat) : Int), .int .i64 4]) H := by
  obtain ⟨hm, ho1, ho2, hr1, hr2, hc1, hc2, hl1, hl2⟩ := id hI
  have hkn : ∀ k, k < n → k * n + n ≤ n * n ∧ n * n ≤ 4096 := fun k hk => by
    have h1 := Nat.mul_le_mul_right n (show k + 1 ≤ n by omega)
    have h2 := Nat.mul_le_mul hn hn
    rw [Nat.add_mul] at h1
    exact ⟨by omega, by omega⟩
  have hNlt : ∀ k, k < fN g n → feq ((swK (stG g n k) k n) k k) 0 = false := fun k hk => fN_lt hk
  have hNat : fN g n < n → feq ((swK (stG g n (fN g n)) (fN g n) n) (fN g n) (fN g n)) 0 = true := fun h => fN_at h
  have hU0 : ∀ (h : Nat → Nat → Nat) k, gN (fl (urK h k 0)) = [] := fun h k => rfl
  have hle := fN_le g n
  have hGB0 : H ++ [] ++ [fl (cmA (mel l off ld) n n)] = H ++ ([fl (cmA (stG g n 0) n n)] ++ (gN (il (pvL g n 0)) ++ gbK g n 0)) := by rw [← hg, List.append_nil]; rfl
  refine .mk (fun args w => Try.call39 args w) (Spec.intro' (fn := Try.f39) Try.func39 rfl (by kernel_rfl) (by simp) false [45, 83] (draw := drawX Try.prog ⟨false, _, [45, 83]⟩) dOk ?_)
  simp only [argE, Nat.reduceAdd]
  repeat' (first
    | (refine gateE ?_; (first | refine b_c0 ?_ | refine b_nil ?_ | fail))
    | (refine gateO ?_; (first | refine b_moveF (by kernel_rfl) ?_ | refine b_moveI ?_ | refine b_move (by (conv => {lhs; whnf}); done) ?_ | (refine b_fa (by (conv => {lhs; whnf}); done) ?_; first | refine f_loc (by (conv => {lhs; whnf}); done) ?_ | refine f_ptr (by (conv => {lhs; whnf}); done) ?_) | (refine b_load (by (conv => {lhs; whnf}); done) ?_; (first | refine l_loc1 (by exact rfl) (by exact rfl) ?_ | refine l_locA (by exact rfl) (by exact rfl) ?_ | fail)) | refine b_slc (by (conv => {lhs; whnf}); done) (by exact rfl) (by exact rfl) (by exact rfl) (by have := hkn k (by omega); omega) (by exact slc_slm (m := n - (k + 1)) (by omega) rfl) ?_ | refine b_bslN (i := 2 * k + 2) (by exact rfl) (by exact rfl) (by decide) (by exact rfl) (by exact hNl g n k _) ?_ | refine b_appN (i := 2 * k + 2) (q := n - (k + 1)) (g' := n - (k + 1)) (by (conv => {lhs; whnf}); done) (by (conv => {lhs; whnf}); done) (by exact rfl) (by exact hNg g n k _ _) (by exact src_fl (FL.slm (l := lcK (divG (swK (stG g n k) k n) k) k n) (hg_new (by exact rfl) (by exact rfl)) (by simp) (by have := hkn k (by omega); simp; omega) (col_slice (by omega)).symm)) (by exact rfl) (by exact rfl) (by simp; omega) (.inl (Nat.le_refl _)) (by exact rfl) (by exact rfl) (by exact hNs g n k _ _ _) (by simp) (by simp) ?_ | refine b_grow (i := 2 * k + 3) (N₀ := [fl (cmA (divG (swK (stG g n k) k n) k) n n)] ++ (gN (il (pvL g n (k + 1))) ++ (gbK g n k ++ [fl (lcK (divG (swK (stG g n k) k n) k) k n)]))) (by (conv => {lhs; whnf}); done) (by (conv => {lhs; whnf}); done) (by exact rfl) (by exact hNl2 g n k _ _) (by simp) (by omega) (by exact rfl) (by exact rfl) (l' := fl (urK (divG (swK (stG g n k) k n) k) k (v + 1))) (by exact urK_fl (divG (swK (stG g n k) k n) k) k v) ?_ | refine b_growG (n := H.length) (i := 1) (k := k) (N₀ := [fl (cmA (swK (stG g n k) k n) n n)]) (G := gbK g n k) (l := il (pvL g n k)) (l' := il (pvL g n (k + 1))) (by (conv => {lhs; whnf}); done) (by (conv => {lhs; whnf}); done) (by exact rfl) (by exact rfl) (by simp) (fun h => by rw [h]; rfl) (by omega) (by exact rfl) (by exact rfl) (by exact pvL_il g n k) ?_ | refine b_growG (n := H.length) (i := 1) (k := (fN g n)) (N₀ := [fl (cmA (swK (stG g n (fN g n)) (fN g n) n) n n)]) (G := gbK g n (fN g n)) (l := il (pvL g n (fN g n))) (l' := il (pvL g n ((fN g n) + 1))) (by (conv => {lhs; whnf}); done) (by (conv => {lhs; whnf}); done) (by exact rfl) (by exact rfl) (by simp) (fun h => by rw [h]; rfl) (by omega) (by exact rfl) (by exact rfl) (by exact pvL_il g n (fN g n)) ?_ | (refine b_binB (by first | (conv => {lhs; whnf}; done) | exact (by exact rfl) | fail) (by first | (conv => {lhs; whnf}; done) | exact (by exact rfl) | fail) ?_; (first | refine v_to ((k + 1 : Nat) : Int) (by omega) (by omega) ?_ | refine v_to ((k + 1 + (v + 1) : Nat) : Int) (by omega) (by omega) ?_ | refine v_to ((n - k : Nat) : Int) (by omega) (by omega) ?_ | refine v_to ((n - (k + 1) : Nat) : Int) (by omega) (by omega) ?_ | refine v_to (((k * n + (k + 1)) + (n - (k + 1)) : Nat) : Int) (by have := hkn k (by omega); omega) (by omega) ?_ | refine v_to (((fN g n) + 1 : Nat) : Int) (by omega) (by omega) ?_ | refine v_bbT (by exact rfl) ?_ | refine v_k ?_ | fail)) | (refine b_bin (by (conv => {lhs; whnf}); done) (by (conv => {lhs; whnf}); done) (by (conv => {lhs; whnf}); done) ?_; (first | refine v_to ((k + 1 : Nat) : Int) (by omega) (by omega) ?_ | refine v_to ((k + 1 + (v + 1) : Nat) : Int) (by omega) (by omega) ?_ | refine v_to ((n - k : Nat) : Int) (by omega) (by omega) ?_ | refine v_to ((n - (k + 1) : Nat) : Int) (by omega) (by omega) ?_ | refine v_to (((k * n + (k + 1)) + (n - (k + 1)) : Nat) : Int) (by have := hkn k (by omega); omega) (by omega) ?_ | refine v_to (((fN g n) + 1 : Nat) : Int) (by omega) (by omega) ?_ | refine v_eT (by omega) ?_ | refine v_eF (by omega) ?_ | refine v_eP ?_ | refine v_neT (by omega) ?_ | refine v_neF (by omega) ?_ | refine v_neP ?_ | refine v_T (by omega) ?_ | refine v_F (by omega) ?_ | refine v_w (by omega) ?_ | refine v_wu (by omega) ?_ | refine v_nT ?_ | refine v_nF ?_ | refine v_nP ?_ | refine v_k ?_ | refine v_c (by omega) ?_ | fail)) | refine b_assignF (by kernel_rfl) ?_ | refine b_assignI ?_ | refine b_assignN ?_ | refine b_assign (by (conv => {lhs; whnf}); done) ?_ | (refine b_un (by (conv => {lhs; whnf}); done) (by (conv => {lhs; whnf}); done) ?_; (first | refine v_to ((k + 1 : Nat) : Int) (by omega) (by omega) ?_ | refine v_to ((k + 1 + (v + 1) : Nat) : Int) (by omega) (by omega) ?_ | refine v_to ((n - k : Nat) : Int) (by omega) (by omega) ?_ | refine v_to ((n - (k + 1) : Nat) : Int) (by omega) (by omega) ?_ | refine v_to (((k * n + (k + 1)) + (n - (k + 1)) : Nat) : Int) (by have := hkn k (by omega); omega) (by omega) ?_ | refine v_to (((fN g n) + 1 : Nat) : Int) (by omega) (by omega) ?_ | refine v_eT (by omega) ?_ | refine v_eF (by omega) ?_ | refine v_eP ?_ | refine v_neT (by omega) ?_ | refine v_neF (by omega) ?_ | refine v_neP ?_ | refine v_T (by omega) ?_ | refine v_F (by omega) ?_ | refine v_w (by omega) ?_ | refine v_wu (by omega) ?_ | refine v_nT ?_ | refine v_nF ?_ | refine v_nP ?_ | refine v_k ?_ | refine v_c (by omega) ?_ | fail)) | refine b_callB ?_ | refine b_ext (by (conv => {lhs; whnf}); done) (by exact rfl) ?_ | refine b_stL (by (conv => {lhs; whnf}); done) (by (conv => {lhs; whnf}); done) (by first | exact (by exact rfl) | exact cells_of_len hF.len | exact cells_of_len (gV_len _ _ _) | fail) (by exact rfl) (by exact rfl) (by exact Nat.le_of_ble_eq_true rfl) (by (conv => {lhs; simp only [sc, List.set_cons_zero, List.set_cons_succ]}); done) ?_ | refine b_box (by (conv => {lhs; whnf}); done) (by exact rfl) (by exact rfl) (by exact rfl) (by exact rfl) ?_ | refine b_alloc (by exact rfl) (by exact rfl) ?_ | refine b_build ?_ | refine b_bslZ (by exact rfl) (by exact rfl) (by decide) ?_ | fail))
    | (refine gateD ?_; (first | refine d_c0 (by exact rfl) ?_ | refine d_nil ?_ | fail))
    | (refine gateC ?_; (first | refine k_lt ?_ | refine k_ld (by (conv => {lhs; whnf}); done) (by exact rfl) ?_ | refine k_ldT (by (conv => {lhs; whnf}); done) ?_ | refine k_bin (by (conv => {lhs; whnf}); done) (by exact rfl) ?_ | refine k_mn ?_ | refine k_mnB (by exact rfl) ?_ | refine k_mnF ?_ | refine k_mnL (by exact rfl) ?_ | fail))
    | (refine gateT ?_; (first | refine b_thn ?_ | refine b_thr ?_ | refine b_the ?_ | fail))
    | (refine gateX ?_; (first | refine b_seq ?_ | refine b_region ?_ | (refine b_cond (by (conv => {lhs; whnf}); done) ?_; (first | refine c_T ?_ | refine c_F ?_ | refine c_P ?_ ?_ | refine c_B ?_ ?_ | fail)) | refine b_ret ?_ | refine b_skip ?_ | refine b_block ?_ | refine b_exit ?_ | refine b_draw (id := 23) [] [12] [(0, .ld true), (1, .lt), (2, .lt), (3, .lt), (4, .ld true), (5, .lt), (6, .lt), (7, .lt), (8, .lt), (9, .lt), (10, .lt), (11, .mn true), (12, .mn false)] (by kernel_rfl) ?_ | (refine b_loop [13, 12, 7, 28, 27, 11, 10, 6, 5, 2, 3, 4] (n - (k + 1)) (fun v => ⟨[(13, .val (.int .i64 ((k + 1 + v : Nat) : Int))), (12, .val (gV H.length (2 * k + 3) v)), (7, .val (.int .i64 ((k : Nat) : Int))), (28, .val (.int .i64 ((k : Nat) : Int))), (27, .val (.int .i64 ((n : Nat) : Int))), (11, .loc 11 0), (10, .val (.int .i64 ((n - (k + 1) : Nat) : Int))), (6, .val (.int .i64 ((n : Nat) : Int))), (5, .loc 5 0), (2, .loc 2 0), (3, .val (.int .i64 0)), (4, .val (.int .i64 0))], [(11, [.slm (H.length + (2 * k + 2)) (n - (k + 1)) 0 (n - (k + 1)) 1, .int .i64 0, .int .i64 ((n - (k + 1) : Nat) : Int), .int .i64 1]), (5, [.slm (H.length + 0) (n * n) 0 (n * n) 1, .int .i64 0, .int .i64 (n : Int), .int .i64 (n : Int), .int .i64 ((max n 1 : Nat) : Int)]), (2, [.slm (H.length + 0) (n * n) 0 (n * n) 1, .int .i64 0, .int .i64 (n : Int), .int .i64 (n : Int), .int .i64 ((max n 1 : Nat) : Int), gV H.length 1 (k + 1)])], H ++ (([fl (cmA (divG (swK (stG g n k) k n) k) n n)] ++ (gN (il (pvL g n (k + 1))) ++ (gbK g n k ++ [fl (lcK (divG (swK (stG g n k) k n) k) k n)]))) ++ gN (fl (urK (divG (swK (stG g n k) k n) k) k v)))⟩) (by simp only [hU0, List.append_nil]; exact rfl) ?_ ?_ <;> (first | intro v hv K hK | intro K) <;> (try dsimp only at *)) | (refine b_loop [28, 27, 6, 5, 2, 3, 4] (fN g n) (fun k => ⟨[(28, .val (.int .i64 ((k : Nat) : Int))), (27, .val (.int .i64 ((n : Nat) : Int))), (6, .val (.int .i64 ((n : Nat) : Int))), (5, .loc 5 0), (2, .loc 2 0), (3, .val (.int .i64 0)), (4, .val (.int .i64 0))], [(5, [.slm (H.length + 0) (n * n) 0 (n * n) 1, .int .i64 0, .int .i64 (n : Int), .int .i64 (n : Int), .int .i64 ((max n 1 : Nat) : Int)]), (2, [.slm (H.length + 0) (n * n) 0 (n * n) 1, .int .i64 0, .int .i64 (n : Int), .int .i64 (n : Int), .int .i64 ((max n 1 : Nat) : Int), gV H.length 1 k])], H ++ ([fl (cmA (stG g n k) n n)] ++ (gN (il (pvL g n k)) ++ gbK g n k))⟩) (by exact rfl) ?_ ?_ <;> (first | intro k hk K hK | intro K) <;> (try dsimp only at *)) | fail))
    | refine a_consF (by kernel_rfl) ?_
    | refine a_consI ?_
    | refine a_cons (by (conv => {lhs; whnf}); done) ?_
    | refine a_nil ?_
    | (refine gateK ?_; (first | refine c_call (square_k _ _ D l (FL.app hF _) off ld n hI hG hn _ (by (conv => {lhs; simp only [List.length_append, List.length_cons, List.length_nil, List.length_set, Nat.reduceAdd, Nat.zero_add]}); done) hGB0) (OldOk.app (by simp)) ?_ | refine c_call (pivot_e _ _ _ (stG g n k) n hn (hg_new (by exact rfl) rfl) k (by omega) (hs_new (N' := [fl (cmA (swK (stG g n k) k n) n n)] ++ (gN (il (pvL g n k)) ++ gbK g n k)) (by exact rfl) (by exact rfl)) (pvK (stG g n k) k n) (by exact rfl) true (hNlt k (by omega))) (OldOk.app (by simp)) ?_ | refine c_call (column_d _ _ _ (swK (stG g n k) k n) n hn (hg_new (by exact rfl) rfl) k (by omega) (hs_new (N' := [fl (cmA (divG (swK (stG g n k) k n) k) n n)] ++ (gN (il (pvL g n (k + 1))) ++ gbK g n k)) (by exact rfl) (by exact rfl))) (OldOk.app (by simp)) ?_ | refine c_call (vat_d _ _ (divG (swK (stG g n k) k n) k) n hn (hg_new (by exact rfl) rfl) k (k + 1 + v) (by omega) (by omega)) (OldOk.app (by simp)) ?_ | refine c_call (part_d _ _ (divG (swK (stG g n k) k n) k) n hn (hg_new (by exact rfl) rfl) k (by omega)) (OldOk.app (by simp)) ?_ | refine c_call (ger_e _ _ _ (divG (swK (stG g n k) k n) k) n hn (hg_new (by exact rfl) rfl) k (by omega) _ _ _ (hg_new (by exact rfl) (hNx g n k _ _ _)) (hg_new (by exact rfl) (hNy g n k _ _ _ (urK_ne (by omega)))) (by omega) (by omega) (hs_new (N' := ([fl (cmA (elG (swK (stG g n k) k n) k) n n)] ++ (gN (il (pvL g n (k + 1))) ++ (gbK g n k ++ [fl (lcK (divG (swK (stG g n k) k n) k) k n)]))) ++ gN (fl (urK (divG (swK (stG g n k) k n) k) k (n - (k + 1))))) (by exact rfl) (by exact rfl))) (OldOk.app (by simp)) ?_ | refine c_call (pivot_e _ _ _ (stG g n (fN g n)) n hn (hg_new (by exact rfl) rfl) (fN g n) (by omega) (hs_new (N' := [fl (cmA (swK (stG g n (fN g n)) (fN g n) n) n n)] ++ (gN (il (pvL g n (fN g n))) ++ gbK g n (fN g n))) (by exact rfl) (by exact rfl)) (pvK (stG g n (fN g n)) (fN g n) n) (by exact rfl) false (hNat (by omega))) (OldOk.app (by simp)) ?_ | fail))
    | refine fk_cons (by (conv => {lhs; whnf}); done) (by first | exact (by exact rfl) | exact cells_of_len hF.len | exact cells_of_len (gV_len _ _ _) | fail) (by exact rfl) (by exact rfl) (by (conv => {lhs; simp only [sc, List.set_cons_zero, List.set_cons_succ]}); done) ?_
    | refine fk_nil ?_
    | refine gk_consF (by kernel_rfl) ?_
    | refine gk_cons (by (conv => {lhs; whnf}); done) ?_
    | (refine gk_nilN (by (conv => {lhs; simp only [List.nil_append, List.cons_append]}); done) ?_; first | refine ⟨by exact rfl, ?_⟩ | skip)
    | refine gk_nil ?_
    | (intro N' hN'; simp only [List.nil_append, List.cons_append] at hN'; subst hN')
    | (refine gateB ?_; (first | refine b_bln ?_ | refine b_blr ?_ | refine b_ble ?_ | refine b_blo (by exact rfl) ?_ | fail))
    | (refine gateL ?_; (first | refine lp_n ?_ | refine lp_r ?_ | refine lp_e ?_ | fail))
    | (refine pr_k (by exact rfl) ?_; first | exact hK | (rw [← hGB g n k (by omega)] at hK; exact hK) | (exfalso; first | omega | (simp_all; done) | (simp_all; omega)))
    | (refine gateQ ?_; refine b_retK (by simp) (by (conv => {lhs; whnf}); done) ?_)
    | (refine gateR ?_; (first | refine rk_tmp (by (conv => {lhs; whnf}); done) ?_ | refine rk_cellA (by (conv => {lhs; whnf}); done) (by exact rfl) (by exact rfl) ?_ | refine rk_cell1 (by (conv => {lhs; whnf}); done) (by exact rfl) (by exact rfl) ?_ | refine rk_nil ?_ | fail))
    | (refine ⟨by simp [oneC], fun N' hN' => ?_⟩; simp only [List.nil_append, List.cons_append] at hN'; subst hN')
    | intro _)
  all_goals first
    | (exfalso; omega)
    | (refine rv_old rfl (by simp [mx, mxL, resOne]) ?_; exact rfl)

set_option maxHeartbeats 4000000 in
theorem fac_n (H : List (List AV)) (D : AV) (l : List Nat) (hF : FL H D l) (off ld : Int) (n : Nat) (hI : MI l.length off n n ld) (hG : GoodP l.length off n n ld) (hn : n ≤ 64) (g : Nat → Nat → Nat) (hg : g = mel l off ld) (hN : fN g n = n) :
    CSpec Try.prog 39 [mt D off n n ld] H (.tup [.agg [.sl none (n * n) (fl (cmA (stG g n n) n n)), .int .i64 0, .int .i64 (n : Int), .int .i64 (n : Int), .int .i64 ((max n 1 : Nat) : Int), .sl none n (il (pvL g n n))], .int .i64 0, .int .i64 0]) H := by
  obtain ⟨hm, ho1, ho2, hr1, hr2, hc1, hc2, hl1, hl2⟩ := id hI
  have hkn : ∀ k, k < n → k * n + n ≤ n * n ∧ n * n ≤ 4096 := fun k hk => by
    have h1 := Nat.mul_le_mul_right n (show k + 1 ≤ n by omega)
    have h2 := Nat.mul_le_mul hn hn
    rw [Nat.add_mul] at h1
    exact ⟨by omega, by omega⟩
  have hNlt : ∀ k, k < fN g n → feq ((swK (stG g n k) k n) k k) 0 = false := fun k hk => fN_lt hk
  have hNat : fN g n < n → feq ((swK (stG g n (fN g n)) (fN g n) n) (fN g n) (fN g n)) 0 = true := fun h => fN_at h
  have hU0 : ∀ (h : Nat → Nat → Nat) k, gN (fl (urK h k 0)) = [] := fun h k => rfl
  have hle := fN_le g n
  have hGB0 : H ++ [] ++ [fl (cmA (mel l off ld) n n)] = H ++ ([fl (cmA (stG g n 0) n n)] ++ (gN (il (pvL g n 0)) ++ gbK g n 0)) := by rw [← hg, List.append_nil]; rfl
  refine .mk (fun args w => Try.call39 args w) (Spec.intro' (fn := Try.f39) Try.func39 rfl (by kernel_rfl) (by simp) false [45, 83] (draw := drawX Try.prog ⟨false, _, [45, 83]⟩) dOk ?_)
  simp only [argE, Nat.reduceAdd]
  repeat' (first
    | (refine gateE ?_; (first | refine b_c0 ?_ | refine b_nil ?_ | fail))
    | (refine gateO ?_; (first | refine b_moveF (by kernel_rfl) ?_ | refine b_moveI ?_ | refine b_move (by (conv => {lhs; whnf}); done) ?_ | (refine b_fa (by (conv => {lhs; whnf}); done) ?_; first | refine f_loc (by (conv => {lhs; whnf}); done) ?_ | refine f_ptr (by (conv => {lhs; whnf}); done) ?_) | (refine b_load (by (conv => {lhs; whnf}); done) ?_; (first | refine l_loc1 (by exact rfl) (by exact rfl) ?_ | refine l_locA (by exact rfl) (by exact rfl) ?_ | fail)) | refine b_slc (by (conv => {lhs; whnf}); done) (by exact rfl) (by exact rfl) (by exact rfl) (by have := hkn k (by omega); omega) (by exact slc_slm (m := n - (k + 1)) (by omega) rfl) ?_ | refine b_bslN (i := 2 * k + 2) (by exact rfl) (by exact rfl) (by decide) (by exact rfl) (by exact hNl g n k _) ?_ | refine b_appN (i := 2 * k + 2) (q := n - (k + 1)) (g' := n - (k + 1)) (by (conv => {lhs; whnf}); done) (by (conv => {lhs; whnf}); done) (by exact rfl) (by exact hNg g n k _ _) (by exact src_fl (FL.slm (l := lcK (divG (swK (stG g n k) k n) k) k n) (hg_new (by exact rfl) (by exact rfl)) (by simp) (by have := hkn k (by omega); simp; omega) (col_slice (by omega)).symm)) (by exact rfl) (by exact rfl) (by simp; omega) (.inl (Nat.le_refl _)) (by exact rfl) (by exact rfl) (by exact hNs g n k _ _ _) (by simp) (by simp) ?_ | refine b_grow (i := 2 * k + 3) (N₀ := [fl (cmA (divG (swK (stG g n k) k n) k) n n)] ++ (gN (il (pvL g n (k + 1))) ++ (gbK g n k ++ [fl (lcK (divG (swK (stG g n k) k n) k) k n)]))) (by (conv => {lhs; whnf}); done) (by (conv => {lhs; whnf}); done) (by exact rfl) (by exact hNl2 g n k _ _) (by simp) (by omega) (by exact rfl) (by exact rfl) (l' := fl (urK (divG (swK (stG g n k) k n) k) k (v + 1))) (by exact urK_fl (divG (swK (stG g n k) k n) k) k v) ?_ | refine b_growG (n := H.length) (i := 1) (k := k) (N₀ := [fl (cmA (swK (stG g n k) k n) n n)]) (G := gbK g n k) (l := il (pvL g n k)) (l' := il (pvL g n (k + 1))) (by (conv => {lhs; whnf}); done) (by (conv => {lhs; whnf}); done) (by exact rfl) (by exact rfl) (by simp) (fun h => by rw [h]; rfl) (by omega) (by exact rfl) (by exact rfl) (by exact pvL_il g n k) ?_ | refine b_growG (n := H.length) (i := 1) (k := (n - 1)) (N₀ := [fl (cmA (swK (stG g n (n - 1)) (n - 1) n) n n)]) (G := gbK g n (n - 1)) (l := il (pvL g n (n - 1))) (l' := il (pvL g n ((n - 1) + 1))) (by (conv => {lhs; whnf}); done) (by (conv => {lhs; whnf}); done) (by exact rfl) (by exact rfl) (by simp) (fun h => by rw [h]; rfl) (by omega) (by exact rfl) (by exact rfl) (by exact pvL_il g n (n - 1)) ?_ | (refine b_binB (by first | (conv => {lhs; whnf}; done) | exact (by exact rfl) | fail) (by first | (conv => {lhs; whnf}; done) | exact (by exact rfl) | fail) ?_; (first | refine v_to ((k + 1 : Nat) : Int) (by omega) (by omega) ?_ | refine v_to ((k + 1 + (v + 1) : Nat) : Int) (by omega) (by omega) ?_ | refine v_to ((n - k : Nat) : Int) (by omega) (by omega) ?_ | refine v_to ((n - (k + 1) : Nat) : Int) (by omega) (by omega) ?_ | refine v_to (((k * n + (k + 1)) + (n - (k + 1)) : Nat) : Int) (by have := hkn k (by omega); omega) (by omega) ?_ | refine v_to (((n - 1) + 1 : Nat) : Int) (by omega) (by omega) ?_ | refine v_bbT (by exact rfl) ?_ | refine v_k ?_ | fail)) | (refine b_bin (by (conv => {lhs; whnf}); done) (by (conv => {lhs; whnf}); done) (by (conv => {lhs; whnf}); done) ?_; (first | refine v_to ((k + 1 : Nat) : Int) (by omega) (by omega) ?_ | refine v_to ((k + 1 + (v + 1) : Nat) : Int) (by omega) (by omega) ?_ | refine v_to ((n - k : Nat) : Int) (by omega) (by omega) ?_ | refine v_to ((n - (k + 1) : Nat) : Int) (by omega) (by omega) ?_ | refine v_to (((k * n + (k + 1)) + (n - (k + 1)) : Nat) : Int) (by have := hkn k (by omega); omega) (by omega) ?_ | refine v_to (((n - 1) + 1 : Nat) : Int) (by omega) (by omega) ?_ | refine v_eT (by omega) ?_ | refine v_eF (by omega) ?_ | refine v_eP ?_ | refine v_neT (by omega) ?_ | refine v_neF (by omega) ?_ | refine v_neP ?_ | refine v_T (by omega) ?_ | refine v_F (by omega) ?_ | refine v_w (by omega) ?_ | refine v_wu (by omega) ?_ | refine v_nT ?_ | refine v_nF ?_ | refine v_nP ?_ | refine v_k ?_ | refine v_c (by omega) ?_ | fail)) | refine b_assignF (by kernel_rfl) ?_ | refine b_assignI ?_ | refine b_assignN ?_ | refine b_assign (by (conv => {lhs; whnf}); done) ?_ | (refine b_un (by (conv => {lhs; whnf}); done) (by (conv => {lhs; whnf}); done) ?_; (first | refine v_to ((k + 1 : Nat) : Int) (by omega) (by omega) ?_ | refine v_to ((k + 1 + (v + 1) : Nat) : Int) (by omega) (by omega) ?_ | refine v_to ((n - k : Nat) : Int) (by omega) (by omega) ?_ | refine v_to ((n - (k + 1) : Nat) : Int) (by omega) (by omega) ?_ | refine v_to (((k * n + (k + 1)) + (n - (k + 1)) : Nat) : Int) (by have := hkn k (by omega); omega) (by omega) ?_ | refine v_to (((n - 1) + 1 : Nat) : Int) (by omega) (by omega) ?_ | refine v_eT (by omega) ?_ | refine v_eF (by omega) ?_ | refine v_eP ?_ | refine v_neT (by omega) ?_ | refine v_neF (by omega) ?_ | refine v_neP ?_ | refine v_T (by omega) ?_ | refine v_F (by omega) ?_ | refine v_w (by omega) ?_ | refine v_wu (by omega) ?_ | refine v_nT ?_ | refine v_nF ?_ | refine v_nP ?_ | refine v_k ?_ | refine v_c (by omega) ?_ | fail)) | refine b_callB ?_ | refine b_ext (by (conv => {lhs; whnf}); done) (by exact rfl) ?_ | refine b_stL (by (conv => {lhs; whnf}); done) (by (conv => {lhs; whnf}); done) (by first | exact (by exact rfl) | exact cells_of_len hF.len | exact cells_of_len (gV_len _ _ _) | fail) (by exact rfl) (by exact rfl) (by exact Nat.le_of_ble_eq_true rfl) (by (conv => {lhs; simp only [sc, List.set_cons_zero, List.set_cons_succ]}); done) ?_ | refine b_box (by (conv => {lhs; whnf}); done) (by exact rfl) (by exact rfl) (by exact rfl) (by exact rfl) ?_ | refine b_alloc (by exact rfl) (by exact rfl) ?_ | refine b_build ?_ | refine b_bslZ (by exact rfl) (by exact rfl) (by decide) ?_ | fail))
    | (refine gateD ?_; (first | refine d_c0 (by exact rfl) ?_ | refine d_nil ?_ | fail))
    | (refine gateC ?_; (first | refine k_lt ?_ | refine k_ld (by (conv => {lhs; whnf}); done) (by exact rfl) ?_ | refine k_ldT (by (conv => {lhs; whnf}); done) ?_ | refine k_bin (by (conv => {lhs; whnf}); done) (by exact rfl) ?_ | refine k_mn ?_ | refine k_mnB (by exact rfl) ?_ | refine k_mnF ?_ | refine k_mnL (by exact rfl) ?_ | fail))
    | (refine gateT ?_; (first | refine b_thn ?_ | refine b_thr ?_ | refine b_the ?_ | fail))
    | (refine gateX ?_; (first | refine b_seq ?_ | refine b_region ?_ | (refine b_cond (by (conv => {lhs; whnf}); done) ?_; (first | refine c_T ?_ | refine c_F ?_ | refine c_P ?_ ?_ | refine c_B ?_ ?_ | fail)) | refine b_ret ?_ | refine b_skip ?_ | refine b_block ?_ | refine b_exit ?_ | refine b_draw (id := 23) [] [12] [(0, .ld true), (1, .lt), (2, .lt), (3, .lt), (4, .ld true), (5, .lt), (6, .lt), (7, .lt), (8, .lt), (9, .lt), (10, .lt), (11, .mn true), (12, .mn false)] (by kernel_rfl) ?_ | (refine b_loop [13, 12, 7, 28, 27, 11, 10, 6, 5, 2, 3, 4] (n - (k + 1)) (fun v => ⟨[(13, .val (.int .i64 ((k + 1 + v : Nat) : Int))), (12, .val (gV H.length (2 * k + 3) v)), (7, .val (.int .i64 ((k : Nat) : Int))), (28, .val (.int .i64 ((k : Nat) : Int))), (27, .val (.int .i64 ((n : Nat) : Int))), (11, .loc 11 0), (10, .val (.int .i64 ((n - (k + 1) : Nat) : Int))), (6, .val (.int .i64 ((n : Nat) : Int))), (5, .loc 5 0), (2, .loc 2 0), (3, .val (.int .i64 0)), (4, .val (.int .i64 0))], [(11, [.slm (H.length + (2 * k + 2)) (n - (k + 1)) 0 (n - (k + 1)) 1, .int .i64 0, .int .i64 ((n - (k + 1) : Nat) : Int), .int .i64 1]), (5, [.slm (H.length + 0) (n * n) 0 (n * n) 1, .int .i64 0, .int .i64 (n : Int), .int .i64 (n : Int), .int .i64 ((max n 1 : Nat) : Int)]), (2, [.slm (H.length + 0) (n * n) 0 (n * n) 1, .int .i64 0, .int .i64 (n : Int), .int .i64 (n : Int), .int .i64 ((max n 1 : Nat) : Int), gV H.length 1 (k + 1)])], H ++ (([fl (cmA (divG (swK (stG g n k) k n) k) n n)] ++ (gN (il (pvL g n (k + 1))) ++ (gbK g n k ++ [fl (lcK (divG (swK (stG g n k) k n) k) k n)]))) ++ gN (fl (urK (divG (swK (stG g n k) k n) k) k v)))⟩) (by simp only [hU0, List.append_nil]; exact rfl) ?_ ?_ <;> (first | intro v hv K hK | intro K) <;> (try dsimp only at *)) | (refine b_loop [28, 27, 6, 5, 2, 3, 4] (n - 1) (fun k => ⟨[(28, .val (.int .i64 ((k : Nat) : Int))), (27, .val (.int .i64 ((n : Nat) : Int))), (6, .val (.int .i64 ((n : Nat) : Int))), (5, .loc 5 0), (2, .loc 2 0), (3, .val (.int .i64 0)), (4, .val (.int .i64 0))], [(5, [.slm (H.length + 0) (n * n) 0 (n * n) 1, .int .i64 0, .int .i64 (n : Int), .int .i64 (n : Int), .int .i64 ((max n 1 : Nat) : Int)]), (2, [.slm (H.length + 0) (n * n) 0 (n * n) 1, .int .i64 0, .int .i64 (n : Int), .int .i64 (n : Int), .int .i64 ((max n 1 : Nat) : Int), gV H.length 1 k])], H ++ ([fl (cmA (stG g n k) n n)] ++ (gN (il (pvL g n k)) ++ gbK g n k))⟩) (by exact rfl) ?_ ?_ <;> (first | intro k hk K hK | intro K) <;> (try dsimp only at *)) | fail))
    | refine a_consF (by kernel_rfl) ?_
    | refine a_consI ?_
    | refine a_cons (by (conv => {lhs; whnf}); done) ?_
    | refine a_nil ?_
    | (refine gateK ?_; (first | refine c_call (square_k _ _ D l (FL.app hF _) off ld n hI hG hn _ (by (conv => {lhs; simp only [List.length_append, List.length_cons, List.length_nil, List.length_set, Nat.reduceAdd, Nat.zero_add]}); done) hGB0) (OldOk.app (by simp)) ?_ | refine c_call (pivot_e _ _ _ (stG g n k) n hn (hg_new (by exact rfl) rfl) k (by omega) (hs_new (N' := [fl (cmA (swK (stG g n k) k n) n n)] ++ (gN (il (pvL g n k)) ++ gbK g n k)) (by exact rfl) (by exact rfl)) (pvK (stG g n k) k n) (by exact rfl) true (hNlt k (by omega))) (OldOk.app (by simp)) ?_ | refine c_call (column_d _ _ _ (swK (stG g n k) k n) n hn (hg_new (by exact rfl) rfl) k (by omega) (hs_new (N' := [fl (cmA (divG (swK (stG g n k) k n) k) n n)] ++ (gN (il (pvL g n (k + 1))) ++ gbK g n k)) (by exact rfl) (by exact rfl))) (OldOk.app (by simp)) ?_ | refine c_call (vat_d _ _ (divG (swK (stG g n k) k n) k) n hn (hg_new (by exact rfl) rfl) k (k + 1 + v) (by omega) (by omega)) (OldOk.app (by simp)) ?_ | refine c_call (part_d _ _ (divG (swK (stG g n k) k n) k) n hn (hg_new (by exact rfl) rfl) k (by omega)) (OldOk.app (by simp)) ?_ | refine c_call (ger_e _ _ _ (divG (swK (stG g n k) k n) k) n hn (hg_new (by exact rfl) rfl) k (by omega) _ _ _ (hg_new (by exact rfl) (hNx g n k _ _ _)) (hg_new (by exact rfl) (hNy g n k _ _ _ (urK_ne (by omega)))) (by omega) (by omega) (hs_new (N' := ([fl (cmA (elG (swK (stG g n k) k n) k) n n)] ++ (gN (il (pvL g n (k + 1))) ++ (gbK g n k ++ [fl (lcK (divG (swK (stG g n k) k n) k) k n)]))) ++ gN (fl (urK (divG (swK (stG g n k) k n) k) k (n - (k + 1))))) (by exact rfl) (by exact rfl))) (OldOk.app (by simp)) ?_ | refine c_call (pivot_e _ _ _ (stG g n (n - 1)) n hn (hg_new (by exact rfl) rfl) (n - 1) (by omega) (hs_new (N' := [fl (cmA (swK (stG g n (n - 1)) (n - 1) n) n n)] ++ (gN (il (pvL g n (n - 1))) ++ gbK g n (n - 1))) (by exact rfl) (by exact rfl)) (pvK (stG g n (n - 1)) (n - 1) n) (by exact rfl) true (hNlt (n - 1) (by omega))) (OldOk.app (by simp)) ?_ | fail))
    | refine fk_cons (by (conv => {lhs; whnf}); done) (by first | exact (by exact rfl) | exact cells_of_len hF.len | exact cells_of_len (gV_len _ _ _) | fail) (by exact rfl) (by exact rfl) (by (conv => {lhs; simp only [sc, List.set_cons_zero, List.set_cons_succ]}); done) ?_
    | refine fk_nil ?_
    | refine gk_consF (by kernel_rfl) ?_
    | refine gk_cons (by (conv => {lhs; whnf}); done) ?_
    | (refine gk_nilN (by (conv => {lhs; simp only [List.nil_append, List.cons_append]}); done) ?_; first | refine ⟨by exact rfl, ?_⟩ | skip)
    | refine gk_nil ?_
    | (intro N' hN'; simp only [List.nil_append, List.cons_append] at hN'; subst hN')
    | (refine gateB ?_; (first | refine b_bln ?_ | refine b_blr ?_ | refine b_ble ?_ | refine b_blo (by exact rfl) ?_ | fail))
    | (refine gateL ?_; (first | refine lp_n ?_ | refine lp_r ?_ | refine lp_e ?_ | fail))
    | (refine pr_k (by exact rfl) ?_; first | exact hK | (rw [← hGB g n k (by omega)] at hK; exact hK) | (exfalso; first | omega | (simp_all; done) | (simp_all; omega)))
    | (refine gateQ ?_; refine b_retK (by simp) (by (conv => {lhs; whnf}); done) ?_)
    | (refine gateR ?_; (first | refine rk_tmp (by (conv => {lhs; whnf}); done) ?_ | refine rk_cellA (by (conv => {lhs; whnf}); done) (by exact rfl) (by exact rfl) ?_ | refine rk_cell1 (by (conv => {lhs; whnf}); done) (by exact rfl) (by exact rfl) ?_ | refine rk_nil ?_ | fail))
    | (refine ⟨by simp [oneC], fun N' hN' => ?_⟩; simp only [List.nil_append, List.cons_append] at hN'; subst hN')
    | intro _)
  all_goals first
    | (exfalso; omega)
    | (have h0 : n = 0 := by omega
       subst h0; refine rv_fr rfl ?_; exact Fr.tup (Frs.cons (Fr.agg (Frs.cons (Fr.fz (by omega) (by simp) (hg_new rfl rfl) (by simp) (gc_all _ (by simp)) (Frs.old (by rw [mxL_fl]; exact Nat.zero_le _))) (Frs.cons (Fr.old (by simp [mx])) (Frs.cons (Fr.old (by simp [mx])) (Frs.cons (Fr.old (by simp [mx])) (Frs.cons (Fr.old (by simp [mx])) (Frs.cons (gV_frG (i := 1) rfl rfl (by simp) (by rw [mxL_il]; exact Nat.zero_le _)) Frs.nil))))))) (Frs.cons (Fr.old (by simp [mx])) (Frs.cons (Fr.old (by simp [mx])) Frs.nil))))
    | (rw [fac_last (by omega), show n - 1 + 1 = n by omega]; refine rv_fr rfl ?_; exact Fr.tup (Frs.cons (Fr.agg (Frs.cons (Fr.fz (by omega) (by simp) (hg_new rfl rfl) (by simp) (gc_all _ (by simp)) (Frs.old (by rw [mxL_fl]; exact Nat.zero_le _))) (Frs.cons (Fr.old (by simp [mx])) (Frs.cons (Fr.old (by simp [mx])) (Frs.cons (Fr.old (by simp [mx])) (Frs.cons (Fr.old (by simp [mx])) (Frs.cons (gV_frG (i := 1) rfl rfl (by simp) (by rw [mxL_il]; exact Nat.zero_le _)) Frs.nil))))))) (Frs.cons (Fr.old (by simp [mx])) (Frs.cons (Fr.old (by simp [mx])) Frs.nil))))


end Go.Sx

set_option linter.unusedVariables false
set_option linter.unusedSimpArgs false
set_option maxRecDepth 20000
namespace Go.Sx
open Go.Proofs
attribute [local irreducible] Ex exOps exD opX opE thenX blkX RetQ Spec CSpec Fr condK guardK guardD ckK valK pickK loadK faK callK argK gK fK rK RetV lpX prK
set_option maxHeartbeats 4000000 in
theorem ints_c (H : List (List AV)) (Da : AV) (la : List Int) (hFa : IL H Da la) (hBa : la.length ≤ 2 ^ 48) (Db : AV) (lb : List Int) (hFb : IL H Db lb) (hBb : lb.length ≤ 2 ^ 48) :
    CSpec Try.prog 46 [Da, Db] H (.bool (decide (la = lb))) H := by
  obtain ⟨N, hN1, hN2, hN3⟩ := first_bad (fun k => la.getD k 0 = lb.getD k 0) la.length
  refine .mk (fun args w => Try.call46 args w) (Spec.intro' (fn := Try.f46) Try.func46 rfl (by kernel_rfl) (by simp) false [] (draw := drawX Try.prog ⟨false, _, []⟩) dOk ?_)
  simp only [argE, Nat.reduceAdd]
  repeat' (first
    | (refine gateE ?_; (first | refine b_c0 ?_ | refine b_nil ?_ | fail))
    | (refine gateO ?_; (first | refine b_move (by (conv => {lhs; whnf}); done) ?_ | (refine b_load (by (conv => {lhs; whnf}); done) ?_; (first | refine l_loc1 (by exact rfl) (by exact rfl) ?_ | refine l_locA (by exact rfl) (by exact rfl) ?_ | refine l_IL (IL.app hFa _) (by omega) ?_ | refine l_IL (IL.app hFb _) (by omega) ?_ | fail)) | refine b_iaN (by (conv => {lhs; whnf}); done) (by (conv => {lhs; whnf}); done) (by exact hFa.len) (by omega) ?_ | refine b_iaN (by (conv => {lhs; whnf}); done) (by (conv => {lhs; whnf}); done) (by exact hFb.len) (by omega) ?_ | refine b_lenA (by (conv => {lhs; whnf}); done) (by exact hFa.len) ?_ | refine b_lenA (by (conv => {lhs; whnf}); done) (by exact hFb.len) ?_ | (refine b_bin (by (conv => {lhs; whnf}); done) (by (conv => {lhs; whnf}); done) (by (conv => {lhs; whnf}); done) ?_; (first | refine v_neT (by omega) ?_ | refine v_neF (by omega) ?_ | refine v_neP ?_ | refine v_T (by omega) ?_ | refine v_F (by omega) ?_ | refine v_w (by omega) ?_ | refine v_wu (by omega) ?_ | refine v_k ?_ | refine v_c (by omega) ?_ | fail)) | refine b_assignF (by kernel_rfl) ?_ | refine b_assignI ?_ | refine b_assignN ?_ | refine b_assign (by (conv => {lhs; whnf}); done) ?_ | refine b_lenA (by (conv => {lhs; whnf}); done) (by first | rfl | assumption) ?_ | fail))
    | (refine gateD ?_; (first | refine d_c0 (by exact rfl) ?_ | refine d_nil ?_ | fail))
    | (refine gateC ?_; (first | refine k_lt ?_ | refine k_ld (by (conv => {lhs; whnf}); done) (by exact rfl) ?_ | refine k_ldT (by (conv => {lhs; whnf}); done) ?_ | refine k_bin (by (conv => {lhs; whnf}); done) (by exact rfl) ?_ | refine k_mn ?_ | refine k_mnB (by exact rfl) ?_ | refine k_mnF ?_ | refine k_mnL (by exact rfl) ?_ | fail))
    | (refine gateT ?_; (first | refine b_thn ?_ | refine b_thr ?_ | refine b_the ?_ | fail))
    | (refine gateX ?_; (first | refine b_seq ?_ | refine b_region ?_ | (refine b_cond (by (conv => {lhs; whnf}); done) ?_; (first | refine c_T ?_ | refine c_F ?_ | refine c_P ?_ ?_ | refine c_B ?_ ?_ | fail)) | refine b_ret ?_ | refine b_skip ?_ | refine b_block ?_ | refine b_exit ?_ | refine b_draw (id := 6) [] [] [(0, .lt), (1, .lt), (2, .lt), (3, .ld true), (4, .lt), (5, .lt), (6, .lt), (7, .ld true), (8, .ld true)] (by kernel_rfl) ?_ | (refine b_loop [5, 0, 1] N (fun k => ⟨[(5, .val (.int .i64 (k : Int))), (0, .val Da), (1, .val Db)], [], H ++ []⟩) (by exact rfl) ?_ ?_ <;> (first | intro k hk K hK | intro K) <;> (try dsimp only at *) <;> (try simp only [Int.natCast_add, Int.natCast_one] at *)) | fail))
    | (refine gateB ?_; (first | refine b_bln ?_ | refine b_blr ?_ | refine b_ble ?_ | refine b_blo (by exact rfl) ?_ | fail))
    | (refine gateL ?_; (first | refine lp_n ?_ | refine lp_r ?_ | refine lp_e ?_ | fail))
    | (refine pr_k (by exact rfl) ?_; first | exact hK | (exfalso; have := hN3 (by omega); omega) | (exfalso; have := hN3 (by omega); omega) | (exfalso; first | omega | (simp_all; done) | (simp_all; omega)))
    | (refine gateQ ?_; refine b_retK (by simp) (by (conv => {lhs; whnf}); done) ?_)
    | (refine gateR ?_; (first | refine rk_tmp (by (conv => {lhs; whnf}); done) ?_ | refine rk_cellA (by (conv => {lhs; whnf}); done) (by exact rfl) (by exact rfl) ?_ | refine rk_cell1 (by (conv => {lhs; whnf}); done) (by exact rfl) (by exact rfl) ?_ | refine rk_nil ?_ | fail))
    | intro _)
  all_goals first | refine rv_old rfl (by simp [mx, mxL, aOf, aOf1, resOne]) ?_ | (trace_state; fail)
  all_goals first
    | (refine rtF (fun h => ?_); subst h; first | contradiction | omega | (simp_all; done))
    | (refine rtT (eq_of_getI (by omega) (fun k hk => hN2 k (by omega))))

set_option maxHeartbeats 4000000 in
theorem piv_c (H : List (List AV)) (P : AV) (p : List Int) (hP : IL H P p) (hB : p.length ≤ 2 ^ 30) :
    CSpec Try.prog 40 [P] H (.bool (decide (pivP p))) H := by
  obtain ⟨N, hN1, hN2, hN3⟩ := first_bad (fun k => (k : Int) ≤ p.getD k 0 ∧ p.getD k 0 < p.length) p.length
  refine .mk (fun args w => Try.call40 args w) (Spec.intro' (fn := Try.f40) Try.func40 rfl (by kernel_rfl) (by simp) false [] (draw := drawX Try.prog ⟨false, _, []⟩) dOk ?_)
  simp only [argE, Nat.reduceAdd]
  repeat' (first
    | (refine gateE ?_; (first | refine b_c0 ?_ | refine b_nil ?_ | refine b_gT (by exact rfl) (by exact rfl) ?_ | refine b_gF (by exact rfl) (by exact rfl) (by exact rfl) ?_ | refine b_gU (by exact rfl) (by exact rfl) (by constructor <;> simp) (by exact rfl) (by exact rfl) ?_ | (refine b_g0 (by exact rfl) (by exact rfl) (by (conv => {lhs; whnf}); done) ?_; (first | refine g_TT ?_ | refine g_FF ?_ | refine g_TF ?_ | refine g_FT ?_ | refine g_PT ?_ ?_ | refine g_PF ?_ ?_ | refine g_BT ?_ ?_ | refine g_BF ?_ ?_ | fail)) | (refine b_g1 (by exact rfl) (by exact rfl) (by exact rfl) (by (conv => {lhs; whnf}); done) ?_; (first | refine g_TT ?_ | refine g_FF ?_ | refine g_TF ?_ | refine g_FT ?_ | refine g_PT ?_ ?_ | refine g_PF ?_ ?_ | refine g_BT ?_ ?_ | refine g_BF ?_ ?_ | fail)) | refine b_c1 (by exact rfl) ?_ | fail))
    | (refine gateO ?_; (first | refine b_move (by (conv => {lhs; whnf}); done) ?_ | (refine b_load (by (conv => {lhs; whnf}); done) ?_; (first | refine l_loc1 (by exact rfl) (by exact rfl) ?_ | refine l_locA (by exact rfl) (by exact rfl) ?_ | refine l_IL (IL.app hP _) (by omega) ?_ | fail)) | refine b_iaN (by (conv => {lhs; whnf}); done) (by (conv => {lhs; whnf}); done) (by exact hP.len) (by omega) ?_ | refine b_lenA (by (conv => {lhs; whnf}); done) (by exact hP.len) ?_ | (refine b_bin (by (conv => {lhs; whnf}); done) (by (conv => {lhs; whnf}); done) (by (conv => {lhs; whnf}); done) ?_; (first | refine v_T (by omega) ?_ | refine v_F (by omega) ?_ | refine v_w (by omega) ?_ | refine v_wu (by omega) ?_ | refine v_k ?_ | refine v_c (by omega) ?_ | fail)) | (refine b_pick (by (conv => {lhs; whnf}); done) ?_; (first | refine p_T (by (conv => {lhs; whnf}); done) ?_ | refine p_F (by (conv => {lhs; whnf}); done) ?_ | fail)) | refine b_assignF (by kernel_rfl) ?_ | refine b_assignI ?_ | refine b_assignN ?_ | refine b_assign (by (conv => {lhs; whnf}); done) ?_ | refine b_lenA (by (conv => {lhs; whnf}); done) (by first | rfl | assumption) ?_ | fail))
    | (refine gateT ?_; (first | refine b_thn ?_ | refine b_thr ?_ | refine b_the ?_ | fail))
    | (refine gateX ?_; (first | refine b_seq ?_ | refine b_region ?_ | (refine b_cond (by (conv => {lhs; whnf}); done) ?_; (first | refine c_T ?_ | refine c_F ?_ | refine c_P ?_ ?_ | refine c_B ?_ ?_ | fail)) | refine b_ret ?_ | refine b_skip ?_ | refine b_block ?_ | refine b_exit ?_ | (refine b_loop [3, 0, 2] N (fun k => ⟨[(3, .val (.int .i64 (k : Int))), (0, .val P), (2, .val (.bool false))], [], H ++ []⟩) (by exact rfl) ?_ ?_ <;> (first | intro k hk K hK | intro K) <;> (try dsimp only at *) <;> (try simp only [Int.natCast_add, Int.natCast_one] at *)) | fail))
    | (refine gateB ?_; (first | refine b_bln ?_ | refine b_blr ?_ | refine b_ble ?_ | refine b_blo (by exact rfl) ?_ | fail))
    | (refine gateL ?_; (first | refine lp_n ?_ | refine lp_r ?_ | refine lp_e ?_ | fail))
    | (refine pr_k (by exact rfl) ?_; first | exact hK | (exfalso; have := hN3 (by omega); omega) | (exfalso; have := hN3 (by omega); omega) | (exfalso; first | omega | (simp_all; done) | (simp_all; omega)))
    | (refine gateQ ?_; refine b_retK (by simp) (by (conv => {lhs; whnf}); done) ?_)
    | (refine gateR ?_; (first | refine rk_tmp (by (conv => {lhs; whnf}); done) ?_ | refine rk_cellA (by (conv => {lhs; whnf}); done) (by exact rfl) (by exact rfl) ?_ | refine rk_cell1 (by (conv => {lhs; whnf}); done) (by exact rfl) (by exact rfl) ?_ | refine rk_nil ?_ | fail))
    | intro _)
  all_goals first | refine rv_old rfl (by simp [mx, mxL, aOf, aOf1, resOne]) ?_ | (trace_state; fail)
  all_goals first
    | (exfalso; have := hN2 k hk; omega)
    | exact rtF (fun h => by first | (have := h N (by omega); omega) | (have := h.2.2.2 N (by omega); omega) | omega)
    | exact rtF (fun h => by first | (have h2 := h.1; contradiction) | (have h2 := h.2.1; have h3 := h.2.2.1; omega))
    | exact rtT (fun k hk => hN2 k (by omega))
    | (refine rtT ⟨Decidable.not_not.1 (by assumption), by omega, by omega, fun k hk => hN2 k (by omega)⟩)

set_option maxHeartbeats 4000000 in
theorem fac_q (H : List (List AV)) (D : AV) (l : List Nat) (hF : FL H D l) (off rows cols ld : Int) (hI : MI l.length off rows cols ld) (hG : GoodP l.length off rows cols ld) (hne : rows ≠ cols) :
    CSpec Try.prog 39 [mt D off rows cols ld] H (.tup [.agg [.slnil, .int .i64 0, .int .i64 0, .int .i64 0, .int .i64 0, .slnil], .int .i64 0, .int .i64 3]) H := by
  obtain ⟨hn, ho1, ho2, hr1, hr2, hc1, hc2, hl1, hl2⟩ := id hI
  refine .mk (fun args w => Try.call39 args w) (Spec.intro' (fn := Try.f39) Try.func39 rfl (by kernel_rfl) (by simp) false [] (draw := drawX Try.prog ⟨false, _, []⟩) dOk ?_)
  simp only [argE, Nat.reduceAdd]
  repeat' (first
    | (refine gateE ?_; (first | refine b_c0 ?_ | refine b_nil ?_ | fail))
    | (refine gateO ?_; (first | refine b_moveF (by kernel_rfl) ?_ | refine b_moveI ?_ | refine b_move (by (conv => {lhs; whnf}); done) ?_ | (refine b_fa (by (conv => {lhs; whnf}); done) ?_; first | refine f_loc (by (conv => {lhs; whnf}); done) ?_ | refine f_ptr (by (conv => {lhs; whnf}); done) ?_) | (refine b_load (by (conv => {lhs; whnf}); done) ?_; (first | refine l_loc1 (by exact rfl) (by exact rfl) ?_ | refine l_locA (by exact rfl) (by exact rfl) ?_ | fail)) | (refine b_binB (by first | (conv => {lhs; whnf}; done) | exact (by exact rfl) | fail) (by first | (conv => {lhs; whnf}; done) | exact (by exact rfl) | fail) ?_; (first | refine v_bbT (by exact rfl) ?_ | refine v_k ?_ | fail)) | (refine b_bin (by (conv => {lhs; whnf}); done) (by (conv => {lhs; whnf}); done) (by (conv => {lhs; whnf}); done) ?_; (first | refine v_eT (by omega) ?_ | refine v_eF (by omega) ?_ | refine v_eP ?_ | refine v_neT (by omega) ?_ | refine v_neF (by omega) ?_ | refine v_neP ?_ | refine v_T (by omega) ?_ | refine v_F (by omega) ?_ | refine v_w (by omega) ?_ | refine v_wu (by omega) ?_ | refine v_nT ?_ | refine v_nF ?_ | refine v_nP ?_ | refine v_k ?_ | refine v_c (by omega) ?_ | fail)) | refine b_assignF (by kernel_rfl) ?_ | refine b_assignI ?_ | refine b_assignN ?_ | refine b_assign (by (conv => {lhs; whnf}); done) ?_ | (refine b_un (by (conv => {lhs; whnf}); done) (by (conv => {lhs; whnf}); done) ?_; (first | refine v_eT (by omega) ?_ | refine v_eF (by omega) ?_ | refine v_eP ?_ | refine v_neT (by omega) ?_ | refine v_neF (by omega) ?_ | refine v_neP ?_ | refine v_T (by omega) ?_ | refine v_F (by omega) ?_ | refine v_w (by omega) ?_ | refine v_wu (by omega) ?_ | refine v_nT ?_ | refine v_nF ?_ | refine v_nP ?_ | refine v_k ?_ | refine v_c (by omega) ?_ | fail)) | refine b_callB ?_ | refine b_ext (by (conv => {lhs; whnf}); done) (by exact rfl) ?_ | refine b_stL (by (conv => {lhs; whnf}); done) (by (conv => {lhs; whnf}); done) (by first | exact (by exact rfl) | exact cells_of_len hF.len | fail) (by exact rfl) (by exact rfl) (by exact Nat.le_of_ble_eq_true rfl) (by (conv => {lhs; simp only [sc, List.set_cons_zero, List.set_cons_succ]}); done) ?_ | refine b_box (by (conv => {lhs; whnf}); done) (by exact rfl) (by exact rfl) (by exact rfl) (by exact rfl) ?_ | refine b_alloc (by exact rfl) (by exact rfl) ?_ | refine b_build ?_ | refine b_bslZ (by exact rfl) (by exact rfl) (by decide) ?_ | fail))
    | (refine gateD ?_; (first | refine d_c0 (by exact rfl) ?_ | refine d_nil ?_ | fail))
    | (refine gateC ?_; (first | refine k_lt ?_ | refine k_ld (by (conv => {lhs; whnf}); done) (by exact rfl) ?_ | refine k_ldT (by (conv => {lhs; whnf}); done) ?_ | refine k_bin (by (conv => {lhs; whnf}); done) (by exact rfl) ?_ | refine k_mn ?_ | refine k_mnB (by exact rfl) ?_ | refine k_mnF ?_ | refine k_mnL (by exact rfl) ?_ | fail))
    | (refine gateT ?_; (first | refine b_thn ?_ | refine b_thr ?_ | refine b_the ?_ | fail))
    | (refine gateX ?_; (first | refine b_seq ?_ | refine b_region ?_ | (refine b_cond (by (conv => {lhs; whnf}); done) ?_; (first | refine c_T ?_ | refine c_F ?_ | refine c_P ?_ ?_ | refine c_B ?_ ?_ | fail)) | refine b_ret ?_ | refine b_skip ?_ | refine b_block ?_ | refine b_exit ?_ | refine b_draw (id := 23) [] [12] [(0, .ld true), (1, .lt), (2, .lt), (3, .lt), (4, .ld true), (5, .lt), (6, .lt), (7, .lt), (8, .lt), (9, .lt), (10, .lt), (11, .mn true), (12, .mn false)] (by kernel_rfl) ?_ | fail))
    | refine a_consF (by kernel_rfl) ?_
    | refine a_consI ?_
    | refine a_cons (by (conv => {lhs; whnf}); done) ?_
    | refine a_nil ?_
    | (refine gateK ?_; (first | refine c_call (square_b _ D l (FL.app hF _) off _ _ ld hI hG) (OldOk.app (by simp)) ?_ | refine c_call (square_n _ D l (FL.app hF _) off _ _ ld hI hG hne) (OldOk.app (by simp)) ?_ | fail))
    | refine fk_cons (by (conv => {lhs; whnf}); done) (by first | exact (by exact rfl) | exact cells_of_len hF.len | fail) (by exact rfl) (by exact rfl) (by (conv => {lhs; simp only [sc, List.set_cons_zero, List.set_cons_succ]}); done) ?_
    | refine fk_nil ?_
    | refine gk_consF (by kernel_rfl) ?_
    | refine gk_cons (by (conv => {lhs; whnf}); done) ?_
    | (refine gk_nilN (by (conv => {lhs; simp only [List.nil_append, List.cons_append]}); done) ?_; first | refine ⟨by exact rfl, ?_⟩ | skip)
    | refine gk_nil ?_
    | (intro N' hN'; simp only [List.nil_append, List.cons_append] at hN'; subst hN')
    | (refine gateB ?_; (first | refine b_bln ?_ | refine b_blr ?_ | refine b_ble ?_ | refine b_blo (by exact rfl) ?_ | fail))
    | (refine gateL ?_; (first | refine lp_n ?_ | refine lp_r ?_ | refine lp_e ?_ | fail))
    | (refine pr_k (by exact rfl) ?_; first | exact hK | (exfalso; first | omega | (simp_all; done) | (simp_all; omega)))
    | (refine gateQ ?_; refine b_retK (by simp) (by (conv => {lhs; whnf}); done) ?_)
    | (refine gateR ?_; (first | refine rk_tmp (by (conv => {lhs; whnf}); done) ?_ | refine rk_cellA (by (conv => {lhs; whnf}); done) (by exact rfl) (by exact rfl) ?_ | refine rk_cell1 (by (conv => {lhs; whnf}); done) (by exact rfl) (by exact rfl) ?_ | refine rk_nil ?_ | fail))
    | intro _)
  all_goals first
    | (exfalso; contradiction)
    | (exfalso; omega)
    | (refine rv_old rfl (by simp [mx, mxL, resOne, aOf, aOf1]) ?_; exact rfl)


end Go.Sx

set_option linter.unusedVariables false
set_option linter.unusedSimpArgs false
set_option maxRecDepth 20000
namespace Go.Sx
open Go.Proofs

theorem ints_t (H : List (List AV)) (Da : AV) (la : List Int) (hFa : IL H Da la) (hBa : la.length ≤ 2 ^ 48) (Db : AV) (lb : List Int) (hFb : IL H Db lb) (hBb : lb.length ≤ 2 ^ 48) (h : la = lb) : CSpec Try.prog 46 [Da, Db] H (.bool true) H := by
  have := ints_c H Da la hFa hBa Db lb hFb hBb
  rwa [decide_eq_true h] at this
theorem IL.fzn (H : List (List AV)) (l : List Int) (n : Nat) (h : l.length = n) : IL H (.sl none n (il l)) l := by subst h; exact IL.fz H none l
theorem FL.fzn (H : List (List AV)) (l : List Nat) (n : Nat) (h : l.length = n) : FL H (.sl none n (fl l)) l := by subst h; exact FL.fz H none l
theorem FL.bln {H : List (List AV)} {b g : Nat} {l : List Nat} (hj : H[b]? = some (fl l)) (hg : l.length = g) : FL H (.slm b g 0 g 1) l := by subst hg; exact FL.old hj rfl rfl
attribute [local irreducible] Ex exOps exD opX opE thenX blkX RetQ Spec CSpec Fr condK guardK guardD ckK valK pickK loadK faK callK argK gK fK rK RetV lpX prK
set_option maxHeartbeats 4000000 in
theorem awake16_c (H : List (List AV)) :
    CSpec Try.prog 37 [] H (.bool true) H := by
  refine .mk (fun args w => Try.call37 args w) (Spec.intro' (fn := Try.f37) Try.func37 rfl (by kernel_rfl) (by simp) false [5, 20, 27] (draw := drawX Try.prog ⟨false, _, [5, 20, 27]⟩) dOk ?_)
  simp only [argE, Nat.reduceAdd]
  repeat' (first
    | (refine gateE ?_; (first | refine b_c0 ?_ | refine b_nil ?_ | refine b_gT (by exact rfl) (by exact rfl) ?_ | refine b_gF (by exact rfl) (by exact rfl) (by exact rfl) ?_ | refine b_gU (by exact rfl) (by exact rfl) (by constructor <;> simp) (by exact rfl) (by exact rfl) ?_ | (refine b_g0 (by exact rfl) (by exact rfl) (by (conv => {lhs; whnf}); done) ?_; (first | refine g_TT ?_ | refine g_FF ?_ | refine g_TF ?_ | refine g_FT ?_ | refine g_PT ?_ ?_ | refine g_PF ?_ ?_ | refine g_BT ?_ ?_ | refine g_BF ?_ ?_ | fail)) | (refine b_g1 (by exact rfl) (by exact rfl) (by exact rfl) (by (conv => {lhs; whnf}); done) ?_; (first | refine g_TT ?_ | refine g_FF ?_ | refine g_TF ?_ | refine g_FT ?_ | refine g_PT ?_ ?_ | refine g_PF ?_ ?_ | refine g_BT ?_ ?_ | refine g_BF ?_ ?_ | fail)) | refine b_c1 (by exact rfl) ?_ | fail))
    | (refine gateO ?_; (first | refine b_move (by (conv => {lhs; whnf}); done) ?_ | (refine b_fa (by (conv => {lhs; whnf}); done) ?_; first | refine f_loc (by (conv => {lhs; whnf}); done) ?_ | refine f_ptr (by (conv => {lhs; whnf}); done) ?_) | (refine b_load (by (conv => {lhs; whnf}); done) ?_; (first | refine l_loc1 (by exact rfl) (by exact rfl) ?_ | refine l_locA (by exact rfl) (by exact rfl) ?_ | fail)) | (refine b_binB (by first | (conv => {lhs; whnf}; done) | exact (by exact rfl) | fail) (by first | (conv => {lhs; whnf}; done) | exact (by exact rfl) | fail) ?_; (first | refine v_bbT (by exact rfl) ?_ | refine v_k ?_ | fail)) | (refine b_bin (by (conv => {lhs; whnf}); done) (by (conv => {lhs; whnf}); done) (by (conv => {lhs; whnf}); done) ?_; (first | refine v_eT (by omega) ?_ | refine v_eF (by omega) ?_ | refine v_eP ?_ | refine v_w (by omega) ?_ | refine v_wu (by omega) ?_ | refine v_k ?_ | refine v_c (by omega) ?_ | fail)) | (refine b_pick (by (conv => {lhs; whnf}); done) ?_; (first | refine p_T (by (conv => {lhs; whnf}); done) ?_ | refine p_F (by (conv => {lhs; whnf}); done) ?_ | fail)) | refine b_assignF (by kernel_rfl) ?_ | refine b_assignI ?_ | refine b_assignN ?_ | refine b_assign (by (conv => {lhs; whnf}); done) ?_ | refine b_callB ?_ | refine b_ext (by (conv => {lhs; whnf}); done) (by exact rfl) ?_ | refine b_stL (by (conv => {lhs; whnf}); done) (by (conv => {lhs; whnf}); done) (by first | exact (by exact rfl) | exact cells_of_len hF.len | fail) (by exact rfl) (by exact rfl) (by exact Nat.le_of_ble_eq_true rfl) (by (conv => {lhs; simp only [sc, List.set_cons_zero, List.set_cons_succ]}); done) ?_ | refine b_alloc (by exact rfl) (by exact rfl) ?_ | refine b_bslZ (by exact rfl) (by exact rfl) (by decide) ?_ | fail))
    | (refine gateT ?_; (first | refine b_thn ?_ | refine b_thr ?_ | refine b_the ?_ | fail))
    | (refine gateX ?_; (first | refine b_seq ?_ | refine b_region ?_ | (refine b_cond (by (conv => {lhs; whnf}); done) ?_; (first | refine c_T ?_ | refine c_F ?_ | refine c_P ?_ ?_ | refine c_B ?_ ?_ | fail)) | refine b_ret ?_ | refine b_skip ?_ | refine b_block ?_ | refine b_exit ?_ | fail))
    | refine a_consF (by kernel_rfl) ?_
    | refine a_consI ?_
    | refine a_cons (by (conv => {lhs; whnf}); done) ?_
    | refine a_nil ?_
    | (refine gateK ?_; (first | refine c_call (dense_k _ _ 2 2 (by decide) (by decide) _ _ (FL.fz _ none [4607182418800017408, 4611686018427387904, 4616189618054758400, 4616189618054758400]) (by decide) _ (by (conv => {lhs; simp only [List.length_append, List.length_cons, List.length_nil, List.length_set, Nat.reduceAdd, Nat.zero_add]}); done) (by (conv => {lhs; simp only [List.append_assoc, List.cons_append, List.nil_append]}); done)) (OldOk.app (by simp)) ?_ | refine c_call (fac_n _ _ (denseL 2 2 [4607182418800017408, 4611686018427387904, 4616189618054758400, 4616189618054758400]) (FL.blk (by exact rfl) (by exact rfl) (by simp) (by simp)) 0 _ 2 (dense_MI 2 2 (by decide) (by decide) _) (dense_good 2 2 _) (by decide) (mel (denseL 2 2 [4607182418800017408, 4611686018427387904, 4616189618054758400, 4616189618054758400]) 0 ((max 2 1 : Nat) : Int)) (by exact rfl) (by kernel_rfl)) (OldOk.app (by simp)) ?_ | refine c_call (ints_t _ _ (pvL (mel (denseL 2 2 [4607182418800017408, 4611686018427387904, 4616189618054758400, 4616189618054758400]) 0 ((max 2 1 : Nat) : Int)) 2 2) (IL.fzn _ _ _ (by simp)) (by simp) _ [1, 1] (IL.fz _ none [1, 1]) (by decide) (by kernel_rfl)) (OldOk.app (by simp)) ?_ | refine c_call (all_t _ _ (cmA (stG (mel (denseL 2 2 [4607182418800017408, 4611686018427387904, 4616189618054758400, 4616189618054758400]) 0 ((max 2 1 : Nat) : Int)) 2 2) 2 2) (FL.fzn _ _ _ (by simp)) (by simp) _ [4616189618054758400, 4598175219545276416, 4616189618054758400, 4607182418800017408] (FL.fz _ none [4616189618054758400, 4598175219545276416, 4616189618054758400, 4607182418800017408]) (by kernel_rfl)) (OldOk.app (by simp)) ?_ | fail))
    | refine gk_consF (by kernel_rfl) ?_
    | refine gk_cons (by (conv => {lhs; whnf}); done) ?_
    | (refine gk_nilN (by (conv => {lhs; simp only [List.nil_append, List.cons_append]}); done) ?_; first | refine ⟨by exact rfl, ?_⟩ | skip)
    | refine gk_nil ?_
    | (intro N' hN'; simp only [List.nil_append, List.cons_append] at hN'; subst hN')
    | (refine gateQ ?_; refine b_retK (by simp) (by (conv => {lhs; whnf}); done) ?_)
    | (refine gateR ?_; (first | refine rk_tmp (by (conv => {lhs; whnf}); done) ?_ | refine rk_cellA (by (conv => {lhs; whnf}); done) (by exact rfl) (by exact rfl) ?_ | refine rk_cell1 (by (conv => {lhs; whnf}); done) (by exact rfl) (by exact rfl) ?_ | refine rk_nil ?_ | fail))
    | intro _)
  all_goals first | refine rv_old rfl (by simp [mx, mxL, aOf, aOf1, resOne]) ?_ | (trace_state; fail)
  all_goals exact rfl


end Go.Sx

set_option linter.unusedVariables false
set_option linter.unusedSimpArgs false
set_option maxRecDepth 20000
namespace Go.Sx
open Go.Proofs

theorem lu_of (H : List (List AV)) (g : Nat → Nat → Nat) (n : Nat) (hn : n ≤ 64) : CSpec Try.prog 27 [mt (.sl none (n * n) (fl (cmA g n n))) 0 (n : Int) (n : Int) ((max n 1 : Nat) : Int)] H (mM (.sl none (n * n) (fl (rmA g n n))) n n) H := by
  have h := of_c H (.sl none (n * n) (fl (cmA g n n))) (cmA g n n) (FL.fzn _ _ _ (by simp)) 0 n n ((max n 1 : Nat) : Int) (cm_MI hn) (cm_good g n) (by omega) (by omega)
  simp only [Int.toNat_natCast, of_cm] at h
  exact h
attribute [local irreducible] Ex exOps exD opX opE thenX blkX RetQ Spec CSpec Fr condK guardK guardD ckK valK pickK loadK faK callK argK gK fK rK RetV lpX prK
end Go.Sx

set_option linter.unusedVariables false
set_option linter.unusedSimpArgs false
namespace Go.Sx
/-! ### L and U, filled number by number; the rows' order -/
def fltOne : Nat := 4607182418800017408
def eyeG : Nat → Nat → Nat := fun i j => if i = j then fltOne else 0
def befo (i0 j0 i j : Nat) : Prop := i < i0 ∨ (i = i0 ∧ j < j0)
instance (i0 j0 i j : Nat) : Decidable (befo i0 j0 i j) := by unfold befo; infer_instance
def loG (a : Nat → Nat → Nat) : Nat → Nat → Nat := fun i j => if j < i then a i j else eyeG i j
def upG (a : Nat → Nat → Nat) : Nat → Nat → Nat := fun i j => if j < i then 0 else a i j
def upS (a : Nat → Nat → Nat) (i0 j0 : Nat) : Nat → Nat → Nat := fun i j => if befo i0 j0 i j then upG a i j else 0
/-- L as the document fills it: the 1 of a row comes last -/
def loR (a : Nat → Nat → Nat) (i0 j0 : Nat) : Nat → Nat → Nat := fun i j => if befo i0 j0 i j then (if j < i then a i j else if i = j ∧ i < i0 then fltOne else 0) else if i = j ∧ i < i0 then fltOne else 0
theorem upS_lo {a : Nat → Nat → Nat} {i0 j0 : Nat} (h : j0 < i0) (i j : Nat) : upS a i0 (j0 + 1) i j = upS a i0 j0 i j := by
  unfold upS upG befo; grind
theorem upS_up {a : Nat → Nat → Nat} {i0 j0 : Nat} (h : ¬ j0 < i0) (i j : Nat) : updG (upS a i0 j0) i0 j0 (a i0 j0) i j = upS a i0 (j0 + 1) i j := by
  unfold updG upS upG befo; grind
theorem upS_row {a : Nat → Nat → Nat} {i0 n : Nat} (i j : Nat) (hj : j < n) : upS a i0 n i j = upS a (i0 + 1) 0 i j := by
  unfold upS upG befo; grind
theorem upS_zero {a : Nat → Nat → Nat} (i j : Nat) : upS a 0 0 i j = 0 := by unfold upS befo; grind
theorem upS_all {a : Nat → Nat → Nat} {n : Nat} (i j : Nat) (hi : i < n) : upS a n 0 i j = upG a i j := by unfold upS befo; grind
theorem loR_zero {a : Nat → Nat → Nat} (i j : Nat) : loR a 0 0 i j = 0 := by unfold loR befo; grind
theorem loR_lo {a : Nat → Nat → Nat} {i0 j0 : Nat} (h : j0 < i0) (i j : Nat) : updG (loR a i0 j0) i0 j0 (a i0 j0) i j = loR a i0 (j0 + 1) i j := by
  unfold updG loR befo; grind
theorem loR_up {a : Nat → Nat → Nat} {i0 j0 : Nat} (h : ¬ j0 < i0) (i j : Nat) : loR a i0 (j0 + 1) i j = loR a i0 j0 i j := by
  unfold loR befo; grind
theorem loR_one {a : Nat → Nat → Nat} {i0 n : Nat} (i j : Nat) (hj : j < n) (hi : i0 < n) : updG (loR a i0 n) i0 i0 fltOne i j = loR a (i0 + 1) 0 i j := by
  unfold updG loR befo; grind
theorem loR_all {a : Nat → Nat → Nat} {n : Nat} (i j : Nat) (hi : i < n) (hj : j < n) : loR a n 0 i j = loG a i j := by unfold loR loG befo eyeG; grind
theorem rep_rm (r c : Nat) : List.replicate (r * c) 0 = rmA (fun _ _ => 0) r c := by
  apply List.ext_getElem
  · simp
  · intro i h1 h2
    simp [rmA, rml]
/-- which row is at each place, after so many steps -/
def ordS (p : List Int) : Nat → List Int
  | 0 => (List.range p.length).map fun k : Nat => (k : Int)
  | k + 1 => ((ordS p k).set k ((ordS p k).getD (p.getD k 0).toNat 0)).set (p.getD k 0).toNat ((ordS p k).getD k 0)
@[simp] theorem ordS_len (p : List Int) : ∀ k, (ordS p k).length = p.length
  | 0 => by simp [ordS]
  | k + 1 => by simp [ordS, ordS_len p k]
def ixL (k : Nat) : List Int := (List.range k).map fun k : Nat => (k : Int)
@[simp] theorem ixL_len (k : Nat) : (ixL k).length = k := by simp [ixL]
theorem ixL_il (k : Nat) : il (ixL k) ++ [.int .i64 (k : Int)] = il (ixL (k + 1)) := by simp [ixL, il, List.range_succ]
end Go.Sx

set_option linter.unusedVariables false
set_option linter.unusedSimpArgs false
set_option maxRecDepth 20000
namespace Go.Sx
open Go.Proofs
attribute [local irreducible] Ex exOps exD opX opE thenX blkX RetQ Spec CSpec Fr condK guardK guardD ckK valK pickK loadK faK callK argK gK fK rK RetV lpX prK
set_option maxHeartbeats 4000000 in
theorem rparts_c (H : List (List AV)) (A : AV) (a : Nat → Nat → Nat) (n : Nat) (hA : FL H A (rmA a n n)) (hn : n ≤ 1000) :
    CSpec Try.prog 60 [mM A n n] H (.tup [mM (.sl none (n * n) (fl (rmA (loG a) n n))) n n, mM (.sl none (n * n) (fl (rmA (upG a) n n))) n n]) H := by
  have hnn : n * n ≤ 1000000 := by (have := Nat.mul_le_mul hn hn; omega)
  have hS0 : H ++ [fl (List.replicate (n * n) 0), fl (List.replicate (n * n) 0)] = H ++ ([fl (rmA (loR a 0 0) n n), fl (rmA (upS a 0 0) n n)]) := by (rw [rep_rm, show rmA (fun _ _ => 0) n n = rmA (loR a 0 0) n n from rmA_congr (fun i j _ _ => (loR_zero i j).symm)]; rw [show rmA (upS a 0 0) n n = rmA (loR a 0 0) n n from rmA_congr (fun i j _ _ => (upS_zero i j).trans (loR_zero i j).symm)])
  have hSl : rmA (loR a n 0) n n = rmA (loG a) n n := rmA_congr (fun i j hi hj => loR_all i j hi hj)
  have hSu : rmA (upS a n 0) n n = rmA (upG a) n n := rmA_congr (fun i j hi _ => upS_all i j hi)
  have hup : ∀ k t, ¬ t < k → rmA (loR a k (t + 1)) n n = rmA (loR a k t) n n := fun k t h => rmA_congr (fun i j _ _ => loR_up h i j)
  have hlo : ∀ k t, t < k → rmA (upS a k (t + 1)) n n = rmA (upS a k t) n n := fun k t h => rmA_congr (fun i j _ _ => upS_lo h i j)
  have hrow : ∀ k, rmA (upS a k n) n n = rmA (upS a (k + 1) 0) n n := fun k => rmA_congr (fun i j _ hj => upS_row i j hj)
  refine .mk (fun args w => Try.call60 args w) (Spec.intro' (fn := Try.f60) Try.func60 rfl (by kernel_rfl) (by simp) false [] (draw := drawX Try.prog ⟨false, _, []⟩) dOk ?_)
  simp only [argE, Nat.reduceAdd]
  repeat' (first
    | (refine gateE ?_; (first | refine b_c0 ?_ | refine b_nil ?_ | fail))
    | (refine gateO ?_; (first | refine b_move (by (conv => {lhs; whnf}); done) ?_ | (refine b_fa (by (conv => {lhs; whnf}); done) ?_; first | refine f_loc (by (conv => {lhs; whnf}); done) ?_ | refine f_ptr (by (conv => {lhs; whnf}); done) ?_) | (refine b_load (by (conv => {lhs; whnf}); done) ?_; (first | refine l_loc1 (by exact rfl) (by exact rfl) ?_ | refine l_locA (by exact rfl) (by exact rfl) ?_ | fail)) | (refine b_bin (by (conv => {lhs; whnf}); done) (by (conv => {lhs; whnf}); done) (by (conv => {lhs; whnf}); done) ?_; (first | refine v_to ((k + 1 : Nat) : Int) (by omega) (by omega) ?_ | refine v_to ((t + 1 : Nat) : Int) (by omega) (by omega) ?_ | refine v_T (by omega) ?_ | refine v_F (by omega) ?_ | refine v_w (by omega) ?_ | refine v_wu (by omega) ?_ | refine v_k ?_ | refine v_c (by omega) ?_ | fail)) | refine b_assignF (by kernel_rfl) ?_ | refine b_assignI ?_ | refine b_assignN ?_ | refine b_assign (by (conv => {lhs; whnf}); done) ?_ | refine b_callB ?_ | refine b_stL (by (conv => {lhs; whnf}); done) (by (conv => {lhs; whnf}); done) (by first | exact (by exact rfl) | exact cells_of_len hF.len | fail) (by exact rfl) (by exact rfl) (by exact Nat.le_of_ble_eq_true rfl) (by (conv => {lhs; simp only [sc, List.set_cons_zero, List.set_cons_succ]}); done) ?_ | refine b_box (by (conv => {lhs; whnf}); done) (by exact rfl) (by exact rfl) (by exact rfl) (by exact rfl) ?_ | refine b_alloc (by exact rfl) (by exact rfl) ?_ | fail))
    | (refine gateD ?_; (first | refine d_c0 (by exact rfl) ?_ | refine d_nil ?_ | fail))
    | (refine gateC ?_; (first | refine k_lt ?_ | refine k_lb (by (conv => {lhs; whnf}); done) ?_ | refine k_ms ?_ | refine k_bx (by exact rfl) (by exact rfl) ?_ | refine k_ld (by (conv => {lhs; whnf}); done) (by exact rfl) ?_ | refine k_ldT (by (conv => {lhs; whnf}); done) ?_ | refine k_bin (by (conv => {lhs; whnf}); done) (by exact rfl) ?_ | refine k_mn ?_ | refine k_mnB (by exact rfl) ?_ | refine k_mnF ?_ | refine k_mnL (by exact rfl) ?_ | fail))
    | (refine gateT ?_; (first | refine b_thn ?_ | refine b_thr ?_ | refine b_the ?_ | fail))
    | (refine gateX ?_; (first | refine b_seq ?_ | refine b_region ?_ | (refine b_cond (by (conv => {lhs; whnf}); done) ?_; (first | refine c_T ?_ | refine c_F ?_ | refine c_P ?_ ?_ | refine c_B ?_ ?_ | fail)) | refine b_ret ?_ | refine b_skip ?_ | refine b_block ?_ | refine b_exit ?_ | refine b_draw (id := 1) [4, 5] [] [(0, .lt), (1, .ld true), (2, .lt), (3, .ld true), (5, .lt), (6, .ld true), (7, .lt), (8, .ld true), (10, .bx), (11, .bx), (4, .mn true), (9, .mn true), (12, .mn true), (13, .mn true)] (by kernel_rfl) ?_ | refine b_draw (id := 9) [] [7] [(0, .ld true), (1, .lt), (2, .lt), (3, .ld true), (4, .lt), (5, .lt), (6, .mn true), (7, .mn false)] (by kernel_rfl) ?_ | refine b_draw (id := 10) [] [7] [(0, .ld true), (1, .lt), (2, .lt), (3, .ld true), (4, .lt), (5, .lt), (6, .mn true), (7, .mn false)] (by kernel_rfl) ?_ | refine b_draw (id := 12) [2, 3] [] [(0, .ld true), (1, .ld true), (2, .mn true), (3, .mn true)] (by kernel_rfl) ?_ | (refine b_loop [1, 2, 3, 4, 5, 6, 7] n (fun t => ⟨[(1, .loc 1 0), (2, .loc 2 0), (3, .loc 3 0), (4, .loc 4 0), (5, .loc 5 0), (6, .val (.int .i64 ((k : Nat) : Int))), (7, .val (.int .i64 ((t : Nat) : Int)))], [(1, [.int .i64 (n : Int), .int .i64 (n : Int), A]), (2, [.int .i64 0, .int .i64 0, .slnil]), (3, [.int .i64 0, .int .i64 0, .slnil]), (4, [.int .i64 (n : Int), .int .i64 (n : Int), .slm (H.length + 0) (n * n) 0 (n * n) 1]), (5, [.int .i64 (n : Int), .int .i64 (n : Int), .slm (H.length + 1) (n * n) 0 (n * n) 1])], H ++ [fl (rmA (loR a k t) n n), fl (rmA (upS a k t) n n)]⟩) (by exact rfl) ?_ ?_ <;> (first | intro t ht K hK | intro K) <;> (try dsimp only at *)) | (refine b_loop [1, 2, 3, 4, 5, 6] n (fun k => ⟨[(1, .loc 1 0), (2, .loc 2 0), (3, .loc 3 0), (4, .loc 4 0), (5, .loc 5 0), (6, .val (.int .i64 ((k : Nat) : Int)))], [(1, [.int .i64 (n : Int), .int .i64 (n : Int), A]), (2, [.int .i64 0, .int .i64 0, .slnil]), (3, [.int .i64 0, .int .i64 0, .slnil]), (4, [.int .i64 (n : Int), .int .i64 (n : Int), .slm (H.length + 0) (n * n) 0 (n * n) 1]), (5, [.int .i64 (n : Int), .int .i64 (n : Int), .slm (H.length + 1) (n * n) 0 (n * n) 1])], H ++ [fl (rmA (loR a k 0) n n), fl (rmA (upS a k 0) n n)]⟩) (by rw [hS0]; exact rfl) ?_ ?_ <;> (first | intro k hk K hK | intro K) <;> (try dsimp only at *)) | fail))
    | refine a_consF (by kernel_rfl) ?_
    | refine a_consI ?_
    | refine a_cons (by (conv => {lhs; whnf}); done) ?_
    | refine a_nil ?_
    | (refine gateK ?_; (first | refine c_call (new_k _ _ n n hn hn _ (by (conv => {lhs; simp only [List.length_append, List.length_cons, List.length_nil, List.length_set, Nat.reduceAdd, Nat.zero_add]}); done) (by (conv => {lhs; simp only [List.append_assoc, List.cons_append, List.nil_append]}); done)) (OldOk.app (by simp)) ?_ | refine c_call (tat_m _ A a n n (FL.app hA _) hn hn k t (by omega) (by omega)) (OldOk.app (by simp)) ?_ | refine c_call (tset_m _ _ _ (loR a k t) (loR a k (t + 1)) n n (hg_new (by exact rfl) (by exact rfl)) hn hn k t (by omega) (by omega) (a k t) (fun i' j' _ _ => loR_lo (by omega) i' j') (hs_new (N' := [fl (rmA (loR a k (t + 1)) n n), fl (rmA (upS a k t) n n)]) (by exact rfl) (by exact rfl))) (OldOk.app (by simp)) ?_ | refine c_call (tset_m _ _ _ (upS a k t) (upS a k (t + 1)) n n (hg_new (by exact rfl) (by exact rfl)) hn hn k t (by omega) (by omega) (a k t) (fun i' j' _ _ => upS_up (by omega) i' j') (hs_new (N' := [fl (rmA (loR a k t) n n), fl (rmA (upS a k (t + 1)) n n)]) (by exact rfl) (by exact rfl))) (OldOk.app (by simp)) ?_ | refine c_call (tset_m _ _ _ (loR a k n) (loR a (k + 1) 0) n n (hg_new (by exact rfl) (by exact rfl)) hn hn k k (by omega) (by omega) fltOne (fun i' j' _ hj' => loR_one i' j' hj' (by omega)) (hs_new (N' := [fl (rmA (loR a (k + 1) 0) n n), fl (rmA (upS a k n) n n)]) (by exact rfl) (by exact rfl))) (OldOk.app (by simp)) ?_ | fail))
    | (refine gateB ?_; (first | refine b_bln ?_ | refine b_blr ?_ | refine b_ble ?_ | refine b_blo (by exact rfl) ?_ | fail))
    | (refine gateL ?_; (first | refine lp_n ?_ | refine lp_r ?_ | refine lp_e ?_ | fail))
    | (refine pr_k (by exact rfl) ?_; first | exact hK | (rw [← hrow] at hK; exact hK) | (rw [hup _ _ (by omega)] at hK; exact hK) | (rw [hlo _ _ (by omega)] at hK; exact hK) | (exfalso; first | omega | (simp_all; done) | (simp_all; omega)))
    | (refine gateQ ?_; refine b_retK (by simp) (by (conv => {lhs; whnf}); done) ?_)
    | (refine gateR ?_; (first | refine rk_tmp (by (conv => {lhs; whnf}); done) ?_ | refine rk_cellA (by (conv => {lhs; whnf}); done) (by exact rfl) (by exact rfl) ?_ | refine rk_cell1 (by (conv => {lhs; whnf}); done) (by exact rfl) (by exact rfl) ?_ | refine rk_nil ?_ | fail))
    | intro _)
  all_goals first
    | (exfalso; omega)
    | (rw [← hSl, ← hSu]; refine rv_fr rfl ?_; exact Fr.tup (Frs.cons (Fr.agg (Frs.cons (Fr.old (by simp [mx])) (Frs.cons (Fr.old (by simp [mx])) (Frs.cons (Fr.fz (by omega) (by simp) (hg_new rfl rfl) (by simp) (gc_all _ (by simp)) (Frs.old (by rw [mxL_fl]; exact Nat.zero_le _))) Frs.nil)))) (Frs.cons (Fr.agg (Frs.cons (Fr.old (by simp [mx])) (Frs.cons (Fr.old (by simp [mx])) (Frs.cons (Fr.fz (by omega) (by simp) (hg_new rfl rfl) (by simp) (gc_all _ (by simp)) (Frs.old (by rw [mxL_fl]; exact Nat.zero_le _))) Frs.nil)))) Frs.nil)))


end Go.Sx

set_option linter.unusedVariables false
set_option linter.unusedSimpArgs false
namespace Go.Sx
section
variable {P : Program} {cfg : Cfg} {e : List (Nat × EV)} {L : List (Nat × List AV)} {K : St → Prop}
variable {ty : TypeId} {pos : String} {aft : Array Edge} {gd : Option (Nat × Bool)} {dd : Nat}
/-! ### lists of whole numbers that are written -/
theorem b_stNI {t : TypeId} {x v : Operand} {n i gen o' len sz off : Nat} {m m' : List Int} {f : Int} [ti : TyI P t 1 false] {A N N' : List (List AV)} (hx : St.ev ⟨e, L, A ++ N⟩ x = .val (.eptr (.slm (n + i) gen o' len sz) off)) (hv : St.ev ⟨e, L, A ++ N⟩ v = .val (.int .i64 f)) (hA : A.length = n) (hc : N[i]? = some (il m))
    (hg : m.length = gen) (hle : o' + off < m.length) (hm : m.set (o' + off) f = m') (hN : N.set i (il m') = N') (h : K ⟨e, L, A ++ N'⟩) : opX P cfg ⟨none, .store t x v, ty, pos, aft, gd⟩ K ⟨e, L, A ++ N⟩ := by
  subst hm
  refine b_stH hx hv rfl rfl (hg_new hA hc) (by simpa using hg) (by simp; omega) (.inr (by simp [mxL, mx])) rfl ?_
  rw [sc_one, il_set, hs_new hA hN]; exact h
theorem IL.bln {H : List (List AV)} {b g : Nat} {l : List Int} (hj : H[b]? = some (il l)) (hg : l.length = g) : IL H (.slm b g 0 g 1) l :=
  IL.slm (m := l) hj (by omega) (by omega) (by subst hg; simp)
end
end Go.Sx

set_option linter.unusedVariables false
set_option linter.unusedSimpArgs false
set_option maxRecDepth 20000
namespace Go.Sx
open Go.Proofs
attribute [local irreducible] Ex exOps exD opX opE thenX blkX RetQ Spec CSpec Fr condK guardK guardD ckK valK pickK loadK faK callK argK gK fK rK RetV lpX prK
set_option maxHeartbeats 4000000 in
theorem rorder_g (H : List (List AV)) (P : AV) (p : List Int) (hP : IL H P p) (hB : p.length ≤ 2 ^ 30) (hp : pivP p) (h0 : 0 < p.length) :
    CSpec Try.prog 59 [P] H (.sl none p.length (il (ordS p p.length))) H := by
  have hgv : gV H.length 0 p.length = .slm (H.length + 0) p.length 0 p.length 1 := if_neg (by omega)
  have hgn : H ++ ([] ++ gN (il (ixL p.length))) = H ++ [il (ordS p 0)] := (by rw [gN_ne (by intro h; have := congrArg List.length h; rw [il_len, ixL_len, List.length_nil] at this; omega)]; rfl)
  have hpk : ∀ k, k < p.length → (k : Int) ≤ p.getD k 0 ∧ p.getD k 0 < p.length ∧ p.getD k 0 = (((p.getD k 0).toNat : Nat) : Int) ∧ (p.getD k 0).toNat < p.length := fun k hk => (by have := hp k hk; omega)
  refine .mk (fun args w => Try.call59 args w) (Spec.intro' (fn := Try.f59) Try.func59 rfl (by kernel_rfl) (by simp) false [16] (draw := drawX Try.prog ⟨false, _, [16]⟩) dOk ?_)
  simp only [argE, Nat.reduceAdd]
  repeat' (first
    | (refine gateE ?_; (first | refine b_c0 ?_ | refine b_nil ?_ | fail))
    | (refine gateO ?_; (first | refine b_move (by (conv => {lhs; whnf}); done) ?_ | (refine b_load (by (conv => {lhs; whnf}); done) ?_; (first | refine l_loc1 (by exact rfl) (by exact rfl) ?_ | refine l_locA (by exact rfl) (by exact rfl) ?_ | refine l_IL (IL.bln (hg_new (by exact rfl) rfl) (by simp)) (by rw [ordS_len]; exact (hpk k (by omega)).2.2.2) ?_ | refine l_IL (IL.bln (hg_new (by exact rfl) rfl) (by simp)) (by rw [ordS_len]; omega) ?_ | refine l_IL (IL.app hP _) (by omega) ?_ | fail)) | refine b_lenA (by (conv => {lhs; whnf}); done) (by exact hP.len) ?_ | refine b_iaN (by (conv => {lhs; whnf}); done) (by (conv => {lhs; whnf}); done) (by exact hP.len) (by omega) ?_ | refine b_iaN (by (conv => {lhs; whnf}); done) (by (conv => {lhs; whnf}); done) (by exact rfl) (by omega) ?_ | refine b_iaM (m := (p.getD k 0).toNat) (by (conv => {lhs; whnf}); done) (by (conv => {lhs; whnf}); done) (by exact rfl) (by have := hpk k (by omega); omega) (by have := hpk k (by omega); omega) ?_ | refine b_grow (i := 0) (N₀ := []) (by (conv => {lhs; whnf}); done) (by (conv => {lhs; whnf}); done) (by exact rfl) (by exact rfl) (by simp) (by omega) (by exact rfl) (by exact rfl) (l' := il (ixL (k + 1))) (by exact ixL_il k) ?_ | refine b_stNI (m' := (ordS p k).set k ((ordS p k).getD (p.getD k 0).toNat 0)) (by (conv => {lhs; whnf}); done) (by (conv => {lhs; whnf}); done) (by exact rfl) (by exact rfl) (by simp) (by simp; omega) (by rw [Nat.zero_add]) (by (conv => {lhs; simp only [List.set_cons_zero, List.set_cons_succ]}); done) ?_ | refine b_stNI (m' := ordS p (k + 1)) (by (conv => {lhs; whnf}); done) (by (conv => {lhs; whnf}); done) (by exact rfl) (by exact rfl) (by simp) (by rw [Nat.zero_add, List.length_set, ordS_len]; exact (hpk k (by omega)).2.2.2) (by rw [Nat.zero_add]; rfl) (by (conv => {lhs; simp only [List.set_cons_zero, List.set_cons_succ]}); done) ?_ | (refine b_bin (by (conv => {lhs; whnf}); done) (by (conv => {lhs; whnf}); done) (by (conv => {lhs; whnf}); done) ?_; (first | refine v_to ((k + 1 : Nat) : Int) (by omega) (by omega) ?_ | refine v_T (by omega) ?_ | refine v_F (by omega) ?_ | refine v_w (by omega) ?_ | refine v_wu (by omega) ?_ | refine v_k ?_ | refine v_c (by omega) ?_ | fail)) | refine b_assignF (by kernel_rfl) ?_ | refine b_assignI ?_ | refine b_assignN ?_ | refine b_assign (by (conv => {lhs; whnf}); done) ?_ | refine b_lenA (by (conv => {lhs; whnf}); done) (by first | rfl | assumption) ?_ | refine b_stL (by (conv => {lhs; whnf}); done) (by (conv => {lhs; whnf}); done) (by first | exact (by exact rfl) | exact cells_of_len hF.len | fail) (by exact rfl) (by exact rfl) (by exact Nat.le_of_ble_eq_true rfl) (by (conv => {lhs; simp only [sc, List.set_cons_zero, List.set_cons_succ]}); done) ?_ | refine b_bslZ (by exact rfl) (by exact rfl) (by decide) ?_ | fail))
    | (refine gateD ?_; (first | refine d_c0 (by exact rfl) ?_ | refine d_nil ?_ | fail))
    | (refine gateC ?_; (first | refine k_lt ?_ | refine k_lb (by (conv => {lhs; whnf}); done) ?_ | refine k_ms ?_ | refine k_bx (by exact rfl) (by exact rfl) ?_ | refine k_ld (by (conv => {lhs; whnf}); done) (by exact rfl) ?_ | refine k_ldT (by (conv => {lhs; whnf}); done) ?_ | refine k_bin (by (conv => {lhs; whnf}); done) (by exact rfl) ?_ | refine k_mn ?_ | refine k_mnB (by exact rfl) ?_ | refine k_mnF ?_ | refine k_mnL (by exact rfl) ?_ | fail))
    | (refine gateT ?_; (first | refine b_thn ?_ | refine b_thr ?_ | refine b_the ?_ | fail))
    | (refine gateX ?_; (first | refine b_seq ?_ | refine b_region ?_ | (refine b_cond (by (conv => {lhs; whnf}); done) ?_; (first | refine c_T ?_ | refine c_F ?_ | refine c_P ?_ ?_ | refine c_B ?_ ?_ | fail)) | refine b_ret ?_ | refine b_skip ?_ | refine b_block ?_ | refine b_exit ?_ | refine b_draw (id := 9) [] [] [(0, .lt), (1, .lt), (2, .lt), (3, .ld true), (4, .lt), (5, .lt), (6, .lt), (7, .lt), (8, .ld true), (9, .lt), (10, .ld true), (11, .lt), (12, .lt)] (by kernel_rfl) ?_ | (refine b_loop [0, 3, 5] p.length (fun k => ⟨[(0, .val P), (3, .val (.slm (H.length + 0) p.length 0 p.length 1)), (5, .val (.int .i64 ((k : Nat) : Int)))], [], H ++ [il (ordS p k)]⟩) (by rw [hgv, hgn]; exact rfl) ?_ ?_ <;> (first | intro k hk K hK | intro K) <;> (try dsimp only at *)) | (refine b_loop [0, 3, 4] p.length (fun k => ⟨[(0, .val P), (3, .val (gV H.length 0 k)), (4, .val (.int .i64 ((k : Nat) : Int)))], [], H ++ ([] ++ gN (il (ixL k)))⟩) (by exact rfl) ?_ ?_ <;> (first | intro k hk K hK | intro K) <;> (try dsimp only at *)) | fail))
    | refine gk_consF (by kernel_rfl) ?_
    | refine gk_cons (by (conv => {lhs; whnf}); done) ?_
    | (refine gk_nilN (by (conv => {lhs; simp only [List.nil_append, List.cons_append]}); done) ?_; first | refine ⟨by exact rfl, ?_⟩ | skip)
    | refine gk_nil ?_
    | (intro N' hN'; simp only [List.nil_append, List.cons_append] at hN'; subst hN')
    | (refine gateB ?_; (first | refine b_bln ?_ | refine b_blr ?_ | refine b_ble ?_ | refine b_blo (by exact rfl) ?_ | fail))
    | (refine gateL ?_; (first | refine lp_n ?_ | refine lp_r ?_ | refine lp_e ?_ | fail))
    | (refine pr_k (by exact rfl) ?_; first | exact hK | fail | (exfalso; have := hpk k (by omega); omega) | (exfalso; first | omega | (simp_all; done) | (simp_all; omega)))
    | (refine gateQ ?_; refine b_retK (by simp) (by (conv => {lhs; whnf}); done) ?_)
    | (refine gateR ?_; (first | refine rk_tmp (by (conv => {lhs; whnf}); done) ?_ | refine rk_cellA (by (conv => {lhs; whnf}); done) (by exact rfl) (by exact rfl) ?_ | refine rk_cell1 (by (conv => {lhs; whnf}); done) (by exact rfl) (by exact rfl) ?_ | refine rk_nil ?_ | fail))
    | intro _)
  all_goals first
    | (exfalso; have := hpk k (by omega); omega)
    | (refine rv_fr rfl ?_; exact Fr.fz (by omega) (by simp) (hg_new rfl rfl) (by simp) (gc_all _ (by simp)) (Frs.old (by rw [mxL_il]; exact Nat.zero_le _)))

set_option maxHeartbeats 4000000 in
theorem rorder_0 (H : List (List AV)) (P : AV) (p : List Int) (hP : IL H P p) (h0 : p.length = 0) :
    CSpec Try.prog 59 [P] H .slnil H := by
  refine .mk (fun args w => Try.call59 args w) (Spec.intro' (fn := Try.f59) Try.func59 rfl (by kernel_rfl) (by simp) false [16] (draw := drawX Try.prog ⟨false, _, [16]⟩) dOk ?_)
  simp only [argE, Nat.reduceAdd]
  repeat' (first
    | (refine gateE ?_; (first | refine b_c0 ?_ | refine b_nil ?_ | fail))
    | (refine gateO ?_; (first | refine b_move (by (conv => {lhs; whnf}); done) ?_ | (refine b_load (by (conv => {lhs; whnf}); done) ?_; (first | refine l_loc1 (by exact rfl) (by exact rfl) ?_ | refine l_locA (by exact rfl) (by exact rfl) ?_ | refine l_IL (IL.app hP _) (by omega) ?_ | fail)) | refine b_lenA (by (conv => {lhs; whnf}); done) (by exact hP.len) ?_ | refine b_iaN (by (conv => {lhs; whnf}); done) (by (conv => {lhs; whnf}); done) (by exact hP.len) (by omega) ?_ | (refine b_bin (by (conv => {lhs; whnf}); done) (by (conv => {lhs; whnf}); done) (by (conv => {lhs; whnf}); done) ?_; (first | refine v_T (by omega) ?_ | refine v_F (by omega) ?_ | refine v_w (by omega) ?_ | refine v_wu (by omega) ?_ | refine v_k ?_ | refine v_c (by omega) ?_ | fail)) | refine b_assignF (by kernel_rfl) ?_ | refine b_assignI ?_ | refine b_assignN ?_ | refine b_assign (by (conv => {lhs; whnf}); done) ?_ | refine b_lenA (by (conv => {lhs; whnf}); done) (by first | rfl | assumption) ?_ | refine b_stL (by (conv => {lhs; whnf}); done) (by (conv => {lhs; whnf}); done) (by first | exact (by exact rfl) | exact cells_of_len hF.len | fail) (by exact rfl) (by exact rfl) (by exact Nat.le_of_ble_eq_true rfl) (by (conv => {lhs; simp only [sc, List.set_cons_zero, List.set_cons_succ]}); done) ?_ | refine b_bslZ (by exact rfl) (by exact rfl) (by decide) ?_ | fail))
    | (refine gateD ?_; (first | refine d_c0 (by exact rfl) ?_ | refine d_nil ?_ | fail))
    | (refine gateC ?_; (first | refine k_lt ?_ | refine k_lb (by (conv => {lhs; whnf}); done) ?_ | refine k_ms ?_ | refine k_bx (by exact rfl) (by exact rfl) ?_ | refine k_ld (by (conv => {lhs; whnf}); done) (by exact rfl) ?_ | refine k_ldT (by (conv => {lhs; whnf}); done) ?_ | refine k_bin (by (conv => {lhs; whnf}); done) (by exact rfl) ?_ | refine k_mn ?_ | refine k_mnB (by exact rfl) ?_ | refine k_mnF ?_ | refine k_mnL (by exact rfl) ?_ | fail))
    | (refine gateT ?_; (first | refine b_thn ?_ | refine b_thr ?_ | refine b_the ?_ | fail))
    | (refine gateX ?_; (first | refine b_seq ?_ | refine b_region ?_ | (refine b_cond (by (conv => {lhs; whnf}); done) ?_; (first | refine c_T ?_ | refine c_F ?_ | refine c_P ?_ ?_ | refine c_B ?_ ?_ | fail)) | refine b_ret ?_ | refine b_skip ?_ | refine b_block ?_ | refine b_exit ?_ | refine b_draw (id := 9) [] [] [(0, .lt), (1, .lt), (2, .lt), (3, .ld true), (4, .lt), (5, .lt), (6, .lt), (7, .lt), (8, .ld true), (9, .lt), (10, .ld true), (11, .lt), (12, .lt)] (by kernel_rfl) ?_ | (refine b_loop [0, 3, 5] 0 (fun k => ⟨[(0, .val P), (3, .val .slnil), (5, .val (.int .i64 ((k : Nat) : Int)))], [], H ++ []⟩) (by exact rfl) ?_ ?_ <;> (first | intro k hk K hK | intro K) <;> (try dsimp only at *)) | (refine b_loop [0, 3, 4] 0 (fun k => ⟨[(0, .val P), (3, .val .slnil), (4, .val (.int .i64 ((k : Nat) : Int)))], [], H ++ []⟩) (by exact rfl) ?_ ?_ <;> (first | intro k hk K hK | intro K) <;> (try dsimp only at *)) | fail))
    | refine gk_consF (by kernel_rfl) ?_
    | refine gk_cons (by (conv => {lhs; whnf}); done) ?_
    | (refine gk_nilN (by (conv => {lhs; simp only [List.nil_append, List.cons_append]}); done) ?_; first | refine ⟨by exact rfl, ?_⟩ | skip)
    | refine gk_nil ?_
    | (intro N' hN'; simp only [List.nil_append, List.cons_append] at hN'; subst hN')
    | (refine gateB ?_; (first | refine b_bln ?_ | refine b_blr ?_ | refine b_ble ?_ | refine b_blo (by exact rfl) ?_ | fail))
    | (refine gateL ?_; (first | refine lp_n ?_ | refine lp_r ?_ | refine lp_e ?_ | fail))
    | (refine pr_k (by exact rfl) ?_; first | exact hK | fail | (exfalso; first | omega | (simp_all; done) | (simp_all; omega)))
    | (refine gateQ ?_; refine b_retK (by simp) (by (conv => {lhs; whnf}); done) ?_)
    | (refine gateR ?_; (first | refine rk_tmp (by (conv => {lhs; whnf}); done) ?_ | refine rk_cellA (by (conv => {lhs; whnf}); done) (by exact rfl) (by exact rfl) ?_ | refine rk_cell1 (by (conv => {lhs; whnf}); done) (by exact rfl) (by exact rfl) ?_ | refine rk_nil ?_ | fail))
    | intro _)
  all_goals first
    | (exfalso; omega)
    | (refine rv_old rfl (by simp [mx, mxL, resOne, aOf, aOf1]) ?_; exact rfl)


end Go.Sx

set_option linter.unusedVariables false
set_option linter.unusedSimpArgs false
set_option maxRecDepth 20000
namespace Go.Sx
open Go.Proofs

theorem v_bnF {dd : Nat} {K : St → Prop} {e : List (Nat × EV)} {L : List (Nat × List AV)} {H : List (List AV)} {x y : Bool} (h : x = y) (hk : K ⟨(dd, .val (.bool false)) :: e, L, H⟩) : valK dd K ⟨e, L, H⟩ (some (True, .bool (x != y))) := by
  subst h; simp only [bne_self_eq_false]; exact ⟨trivial, hk⟩
theorem v_bnT {dd : Nat} {K : St → Prop} {e : List (Nat × EV)} {L : List (Nat × List AV)} {H : List (List AV)} {x y : Bool} (h : x ≠ y) (hk : K ⟨(dd, .val (.bool true)) :: e, L, H⟩) : valK dd K ⟨e, L, H⟩ (some (True, .bool (x != y))) := by
  have : (x != y) = true := by simpa using h
  rw [this]; exact ⟨trivial, hk⟩
theorem piv_t (H : List (List AV)) (P : AV) (p : List Int) (hP : IL H P p) (hB : p.length ≤ 2 ^ 30) (h : pivP p) : CSpec Try.prog 40 [P] H (.bool true) H := by
  have := piv_c H P p hP hB
  rwa [decide_eq_true h] at this
attribute [local irreducible] Ex exOps exD opX opE thenX blkX RetQ Spec CSpec Fr condK guardK guardD ckK valK pickK loadK faK callK argK gK fK rK RetV lpX prK
theorem of_n (H : List (List AV)) (D : AV) (l : List Nat) (hF : FL H D l) (off ld : Int) (n : Nat) (hI : MI l.length off n n ld) (hG : GoodP l.length off n n ld) (hn : n ≤ 64) : CSpec Try.prog 27 [mt D off (n : Int) (n : Int) ld] H (mM (.sl none (n * n) (fl (rmA (mel l off ld) n n))) n n) H := by
  have h := of_c H D l hF off n n ld hI hG (by omega) (by omega)
  simpa only [Int.toNat_natCast] using h
end Go.Sx

set_option linter.unusedVariables false
set_option linter.unusedSimpArgs false
set_option maxRecDepth 20000
namespace Go.Sx
open Go.Proofs

theorem v_qx {dd : Nat} {K : St → Prop} {e : List (Nat × EV)} {L : List (Nat × List AV)} {H : List (List AV)} {x y q : Int} (hy : y ≠ 0) (hq : x.tdiv y = q) (hr : -9223372036854775808 ≤ q ∧ q ≤ 9223372036854775807) (hk : K ⟨(dd, .val (.int .i64 q)) :: e, L, H⟩) : valK dd K ⟨e, L, H⟩ (some (y ≠ 0, .int .i64 (IntKind.i64.wrap (x.tdiv y)))) := by
  subst hq
  exact ⟨hy, by rw [IntWalk.i64_in _ hr]; exact hk⟩
theorem v_mx {dd : Nat} {K : St → Prop} {e : List (Nat × EV)} {L : List (Nat × List AV)} {H : List (List AV)} {x y q : Int} {k : IntKind} (hy : y ≠ 0) (hq : x.tmod y = q) (hk : K ⟨(dd, .val (.int k q)) :: e, L, H⟩) : valK dd K ⟨e, L, H⟩ (some (y ≠ 0, .int k (x.tmod y))) := by
  subst hq; exact ⟨hy, hk⟩
theorem slc_lo {id g k len : Nat} (h : k + 1 < len) : slcV 1 (1 : Int).toNat (((len - k : Nat) : Int)).toNat (.slm id g k (len - k) 1) = some (.slm id g (k + 1) (len - (k + 1)) 1) := by
  simp only [slcV, if_true, Int.toNat_natCast]
  rw [if_pos (by simp; omega)]; simp; omega
theorem slc_hi {id g a len k : Nat} {q : Int} (h : a + k + 1 < len) (hq : q = ((len - a - (k + 1) : Nat) : Int)) : slcV 1 (0 : Int).toNat q.toNat (.slm id g a (len - a - k) 1) = some (.slm id g a (len - a - (k + 1)) 1) := by
  subst hq
  simp only [slcV, if_true, Int.toNat_natCast]
  rw [if_pos (by simp; omega)]; simp
def zAV (id g len k : Nat) : AV := if k < len then .slm id g k (len - k) 1 else .sl none 0 []
theorem zAV_len (id g len k : Nat) (h : k ≤ len) : slen (zAV id g len k) = some (len - k) := by
  unfold zAV; split
  · rfl
  · simp [slen]; omega
theorem zAV_cut (id g len k : Nat) (h : k < len) : slcV 1 1 (len - k) (zAV id g len k) = some (zAV id g len (k + 1)) := by
  unfold zAV
  rw [if_pos h]
  by_cases h2 : k + 1 < len
  · rw [if_pos h2]; simp only [slcV, if_true, Nat.one_mul]; rw [if_pos (by omega)]; congr 2
  · rw [if_neg h2]; simp only [slcV, if_true]; rw [if_neg (by omega)]
theorem zAV_read {H : List (List AV)} {id g k : Nat} {l : List Int} (hid : H[id]? = some (il l)) (hg : l.length = g) (h : k < l.length) : sread H (zAV id g l.length k) 0 1 = some [.int .i64 (l.getD k 0)] := by
  unfold zAV
  rw [if_pos h]
  simp only [sread, hid, Option.bind_some, il_len, hg, if_true, Nat.add_zero]
  exact gc_one (il_get h)
theorem l_zA {P : Program} {t : TypeId} {K : St → Prop} {dd : Nat} {e : List (Nat × EV)} {L : List (Nat × List AV)} {H : List (List AV)} [ti : TyI P t 1 false] {id g k len : Nat} {l : List Int} (hid : H[id]? = some (il l)) (hg : l.length = g) (hn : l.length = len) (h : k < len) (h0 : l.getD k 0 = 0) (hk : K ⟨(dd, .val (.int .i64 0)) :: e, L, H⟩) : loadK P t dd K ⟨e, L, H⟩ (.val (.eptr (zAV id g len k) 0)) := by
  subst hn
  refine l_ptr1 (zAV_read hid hg h) ?_
  rw [h0]; exact hk
attribute [local irreducible] Ex exOps exD opX opE thenX blkX RetQ Spec CSpec Fr condK guardK guardD ckK valK pickK loadK faK callK argK gK fK rK RetV lpX prK
set_option maxHeartbeats 4000000 in
theorem floor_c (H : List (List AV)) (k : Int) (hk : -1073741824 ≤ k ∧ k ≤ 1073741824) :
    CSpec Try.prog 122 [.int .i64 k] H (.tup [.int .i64 (k / 16), .int .i64 (k % 16)]) H := by
  have ht : k.tmod 16 = k - 16 * k.tdiv 16 := by have := Int.tmod_add_mul_tdiv k 16; omega
  have hb1 : k.tmod 16 < 16 := Int.tmod_lt_of_pos k (by omega)
  have hb2 : -16 < k.tmod 16 := Int.lt_tmod_of_pos k (by omega)
  have hm : (k.tmod 16 + 16).tmod 16 = k % 16 := by rw [Int.tmod_eq_emod_of_nonneg (by omega)]; omega
  have hq : (k - k % 16).tdiv 16 = k / 16 := by
    rw [show k - k % 16 = k / 16 * 16 by omega]; exact Int.mul_tdiv_cancel _ (by omega)
  refine .mk (fun args w => Try.call122 args w) (Spec.intro' (fn := Try.f122) Try.func122 rfl (by kernel_rfl) (by simp) false [] (draw := drawX Try.prog ⟨false, _, []⟩) dOk ?_)
  simp only [argE, Nat.reduceAdd]
  repeat' (first
    | (refine gateE ?_; (first | refine b_c0 ?_ | refine b_nil ?_ | fail))
    | (refine gateO ?_; (first | refine b_move (by (conv => {lhs; whnf}); done) ?_ | (refine b_bin (by (conv => {lhs; whnf}); done) (by (conv => {lhs; whnf}); done) (by (conv => {lhs; whnf}); done) ?_; (first | refine v_mx (by omega) hm ?_ | refine v_mx (by omega) (by exact rfl) ?_ | refine v_qx (by omega) hq (by omega) ?_ | refine v_w (by omega) ?_ | refine v_w (by omega) ?_ | refine v_wu (by omega) ?_ | refine v_mod (by omega) (by omega) ?_ | refine v_qc (by omega) (by omega) ?_ | refine v_k ?_ | refine v_c (by omega) ?_ | fail)) | refine b_assignF (by kernel_rfl) ?_ | refine b_assignI ?_ | refine b_assignN ?_ | refine b_assign (by (conv => {lhs; whnf}); done) ?_ | fail))
    | (refine gateT ?_; (first | refine b_thn ?_ | refine b_thr ?_ | refine b_the ?_ | fail))
    | (refine gateX ?_; (first | refine b_seq ?_ | refine b_region ?_ | (refine b_cond (by (conv => {lhs; whnf}); done) ?_; (first | refine c_T ?_ | refine c_F ?_ | refine c_P ?_ ?_ | refine c_B ?_ ?_ | fail)) | refine b_ret ?_ | refine b_skip ?_ | refine b_block ?_ | refine b_exit ?_ | fail))
    | (refine gateQ ?_; refine b_retK (by simp) (by (conv => {lhs; whnf}); done) ?_)
    | (refine gateR ?_; (first | refine rk_tmp (by (conv => {lhs; whnf}); done) ?_ | refine rk_cellA (by (conv => {lhs; whnf}); done) (by exact rfl) (by exact rfl) ?_ | refine rk_cell1 (by (conv => {lhs; whnf}); done) (by exact rfl) (by exact rfl) ?_ | refine rk_nil ?_ | fail))
    | intro _)
  all_goals first
    | (refine rv_old rfl (by simp [mx, mxL, resOne, aOf, aOf1]) ?_; exact rfl)

set_option maxHeartbeats 4000000 in
theorem power_c (H : List (List AV)) (n : Nat) (hk : n ≤ 16) :
    CSpec Try.prog 123 [.int .i64 (n : Int)] H (.int .i64 ((2 ^ n : Nat) : Int)) H := by
  have hp : ∀ j, j ≤ 16 → 2 ^ j ≤ 65536 := fun j hj => Nat.pow_le_pow_right (by omega) hj
  refine .mk (fun args w => Try.call123 args w) (Spec.intro' (fn := Try.f123) Try.func123 rfl (by kernel_rfl) (by simp) false [] (draw := drawX Try.prog ⟨false, _, []⟩) dOk ?_)
  simp only [argE, Nat.reduceAdd]
  repeat' (first
    | (refine gateE ?_; (first | refine b_c0 ?_ | refine b_nil ?_ | fail))
    | (refine gateO ?_; (first | refine b_move (by (conv => {lhs; whnf}); done) ?_ | (refine b_bin (by (conv => {lhs; whnf}); done) (by (conv => {lhs; whnf}); done) (by (conv => {lhs; whnf}); done) ?_; (first | refine v_to ((k + 1 : Nat) : Int) (by omega) (by omega) ?_ | refine v_to ((2 ^ (k + 1) : Nat) : Int) (by have h0 := Nat.two_pow_pos k; have h1 := hp k (by omega); omega) (by rw [Nat.pow_succ]; omega) ?_ | refine v_T (by omega) ?_ | refine v_F (by omega) ?_ | refine v_w (by omega) ?_ | refine v_wu (by omega) ?_ | refine v_k ?_ | refine v_c (by omega) ?_ | fail)) | refine b_assignF (by kernel_rfl) ?_ | refine b_assignI ?_ | refine b_assignN ?_ | refine b_assign (by (conv => {lhs; whnf}); done) ?_ | fail))
    | (refine gateT ?_; (first | refine b_thn ?_ | refine b_thr ?_ | refine b_the ?_ | fail))
    | (refine gateX ?_; (first | refine b_seq ?_ | refine b_region ?_ | (refine b_cond (by (conv => {lhs; whnf}); done) ?_; (first | refine c_T ?_ | refine c_F ?_ | refine c_P ?_ ?_ | refine c_B ?_ ?_ | fail)) | refine b_ret ?_ | refine b_skip ?_ | refine b_block ?_ | refine b_exit ?_ | (refine b_loop [0, 3, 4] n (fun k => ⟨[(0, .val (.int .i64 ((n : Nat) : Int))), (3, .val (.int .i64 ((2 ^ k : Nat) : Int))), (4, .val (.int .i64 ((k : Nat) : Int)))], [], H ++ []⟩) (by exact rfl) ?_ ?_ <;> (first | intro k hk K hK | intro K) <;> (try dsimp only at *)) | fail))
    | (refine gateB ?_; (first | refine b_bln ?_ | refine b_blr ?_ | refine b_ble ?_ | refine b_blo (by exact rfl) ?_ | fail))
    | (refine gateL ?_; (first | refine lp_n ?_ | refine lp_r ?_ | refine lp_e ?_ | fail))
    | (refine pr_k (by exact rfl) ?_; first | exact hK | fail | (exfalso; first | omega | (simp_all; done) | (simp_all; omega)))
    | (refine gateQ ?_; refine b_retK (by simp) (by (conv => {lhs; whnf}); done) ?_)
    | (refine gateR ?_; (first | refine rk_tmp (by (conv => {lhs; whnf}); done) ?_ | refine rk_cellA (by (conv => {lhs; whnf}); done) (by exact rfl) (by exact rfl) ?_ | refine rk_cell1 (by (conv => {lhs; whnf}); done) (by exact rfl) (by exact rfl) ?_ | refine rk_nil ?_ | fail))
    | intro _)
  all_goals first
    | (refine rv_old rfl (by simp [mx, mxL, resOne, aOf, aOf1]) ?_; exact rfl)

set_option maxHeartbeats 4000000 in
theorem made_n (H : List (List AV)) (neg : Bool) (id g : Nat) (l : List Int) (hid : H[id]? = some (il l)) (hg : l.length = g) (hl : l.length ≤ 2 ^ 30) (e : Int) (he : -1099511627776 ≤ e ∧ e ≤ 1099511627776) (a b : Nat) (hs : Strip l a b) :
    CSpec Try.prog 119 [.bool neg, .slm id g 0 l.length 1, .int .i64 e] H (.agg [.bool neg, .slm id g a (l.length - a - b) 1, .int .i64 (e + a)]) H := by
  have hidl : id < H.length := (List.getElem?_eq_some_iff.1 hid).1
  have hgo : ∀ k, k < l.length → (il l)[k]? = some (.int .i64 (l.getD k 0)) := fun k hk => il_get hk
  have hlt := hs.lt
  have h1 : ∀ k, k < a → l.getD (k + 0) 0 = 0 := fun k hk => hs.fst k hk
  have h2 : ¬ l.getD (a + 0) 0 = 0 := hs.fne
  have h3 : ∀ k, k < b → l.getD (a + (l.length - a - k - 1)) 0 = 0 := fun k hk => by have := hs.lst k hk; rwa [show l.length - 1 - k = a + (l.length - a - k - 1) by omega] at this
  have h4 : ¬ l.getD (a + (l.length - a - b - 1)) 0 = 0 := by have := hs.lne; rwa [show l.length - 1 - b = a + (l.length - a - b - 1) by omega] at this
  refine .mk (fun args w => Try.call119 args w) (Spec.intro' (fn := Try.f119) Try.func119 rfl (by kernel_rfl) (by simp) false [] (draw := drawX Try.prog ⟨false, _, []⟩) dOk ?_)
  simp only [argE, Nat.reduceAdd]
  repeat' (first
    | (refine gateE ?_; (first | refine b_c0 ?_ | refine b_nil ?_ | refine b_gT (by exact rfl) (by exact rfl) ?_ | refine b_gF (by exact rfl) (by exact rfl) (by exact rfl) ?_ | refine b_gU (by exact rfl) (by exact rfl) (by constructor <;> simp) (by exact rfl) (by exact rfl) ?_ | (refine b_g0 (by exact rfl) (by exact rfl) (by (conv => {lhs; whnf}); done) ?_; (first | refine g_TT ?_ | refine g_FF ?_ | refine g_TF ?_ | refine g_FT ?_ | refine g_PT ?_ ?_ | refine g_PF ?_ ?_ | refine g_BT ?_ ?_ | refine g_BF ?_ ?_ | fail)) | (refine b_g1 (by exact rfl) (by exact rfl) (by exact rfl) (by (conv => {lhs; whnf}); done) ?_; (first | refine g_TT ?_ | refine g_FF ?_ | refine g_TF ?_ | refine g_FT ?_ | refine g_PT ?_ ?_ | refine g_PF ?_ ?_ | refine g_BT ?_ ?_ | refine g_BF ?_ ?_ | fail)) | refine b_c1 (by exact rfl) ?_ | fail))
    | (refine gateO ?_; (first | refine b_move (by (conv => {lhs; whnf}); done) ?_ | (refine b_load (by (conv => {lhs; whnf}); done) ?_; (first | refine l_loc1 (by exact rfl) (by exact rfl) ?_ | refine l_locA (by exact rfl) (by exact rfl) ?_ | refine l_o1 hid (by simpa using hg) (by exact hgo (k + 0) (by omega)) ?_ | refine l_o1 hid (by simpa using hg) (by exact hgo (a + 0) (by omega)) ?_ | refine l_o1 hid (by simpa using hg) (by exact hgo (a + (l.length - a - k - 1)) (by omega)) ?_ | refine l_o1 hid (by simpa using hg) (by exact hgo (a + (l.length - a - b - 1)) (by omega)) ?_ | fail)) | refine b_lenA (by (conv => {lhs; whnf}); done) (by exact rfl) ?_ | refine b_ia0 (by (conv => {lhs; whnf}); done) (by exact rfl) (by omega) ?_ | refine b_iaM (m := l.length - a - k - 1) (by (conv => {lhs; whnf}); done) (by (conv => {lhs; whnf}); done) (by exact rfl) (by omega) (by omega) ?_ | refine b_iaM (m := l.length - a - b - 1) (by (conv => {lhs; whnf}); done) (by (conv => {lhs; whnf}); done) (by exact rfl) (by omega) (by omega) ?_ | refine b_slc (v' := .slm id g (k + 1) (l.length - (k + 1)) 1) (n := l.length - k) (l := 1) (q := ((l.length - k : Nat) : Int)) (by (conv => {lhs; whnf}); done) (by exact rfl) (by exact rfl) (by exact rfl) (by omega) (by exact slc_lo (by omega)) ?_ | refine b_slc (v' := .slm id g a (l.length - a - (k + 1)) 1) (n := l.length - a - k) (l := 0) (q := ((l.length - a - k - 1 : Nat) : Int)) (by (conv => {lhs; whnf}); done) (by exact rfl) (by exact rfl) (by exact rfl) (by omega) (by exact slc_hi (by omega) (by omega)) ?_ | (refine b_binB (by first | (conv => {lhs; whnf}; done) | exact (by exact rfl) | fail) (by first | (conv => {lhs; whnf}; done) | exact (by exact rfl) | fail) ?_; (first | refine v_eT (by first | exact h1 k (by omega) | exact h3 k (by omega) | omega | fail) ?_ | refine v_eF (by first | exact h2 | exact h4 | omega | fail) ?_ | refine v_to (e + ((k + 1 : Nat) : Int)) (by omega) (by omega) ?_ | refine v_to ((l.length - a - k - 1 : Nat) : Int) (by omega) (by omega) ?_ | refine v_to ((l.length - a - b - 1 : Nat) : Int) (by omega) (by omega) ?_ | refine v_bbT (by exact rfl) ?_ | refine v_k ?_ | fail)) | (refine b_bin (by (conv => {lhs; whnf}); done) (by (conv => {lhs; whnf}); done) (by (conv => {lhs; whnf}); done) ?_; (first | refine v_eT (by first | exact h1 k (by omega) | exact h3 k (by omega) | omega | fail) ?_ | refine v_eF (by first | exact h2 | exact h4 | omega | fail) ?_ | refine v_to (e + ((k + 1 : Nat) : Int)) (by omega) (by omega) ?_ | refine v_to ((l.length - a - k - 1 : Nat) : Int) (by omega) (by omega) ?_ | refine v_to ((l.length - a - b - 1 : Nat) : Int) (by omega) (by omega) ?_ | refine v_eT (by omega) ?_ | refine v_eF (by omega) ?_ | refine v_eP ?_ | refine v_T (by omega) ?_ | refine v_F (by omega) ?_ | refine v_w (by omega) ?_ | refine v_wu (by omega) ?_ | refine v_k ?_ | refine v_c (by omega) ?_ | fail)) | (refine b_pick (by (conv => {lhs; whnf}); done) ?_; (first | refine p_T (by (conv => {lhs; whnf}); done) ?_ | refine p_F (by (conv => {lhs; whnf}); done) ?_ | fail)) | refine b_assign (by (conv => {lhs; whnf}); done) ?_ | refine b_lenA (by (conv => {lhs; whnf}); done) (by first | rfl | assumption) ?_ | refine b_stL (by (conv => {lhs; whnf}); done) (by (conv => {lhs; whnf}); done) (by first | exact (by exact rfl) | exact cells_of_len hF.len | fail) (by exact rfl) (by exact rfl) (by exact Nat.le_of_ble_eq_true rfl) (by (conv => {lhs; simp only [sc, List.set_cons_zero, List.set_cons_succ]}); done) ?_ | refine b_alloc (by exact rfl) (by exact rfl) ?_ | refine b_build ?_ | fail))
    | (refine gateT ?_; (first | refine b_thn ?_ | refine b_thr ?_ | refine b_the ?_ | fail))
    | (refine gateX ?_; (first | refine b_seq ?_ | refine b_region ?_ | (refine b_cond (by (conv => {lhs; whnf}); done) ?_; (first | refine c_T ?_ | refine c_F ?_ | refine c_P ?_ ?_ | refine c_B ?_ ?_ | fail)) | refine b_ret ?_ | refine b_skip ?_ | refine b_block ?_ | refine b_exit ?_ | (refine b_loop [0, 1, 2, 6] a (fun k => ⟨[(0, .val (.bool neg)), (1, .val (.slm id g k (l.length - k) 1)), (2, .val (.int .i64 (e + (k : Int)))), (6, .loc 6 0)], [(6, [.bool false, .slnil, .int .i64 0])], H ++ []⟩) (by first | exact (by exact rfl) | (simp only [Int.natCast_zero, Int.add_zero]; exact rfl)) ?_ ?_ <;> (first | intro k hk K hK | intro K) <;> (try dsimp only at *)) | (refine b_loop [0, 1, 2, 6] b (fun k => ⟨[(0, .val (.bool neg)), (1, .val (.slm id g a (l.length - a - k) 1)), (2, .val (.int .i64 (e + (a : Int)))), (6, .loc 6 0)], [(6, [.bool false, .slnil, .int .i64 0])], H ++ []⟩) (by exact rfl) ?_ ?_ <;> (first | intro k hk K hK | intro K) <;> (try dsimp only at *)) | fail))
    | refine fk_cons (by (conv => {lhs; whnf}); done) (by first | exact (by exact rfl) | exact cells_of_len hF.len | fail) (by exact rfl) (by exact rfl) (by (conv => {lhs; simp only [sc, List.set_cons_zero, List.set_cons_succ]}); done) ?_
    | refine fk_nil ?_
    | (refine gateB ?_; (first | refine b_bln ?_ | refine b_blr ?_ | refine b_ble ?_ | refine b_blo (by exact rfl) ?_ | fail))
    | (refine gateL ?_; (first | refine lp_n ?_ | refine lp_r ?_ | refine lp_e ?_ | fail))
    | (refine pr_k (by exact rfl) ?_; first | exact hK | fail | (exfalso; first | omega | (simp_all; done) | (simp_all; omega)))
    | (refine gateQ ?_; refine b_retK (by simp) (by (conv => {lhs; whnf}); done) ?_)
    | (refine gateR ?_; (first | refine rk_tmp (by (conv => {lhs; whnf}); done) ?_ | refine rk_cellA (by (conv => {lhs; whnf}); done) (by exact rfl) (by exact rfl) ?_ | refine rk_cell1 (by (conv => {lhs; whnf}); done) (by exact rfl) (by exact rfl) ?_ | refine rk_nil ?_ | fail))
    | intro _)
  all_goals first
    | (exfalso; omega)
    | (refine rv_old rfl (by simp [mx, mxL, resOne, aOf, aOf1]; omega) ?_; exact rfl)

set_option maxHeartbeats 4000000 in
theorem made_z (H : List (List AV)) (neg : Bool) (id g : Nat) (l : List Int) (hid : H[id]? = some (il l)) (hg : l.length = g) (hl : l.length ≤ 2 ^ 30) (e : Int) (he : -1099511627776 ≤ e ∧ e ≤ 1099511627776) (hz : ∀ k, k < l.length → l.getD k 0 = 0) (hne : l.length ≠ 0) :
    CSpec Try.prog 119 [.bool neg, zAV id g l.length 0, .int .i64 e] H (.agg [.bool false, .slnil, .int .i64 0]) H := by
  have hidl : id < H.length := (List.getElem?_eq_some_iff.1 hid).1
  have hgo : ∀ k, k < l.length → (il l)[k]? = some (.int .i64 (l.getD k 0)) := fun k hk => il_get hk
  refine .mk (fun args w => Try.call119 args w) (Spec.intro' (fn := Try.f119) Try.func119 rfl (by kernel_rfl) (by simp) false [] (draw := drawX Try.prog ⟨false, _, []⟩) dOk ?_)
  simp only [argE, Nat.reduceAdd]
  repeat' (first
    | (refine gateE ?_; (first | refine b_c0 ?_ | refine b_nil ?_ | refine b_gT (by exact rfl) (by exact rfl) ?_ | refine b_gF (by exact rfl) (by exact rfl) (by exact rfl) ?_ | refine b_gU (by exact rfl) (by exact rfl) (by constructor <;> simp) (by exact rfl) (by exact rfl) ?_ | (refine b_g0 (by exact rfl) (by exact rfl) (by (conv => {lhs; whnf}); done) ?_; (first | refine g_TT ?_ | refine g_FF ?_ | refine g_TF ?_ | refine g_FT ?_ | refine g_PT ?_ ?_ | refine g_PF ?_ ?_ | refine g_BT ?_ ?_ | refine g_BF ?_ ?_ | fail)) | (refine b_g1 (by exact rfl) (by exact rfl) (by exact rfl) (by (conv => {lhs; whnf}); done) ?_; (first | refine g_TT ?_ | refine g_FF ?_ | refine g_TF ?_ | refine g_FT ?_ | refine g_PT ?_ ?_ | refine g_PF ?_ ?_ | refine g_BT ?_ ?_ | refine g_BF ?_ ?_ | fail)) | refine b_c1 (by exact rfl) ?_ | fail))
    | (refine gateO ?_; (first | refine b_move (by (conv => {lhs; whnf}); done) ?_ | (refine b_load (by (conv => {lhs; whnf}); done) ?_; (first | refine l_loc1 (by exact rfl) (by exact rfl) ?_ | refine l_locA (by exact rfl) (by exact rfl) ?_ | refine l_zA (by simpa using hid) (by exact hg) (by exact rfl) (by omega) (by exact hz k (by omega)) ?_ | fail)) | refine b_lenA (by (conv => {lhs; whnf}); done) (by exact zAV_len _ _ _ _ (by omega)) ?_ | refine b_ia0 (by (conv => {lhs; whnf}); done) (by exact zAV_len _ _ _ _ (by omega)) (by omega) ?_ | refine b_slc (v' := zAV id g l.length (k + 1)) (n := l.length - k) (l := 1) (q := ((l.length - k : Nat) : Int)) (by (conv => {lhs; whnf}); done) (by exact zAV_len _ _ _ _ (by omega)) (by exact rfl) (by exact rfl) (by omega) (by exact zAV_cut _ _ _ _ (by omega)) ?_ | (refine b_binB (by first | (conv => {lhs; whnf}; done) | exact (by exact rfl) | fail) (by first | (conv => {lhs; whnf}; done) | exact (by exact rfl) | fail) ?_; (first | refine v_eT (by first | omega | fail) ?_ | refine v_eF (by first | omega | fail) ?_ | refine v_to (e + ((k + 1 : Nat) : Int)) (by omega) (by omega) ?_ | refine v_bbT (by exact rfl) ?_ | refine v_k ?_ | fail)) | (refine b_bin (by (conv => {lhs; whnf}); done) (by (conv => {lhs; whnf}); done) (by (conv => {lhs; whnf}); done) ?_; (first | refine v_eT (by first | omega | fail) ?_ | refine v_eF (by first | omega | fail) ?_ | refine v_to (e + ((k + 1 : Nat) : Int)) (by omega) (by omega) ?_ | refine v_eT (by omega) ?_ | refine v_eF (by omega) ?_ | refine v_eP ?_ | refine v_T (by omega) ?_ | refine v_F (by omega) ?_ | refine v_w (by omega) ?_ | refine v_wu (by omega) ?_ | refine v_k ?_ | refine v_c (by omega) ?_ | fail)) | (refine b_pick (by (conv => {lhs; whnf}); done) ?_; (first | refine p_T (by (conv => {lhs; whnf}); done) ?_ | refine p_F (by (conv => {lhs; whnf}); done) ?_ | fail)) | refine b_assign (by (conv => {lhs; whnf}); done) ?_ | refine b_lenA (by (conv => {lhs; whnf}); done) (by first | rfl | assumption) ?_ | refine b_stL (by (conv => {lhs; whnf}); done) (by (conv => {lhs; whnf}); done) (by first | exact (by exact rfl) | exact cells_of_len hF.len | fail) (by exact rfl) (by exact rfl) (by exact Nat.le_of_ble_eq_true rfl) (by (conv => {lhs; simp only [sc, List.set_cons_zero, List.set_cons_succ]}); done) ?_ | refine b_alloc (by exact rfl) (by exact rfl) ?_ | refine b_build ?_ | fail))
    | (refine gateT ?_; (first | refine b_thn ?_ | refine b_thr ?_ | refine b_the ?_ | fail))
    | (refine gateX ?_; (first | refine b_seq ?_ | refine b_region ?_ | (refine b_cond (by (conv => {lhs; whnf}); done) ?_; (first | refine c_T ?_ | refine c_F ?_ | refine c_P ?_ ?_ | refine c_B ?_ ?_ | fail)) | refine b_ret ?_ | refine b_skip ?_ | refine b_block ?_ | refine b_exit ?_ | (refine b_loop [0, 1, 2, 6] l.length (fun k => ⟨[(0, .val (.bool neg)), (1, .val (zAV id g l.length k)), (2, .val (.int .i64 (e + (k : Int)))), (6, .loc 6 0)], [(6, [.bool false, .slnil, .int .i64 0])], H ++ []⟩) (by first | exact (by exact rfl) | (simp only [Int.natCast_zero, Int.add_zero]; exact rfl)) ?_ ?_ <;> (first | intro k hk K hK | intro K) <;> (try dsimp only at *)) | (refine b_loop [0, 1, 2, 6] 0 (fun k => ⟨[(0, .val (.bool neg)), (1, .val (zAV id g l.length l.length)), (2, .val (.int .i64 (e + (l.length : Int)))), (6, .loc 6 0)], [(6, [.bool false, .slnil, .int .i64 0])], H ++ []⟩) (by exact rfl) ?_ ?_ <;> (first | intro k hk K hK | intro K) <;> (try dsimp only at *)) | fail))
    | refine fk_cons (by (conv => {lhs; whnf}); done) (by first | exact (by exact rfl) | exact cells_of_len hF.len | fail) (by exact rfl) (by exact rfl) (by (conv => {lhs; simp only [sc, List.set_cons_zero, List.set_cons_succ]}); done) ?_
    | refine fk_nil ?_
    | (refine gateB ?_; (first | refine b_bln ?_ | refine b_blr ?_ | refine b_ble ?_ | refine b_blo (by exact rfl) ?_ | fail))
    | (refine gateL ?_; (first | refine lp_n ?_ | refine lp_r ?_ | refine lp_e ?_ | fail))
    | (refine pr_k (by exact rfl) ?_; first | exact hK | fail | (exfalso; first | omega | (simp_all; done) | (simp_all; omega)))
    | (refine gateQ ?_; refine b_retK (by simp) (by (conv => {lhs; whnf}); done) ?_)
    | (refine gateR ?_; (first | refine rk_tmp (by (conv => {lhs; whnf}); done) ?_ | refine rk_cellA (by (conv => {lhs; whnf}); done) (by exact rfl) (by exact rfl) ?_ | refine rk_cell1 (by (conv => {lhs; whnf}); done) (by exact rfl) (by exact rfl) ?_ | refine rk_nil ?_ | fail))
    | intro _)
  all_goals first
    | (exfalso; omega)
    | (refine rv_old rfl (by simp [mx, mxL, resOne, aOf, aOf1]) ?_; exact rfl)

set_option maxHeartbeats 4000000 in
theorem made_e (H : List (List AV)) (neg : Bool) (e : Int) (he : -1099511627776 ≤ e ∧ e ≤ 1099511627776) :
    CSpec Try.prog 119 [.bool neg, .slnil, .int .i64 e] H (.agg [.bool false, .slnil, .int .i64 0]) H := by
  refine .mk (fun args w => Try.call119 args w) (Spec.intro' (fn := Try.f119) Try.func119 rfl (by kernel_rfl) (by simp) false [] (draw := drawX Try.prog ⟨false, _, []⟩) dOk ?_)
  simp only [argE, Nat.reduceAdd]
  repeat' (first
    | (refine gateE ?_; (first | refine b_c0 ?_ | refine b_nil ?_ | refine b_gT (by exact rfl) (by exact rfl) ?_ | refine b_gF (by exact rfl) (by exact rfl) (by exact rfl) ?_ | refine b_gU (by exact rfl) (by exact rfl) (by constructor <;> simp) (by exact rfl) (by exact rfl) ?_ | (refine b_g0 (by exact rfl) (by exact rfl) (by (conv => {lhs; whnf}); done) ?_; (first | refine g_TT ?_ | refine g_FF ?_ | refine g_TF ?_ | refine g_FT ?_ | refine g_PT ?_ ?_ | refine g_PF ?_ ?_ | refine g_BT ?_ ?_ | refine g_BF ?_ ?_ | fail)) | (refine b_g1 (by exact rfl) (by exact rfl) (by exact rfl) (by (conv => {lhs; whnf}); done) ?_; (first | refine g_TT ?_ | refine g_FF ?_ | refine g_TF ?_ | refine g_FT ?_ | refine g_PT ?_ ?_ | refine g_PF ?_ ?_ | refine g_BT ?_ ?_ | refine g_BF ?_ ?_ | fail)) | refine b_c1 (by exact rfl) ?_ | fail))
    | (refine gateO ?_; (first | refine b_move (by (conv => {lhs; whnf}); done) ?_ | (refine b_load (by (conv => {lhs; whnf}); done) ?_; (first | refine l_loc1 (by exact rfl) (by exact rfl) ?_ | refine l_locA (by exact rfl) (by exact rfl) ?_ | fail)) | (refine b_binB (by first | (conv => {lhs; whnf}; done) | exact (by exact rfl) | fail) (by first | (conv => {lhs; whnf}; done) | exact (by exact rfl) | fail) ?_; (first | refine v_bbT (by exact rfl) ?_ | refine v_k ?_ | fail)) | (refine b_bin (by (conv => {lhs; whnf}); done) (by (conv => {lhs; whnf}); done) (by (conv => {lhs; whnf}); done) ?_; (first | refine v_eT (by omega) ?_ | refine v_eF (by omega) ?_ | refine v_eP ?_ | refine v_T (by omega) ?_ | refine v_F (by omega) ?_ | refine v_w (by omega) ?_ | refine v_wu (by omega) ?_ | refine v_k ?_ | refine v_c (by omega) ?_ | fail)) | (refine b_pick (by (conv => {lhs; whnf}); done) ?_; (first | refine p_T (by (conv => {lhs; whnf}); done) ?_ | refine p_F (by (conv => {lhs; whnf}); done) ?_ | fail)) | refine b_assign (by (conv => {lhs; whnf}); done) ?_ | refine b_lenA (by (conv => {lhs; whnf}); done) (by first | rfl | assumption) ?_ | refine b_stL (by (conv => {lhs; whnf}); done) (by (conv => {lhs; whnf}); done) (by first | exact (by exact rfl) | exact cells_of_len hF.len | fail) (by exact rfl) (by exact rfl) (by exact Nat.le_of_ble_eq_true rfl) (by (conv => {lhs; simp only [sc, List.set_cons_zero, List.set_cons_succ]}); done) ?_ | refine b_alloc (by exact rfl) (by exact rfl) ?_ | refine b_build ?_ | fail))
    | (refine gateT ?_; (first | refine b_thn ?_ | refine b_thr ?_ | refine b_the ?_ | fail))
    | (refine gateX ?_; (first | refine b_seq ?_ | refine b_region ?_ | (refine b_cond (by (conv => {lhs; whnf}); done) ?_; (first | refine c_T ?_ | refine c_F ?_ | refine c_P ?_ ?_ | refine c_B ?_ ?_ | fail)) | refine b_ret ?_ | refine b_skip ?_ | refine b_block ?_ | refine b_exit ?_ | (refine b_loop [0, 1, 2, 6] 0 (fun k => ⟨[(0, .val (.bool neg)), (1, .val .slnil), (2, .val (.int .i64 e)), (6, .loc 6 0)], [(6, [.bool false, .slnil, .int .i64 0])], H ++ []⟩) (by exact rfl) ?_ ?_ <;> (first | intro k hk K hK | intro K) <;> (try dsimp only at *)) | (refine b_loop [0, 1, 2, 6] 0 (fun k => ⟨[(0, .val (.bool neg)), (1, .val .slnil), (2, .val (.int .i64 e)), (6, .loc 6 0)], [(6, [.bool false, .slnil, .int .i64 0])], H ++ []⟩) (by exact rfl) ?_ ?_ <;> (first | intro k hk K hK | intro K) <;> (try dsimp only at *)) | fail))
    | refine fk_cons (by (conv => {lhs; whnf}); done) (by first | exact (by exact rfl) | exact cells_of_len hF.len | fail) (by exact rfl) (by exact rfl) (by (conv => {lhs; simp only [sc, List.set_cons_zero, List.set_cons_succ]}); done) ?_
    | refine fk_nil ?_
    | (refine gateB ?_; (first | refine b_bln ?_ | refine b_blr ?_ | refine b_ble ?_ | refine b_blo (by exact rfl) ?_ | fail))
    | (refine gateL ?_; (first | refine lp_n ?_ | refine lp_r ?_ | refine lp_e ?_ | fail))
    | (refine pr_k (by exact rfl) ?_; first | exact hK | fail | (exfalso; first | omega | (simp_all; done) | (simp_all; omega)))
    | (refine gateQ ?_; refine b_retK (by simp) (by (conv => {lhs; whnf}); done) ?_)
    | (refine gateR ?_; (first | refine rk_tmp (by (conv => {lhs; whnf}); done) ?_ | refine rk_cellA (by (conv => {lhs; whnf}); done) (by exact rfl) (by exact rfl) ?_ | refine rk_cell1 (by (conv => {lhs; whnf}); done) (by exact rfl) (by exact rfl) ?_ | refine rk_nil ?_ | fail))
    | intro _)
  all_goals first
    | (exfalso; omega)
    | (refine rv_old rfl (by simp [mx, mxL, resOne, aOf, aOf1]) ?_; exact rfl)


theorem made_c (H : List (List AV)) (neg : Bool) (n i : Nat) (l : List Int) (hid : l ≠ [] → H[n + i]? = some (il l)) (hl : l.length ≤ 2 ^ 30) (e : Int) (he : -1099511627776 ≤ e ∧ e ≤ 1099511627776) : CSpec Try.prog 119 [.bool neg, gV n i l.length, .int .i64 e] H (mR neg n i l e) H := by
  by_cases h0 : l = []
  · subst h0; exact made_e H neg e he
  · have hid' := hid h0
    have h1 : l.length ≠ 0 := fun h => h0 (List.eq_nil_of_length_eq_zero h)
    have hg : gV n i l.length = .slm (n + i) l.length 0 l.length 1 := by unfold gV; rw [if_neg h1]
    unfold mR mn me msl
    by_cases hz : lead l = l.length
    · simp only [if_pos hz]
      have : gV n i l.length = zAV (n + i) l.length l.length 0 := by rw [hg]; unfold zAV; rw [if_pos (by omega)]; rfl
      rw [this]
      exact made_z H neg (n + i) l.length l hid' rfl hl e he (fun k hk => lead_z l k (by omega)) h1
    · simp only [if_neg hz]
      rw [hg]
      exact made_n H neg (n + i) l.length l hid' rfl hl e he (lead l) (lead l.reverse) (lead_strip hz)

end Go.Sx

set_option linter.unusedVariables false
set_option linter.unusedSimpArgs false
set_option maxRecDepth 20000
namespace Go.Sx
open Go.Proofs

section
variable {P : Program} {cfg : Cfg} {e : List (Nat × EV)} {L : List (Nat × List AV)} {K : St → Prop} {dd : Nat} {ty : TypeId} {pos : String} {aft : Array Edge} {gd : Option (Nat × Bool)}
theorem b_mkiN {t : TypeId} {l c : Operand} [ei : EI P t 1 8 [.int .i64 0]] {A N N' : List (List AV)} {n₀ i : Nat} {k k' : IntKind} {n : Int} {m : Nat} (f : Nat → Int) (hl : St.ev ⟨e, L, A ++ N⟩ l = .val (.int k n)) (hc : St.ev ⟨e, L, A ++ N⟩ c = .val (.int k' n)) (hA : A.length = n₀) (hi : N.length = i) (hf : ∀ j, f j = 0) (hN : N ++ [il (mL f m)] = N')
    (hn : n = (m : Int)) (hm : m ≤ 2 ^ 32) (h : K ⟨(dd, .val (.slm (n₀ + i) m 0 m 1)) :: e, L, A ++ N'⟩) :
    opX P cfg ⟨some dd, .makeSlice t l c, ty, pos, aft, gd⟩ K ⟨e, L, A ++ N⟩ := by
  subst hN hi hA
  have hz : il (mL f m) = il (List.replicate m 0) := by
    congr 1; unfold mL; rw [List.eq_replicate_iff]
    refine ⟨by simp, fun b hb => ?_⟩
    simp only [List.mem_map] at hb; obtain ⟨j, _, rfl⟩ := hb; exact hf j
  rw [hz] at h
  refine b_mks (cs := il (List.replicate m 0)) hl hc hn hm (by simp [zrep, il]) rfl ?_
  simpa [List.append_assoc] using h
theorem l_nM {t : TypeId} {A N : List (List AV)} {n j g m k len : Nat} {f : Nat → Int} [i : TyI P t 1 false] (hA : A.length = n) (hj : N[j]? = some (il (mL f m))) (hg : g = m) (hk : k < m) (h : K ⟨(dd, .val (.int .i64 (f k))) :: e, L, A ++ N⟩) : loadK P t dd K ⟨e, L, A ++ N⟩ (.val (.eptr (.slm (n + j) g 0 len 1) k)) := by
  subst hg
  refine l_n1 hA hj (by simp) (c := .int .i64 (f k)) ?_ h
  rw [il_get (by simpa using hk), Nat.zero_add, mL_getD f hk]
theorem v_qxu {x y q : Int} {H : List (List AV)} (hy : y ≠ 0) (hq : x.tdiv y = q) (hr : 0 ≤ q ∧ q ≤ 18446744073709551615) (hk : K ⟨(dd, .val (.int .u64 q)) :: e, L, H⟩) : valK dd K ⟨e, L, H⟩ (some (y ≠ 0, .int .u64 (IntKind.u64.wrap (x.tdiv y)))) := by
  subst hq
  exact ⟨hy, by rw [wrapU hr]; exact hk⟩
end
theorem gN_il {l : List Int} (h : l ≠ []) : ([] ++ gN (il l))[0]? = some (il l) := by unfold gN; rw [if_neg (by simpa [il] using h)]; rfl
theorem tmod_w (q : Nat) : ((q : Nat) : Int).tmod 65536 = ((q % 65536 : Nat) : Int) := by rw [Int.tmod_eq_emod_of_nonneg (by omega)]; omega
theorem tdiv_w (q : Nat) : ((q : Nat) : Int).tdiv 65536 = ((q / 65536 : Nat) : Int) := by rw [Int.tdiv_eq_ediv_of_nonneg (by omega)]; omega
theorem w_rng {m n : Nat} (hm : m < 65536 ^ 4) : 0 ≤ ((m / n : Nat) : Int) ∧ ((m / n : Nat) : Int) ≤ 18446744073709551615 := by
  have h := Nat.div_le_self m n
  generalize m / n = q at *
  omega
theorem made_m (H : List (List AV)) (neg : Bool) (n i m : Nat) (l : List Int) (hm : m ≠ 0) (hlm : l.length = m) (hid : H[n + i]? = some (il l)) (hl : m ≤ 2 ^ 30) (e : Int) (he : -1099511627776 ≤ e ∧ e ≤ 1099511627776) : CSpec Try.prog 119 [.bool neg, .slm (n + i) m 0 m 1, .int .i64 e] H (mR neg n i l e) H := by
  subst hlm
  have hg : gV n i l.length = .slm (n + i) l.length 0 l.length 1 := by unfold gV; rw [if_neg hm]
  have := made_c H neg n i l (fun _ => hid) hl e he
  rwa [hg] at this
theorem made_gV (H : List (List AV)) (neg : Bool) (n i m : Nat) (l : List Int) (hlm : l.length = m) (hid : l ≠ [] → H[n + i]? = some (il l)) (hl : m ≤ 2 ^ 30) (e : Int) (he : -1099511627776 ≤ e ∧ e ≤ 1099511627776) : CSpec Try.prog 119 [.bool neg, gV n i m, .int .i64 e] H (mR neg n i l e) H := by
  subst hlm
  exact made_c H neg n i l hid hl e he
theorem shD_range {l : List Int} (h : Digs l) {r : Nat} (hr : r < 16) (k i : Nat) (hk : k ≤ l.length) : 0 ≤ shD l ((2 ^ r : Nat) : Int) k i ∧ shD l ((2 ^ r : Nat) : Int) k i < 65536 :=
  s_digs h hr k (i + 1) hk _ (by unfold mL; exact List.mem_map.2 ⟨i, List.mem_range.2 (by omega), rfl⟩)
def eF (a b : DV) : Int := if a.l.length = 0 then b.e else if b.l.length = 0 then a.e else min a.e b.e
def eT (a b : DV) : Int := if a.l.length = 0 then b.e + b.l.length else if b.l.length = 0 then a.e + a.l.length else max (a.e + a.l.length) (b.e + b.l.length)
theorem floor_q (H : List (List AV)) (k q : Int) (r : Nat) (hr : r < 16) (hk : k = 16 * q + r) (hq : -67108864 ≤ q ∧ q < 67108863) : CSpec Try.prog 122 [.int .i64 k] H (.tup [.int .i64 q, .int .i64 (r : Int)]) H := by
  have h := floor_c H k (by omega)
  rwa [show k / 16 = q by omega, show k % 16 = (r : Int) by omega] at h
attribute [local irreducible] Ex exOps exD opX opE thenX blkX RetQ Spec CSpec Fr condK guardK guardD ckK valK pickK loadK faK callK argK gK fK rK RetV lpX prK
set_option maxHeartbeats 4000000 in
theorem whole_c (H : List (List AV)) (neg : Bool) (m : Nat) (hm : m < 65536 ^ 4) :
    CSpec Try.prog 118 [.bool neg, .int .u64 (m : Int)] H (dV (mD neg (mL (wF m) (wN m)) 0)) H := by
  have hw4 := wN_le m
  refine .mk (fun args w => Try.call118 args w) (Spec.intro' (fn := Try.f118) Try.func118 rfl (by kernel_rfl) (by simp) false [12] (draw := drawX Try.prog ⟨false, _, [12]⟩) dOk ?_)
  simp only [argE, Nat.reduceAdd]
  repeat' (first
    | (refine gateE ?_; (first | refine b_c0 ?_ | refine b_nil ?_ | fail))
    | (refine gateO ?_; (first | refine b_move (by (conv => {lhs; whnf}); done) ?_ | refine b_grow (i := 0) (N₀ := []) (by (conv => {lhs; whnf}); done) (by (conv => {lhs; whnf}); done) (by exact rfl) (by exact rfl) (by simp) (by omega) (by exact rfl) (by exact rfl) (l' := il (mL (wF m) (k + 1))) (by rw [mL_succ, ← il_app]; exact rfl) ?_ | (refine b_bin (by (conv => {lhs; whnf}); done) (by (conv => {lhs; whnf}); done) (by (conv => {lhs; whnf}); done) ?_; (first | refine v_T (by have := wN_F (m := m) (k := k) (by omega); omega) ?_ | refine v_F (by have := wN_T hm; omega) ?_ | refine v_mx (by omega) (tmod_w _) ?_ | refine v_qxu (q := ((m / 65536 ^ (k + 1) : Nat) : Int)) (by omega) ((tdiv_w _).trans (by rw [w_step])) (w_rng hm) ?_ | refine v_T (by omega) ?_ | refine v_F (by omega) ?_ | refine v_w (by omega) ?_ | refine v_wu (by omega) ?_ | refine v_mod (by omega) (by omega) ?_ | refine v_qc (by omega) (by omega) ?_ | refine v_k ?_ | refine v_c (by omega) ?_ | fail)) | refine b_assignF (by kernel_rfl) ?_ | refine b_assignI ?_ | refine b_assignN ?_ | refine b_assign (by (conv => {lhs; whnf}); done) ?_ | refine b_callB ?_ | refine b_stL (by (conv => {lhs; whnf}); done) (by (conv => {lhs; whnf}); done) (by first | exact (by exact rfl) | exact cells_of_len hF.len | fail) (by exact rfl) (by exact rfl) (by exact Nat.le_of_ble_eq_true rfl) (by (conv => {lhs; simp only [sc, List.set_cons_zero, List.set_cons_succ]}); done) ?_ | refine b_alloc (by exact rfl) (by exact rfl) ?_ | (refine b_cnvI (by first | (conv => {lhs; whnf}; done) | exact (by exact rfl) | fail) ?_; (first | refine v_T (by have := wN_F (m := m) (k := k) (by omega); omega) ?_ | refine v_F (by have := wN_T hm; omega) ?_ | refine v_mx (by omega) (tmod_w _) ?_ | refine v_qxu (q := ((m / 65536 ^ (k + 1) : Nat) : Int)) (by omega) ((tdiv_w _).trans (by rw [w_step])) (w_rng hm) ?_ | refine v_T (by omega) ?_ | refine v_F (by omega) ?_ | refine v_w (by omega) ?_ | refine v_wu (by omega) ?_ | refine v_mod (by omega) (by omega) ?_ | refine v_qc (by omega) (by omega) ?_ | refine v_k ?_ | refine v_c (by omega) ?_ | fail)) | refine b_cnvF (by (conv => {lhs; whnf}); done) (by exact rfl) ?_ | refine b_cnvIF (by (conv => {lhs; whnf}); done) ?_ | refine b_bslZ (by exact rfl) (by exact rfl) (by decide) ?_ | fail))
    | (refine gateT ?_; (first | refine b_thn ?_ | refine b_thr ?_ | refine b_the ?_ | fail))
    | (refine gateX ?_; (first | refine b_seq ?_ | refine b_region ?_ | (refine b_cond (by (conv => {lhs; whnf}); done) ?_; (first | refine c_T ?_ | refine c_F ?_ | refine c_P ?_ ?_ | refine c_B ?_ ?_ | fail)) | refine b_ret ?_ | refine b_skip ?_ | refine b_block ?_ | refine b_exit ?_ | (refine b_loop [0, 1, 4, 5] (wN m) (fun k => ⟨[(0, .val (.bool neg)), (1, .val (.int .u64 ((m / 65536 ^ k : Nat) : Int))), (4, .loc 4 0), (5, .val (gV H.length 0 k))], [(4, [.bool false, .slnil, .int .i64 0])], H ++ ([] ++ gN (il (mL (wF m) k)))⟩) (by simp only [Nat.pow_zero, Nat.div_one]; exact rfl) ?_ ?_ <;> (first | intro k hk K hK | intro K) <;> (try dsimp only at *)) | fail))
    | refine a_consF (by kernel_rfl) ?_
    | refine a_consI ?_
    | refine a_cons (by (conv => {lhs; whnf}); done) ?_
    | refine a_nil ?_
    | (refine gateK ?_; (first | refine c_call (made_gV _ neg _ _ _ (mL (wF m) (wN m)) (mL_len _ _) (fun h => hg_new (by exact rfl) (gN_il h)) (by omega) 0 (by omega)) (OldOk.refl _ _) ?_ | fail))
    | refine gk_consF (by kernel_rfl) ?_
    | refine gk_cons (by (conv => {lhs; whnf}); done) ?_
    | (refine gk_nilN (by (conv => {lhs; simp only [List.nil_append, List.cons_append]}); done) ?_; first | refine ⟨by exact rfl, ?_⟩ | skip)
    | refine gk_nil ?_
    | (intro N' hN'; simp only [List.nil_append, List.cons_append] at hN'; subst hN')
    | (refine gateB ?_; (first | refine b_bln ?_ | refine b_blr ?_ | refine b_ble ?_ | refine b_blo (by exact rfl) ?_ | fail))
    | (refine gateL ?_; (first | refine lp_n ?_ | refine lp_r ?_ | refine lp_e ?_ | fail))
    | (refine pr_k (by exact rfl) ?_; first | exact hK | fail | (exfalso; first | omega | (simp_all; done) | (simp_all; omega)))
    | (refine gateQ ?_; refine b_retK (by simp) (by (conv => {lhs; whnf}); done) ?_)
    | (refine gateR ?_; (first | refine rk_tmp (by (conv => {lhs; whnf}); done) ?_ | refine rk_cellA (by (conv => {lhs; whnf}); done) (by exact rfl) (by exact rfl) ?_ | refine rk_cell1 (by (conv => {lhs; whnf}); done) (by exact rfl) (by exact rfl) ?_ | refine rk_nil ?_ | fail))
    | intro _)
  all_goals first
    | (exfalso; omega)
    | (refine rv_fr rfl ?_; exact mR_fr rfl (fun h => gN_il h))
    | (refine rv_fr rfl ?_; exact mR_fr rfl (fun h => rfl))
    | (refine rv_old rfl (by simp [mx, mxL, resOne, aOf, aOf1]) ?_; exact rfl)

set_option maxHeartbeats 4000000 in
theorem dat_c (H : List (List AV)) (d : DV) (hdg : Digs d.l) (hdl : d.l.length ≤ 2 ^ 20) (hde : -1099511627776 ≤ 16 * d.e ∧ 16 * d.e ≤ 1099511627776) (p : Int) (hp : -1099511627776 ≤ p ∧ p ≤ 1099511627776) :
    CSpec Try.prog 125 [dV d, .int .i64 p] H (.int .i64 (dg d p)) H := by
  refine .mk (fun args w => Try.call125 args w) (Spec.intro' (fn := Try.f125) Try.func125 rfl (by kernel_rfl) (by simp) false [] (draw := drawX Try.prog ⟨false, _, []⟩) dOk ?_)
  simp only [argE, Nat.reduceAdd]
  repeat' (first
    | (refine gateE ?_; (first | refine b_c0 ?_ | refine b_nil ?_ | refine b_gT (by exact rfl) (by exact rfl) ?_ | refine b_gF (by exact rfl) (by exact rfl) (by exact rfl) ?_ | refine b_gU (by exact rfl) (by exact rfl) (by constructor <;> simp) (by exact rfl) (by exact rfl) ?_ | (refine b_g0 (by exact rfl) (by exact rfl) (by (conv => {lhs; whnf}); done) ?_; (first | refine g_TT ?_ | refine g_FF ?_ | refine g_TF ?_ | refine g_FT ?_ | refine g_PT ?_ ?_ | refine g_PF ?_ ?_ | refine g_BT ?_ ?_ | refine g_BF ?_ ?_ | fail)) | (refine b_g1 (by exact rfl) (by exact rfl) (by exact rfl) (by (conv => {lhs; whnf}); done) ?_; (first | refine g_TT ?_ | refine g_FF ?_ | refine g_TF ?_ | refine g_FT ?_ | refine g_PT ?_ ?_ | refine g_PF ?_ ?_ | refine g_BT ?_ ?_ | refine g_BF ?_ ?_ | fail)) | refine b_c1 (by exact rfl) ?_ | fail))
    | (refine gateO ?_; (first | refine b_move (by (conv => {lhs; whnf}); done) ?_ | (refine b_fa (by (conv => {lhs; whnf}); done) ?_; first | refine f_loc (by (conv => {lhs; whnf}); done) ?_ | refine f_ptr (by (conv => {lhs; whnf}); done) ?_) | (refine b_load (by (conv => {lhs; whnf}); done) ?_; (first | refine l_loc1 (by exact rfl) (by exact rfl) ?_ | refine l_locA (by exact rfl) (by exact rfl) ?_ | refine l_IL (IL.fz _ _ _) (by omega) ?_ | fail)) | refine b_lenA (by (conv => {lhs; whnf}); done) (by exact rfl) ?_ | refine b_iaF (by (conv => {lhs; whnf}); done) (by (conv => {lhs; whnf}); done) (by exact rfl) (by omega) ?_ | (refine b_bin (by (conv => {lhs; whnf}); done) (by (conv => {lhs; whnf}); done) (by (conv => {lhs; whnf}); done) ?_; (first | refine v_T (by omega) ?_ | refine v_F (by omega) ?_ | refine v_w (by omega) ?_ | refine v_wu (by omega) ?_ | refine v_k ?_ | refine v_c (by omega) ?_ | fail)) | (refine b_pick (by (conv => {lhs; whnf}); done) ?_; (first | refine p_T (by (conv => {lhs; whnf}); done) ?_ | refine p_F (by (conv => {lhs; whnf}); done) ?_ | fail)) | refine b_assignF (by kernel_rfl) ?_ | refine b_assignI ?_ | refine b_assignN ?_ | refine b_assign (by (conv => {lhs; whnf}); done) ?_ | refine b_lenA (by (conv => {lhs; whnf}); done) (by first | rfl | assumption) ?_ | refine b_box (by (conv => {lhs; whnf}); done) (by exact rfl) (by exact rfl) (by exact rfl) (by exact rfl) ?_ | fail))
    | (refine gateT ?_; (first | refine b_thn ?_ | refine b_thr ?_ | refine b_the ?_ | fail))
    | (refine gateX ?_; (first | refine b_seq ?_ | refine b_region ?_ | (refine b_cond (by (conv => {lhs; whnf}); done) ?_; (first | refine c_T ?_ | refine c_F ?_ | refine c_P ?_ ?_ | refine c_B ?_ ?_ | fail)) | refine b_ret ?_ | refine b_skip ?_ | refine b_block ?_ | refine b_exit ?_ | fail))
    | (refine gateQ ?_; refine b_retK (by simp) (by (conv => {lhs; whnf}); done) ?_)
    | (refine gateR ?_; (first | refine rk_tmp (by (conv => {lhs; whnf}); done) ?_ | refine rk_cellA (by (conv => {lhs; whnf}); done) (by exact rfl) (by exact rfl) ?_ | refine rk_cell1 (by (conv => {lhs; whnf}); done) (by exact rfl) (by exact rfl) ?_ | refine rk_nil ?_ | fail))
    | intro _)
  all_goals first
    | (exfalso; omega)
    | (refine rv_old rfl (by simp [mx, mxL, resOne, aOf, aOf1]) ?_; simp only [resOne, List.nil_append, aOf1]; unfold dg; first | rw [if_pos (by omega)] | rw [if_neg (by omega)])

set_option maxHeartbeats 4000000 in
theorem dshift_c (H : List (List AV)) (d : DV) (hdg : Digs d.l) (hdl : d.l.length ≤ 2 ^ 20) (hde : -1099511627776 ≤ 16 * d.e ∧ 16 * d.e ≤ 1099511627776) (q : Int) (r : Nat) (hr : r < 16) (hq : -67108864 ≤ q ∧ q < 67108863) (k0 : Int) (hk0 : k0 = 16 * q + r) :
    CSpec Try.prog 55 [dV d, .int .i64 k0] H (dV (mD d.neg (mL (shD d.l ((2 ^ r : Nat) : Int) d.l.length) (d.l.length + 1)) (d.e + q))) H := by
  have hpw : ∀ H', CSpec Try.prog 123 [.int .i64 (r : Int)] H' (.int .i64 ((2 ^ r : Nat) : Int)) H' := fun H' => power_c H' r (by omega)
  have hsd : ∀ k i, k ≤ d.l.length → 0 ≤ shD d.l ((2 ^ r : Nat) : Int) k i ∧ shD d.l ((2 ^ r : Nat) : Int) k i < 65536 := fun k i hk => shD_range hdg hr k i hk
  have hpp : 1 ≤ ((2 ^ r : Nat) : Int) ∧ ((2 ^ r : Nat) : Int) ≤ 32768 := by
    have h1 := Nat.two_pow_pos r
    have h2 : 2 ^ r ≤ 2 ^ 15 := Nat.pow_le_pow_right (by omega) (by omega)
    have : (2 : Nat) ^ 15 = 32768 := rfl
    constructor
    · exact Int.ofNat_le.2 h1
    · exact Int.ofNat_le.2 (by omega : 2 ^ r ≤ 32768)
  generalize ((2 ^ r : Nat) : Int) = p at *
  have hvv : ∀ k, k < d.l.length → 0 ≤ d.l.getD k 0 * p ∧ d.l.getD k 0 * p ≤ 4294967296 := fun k hk => by
    have h1 := hdg (d.l.getD k 0) (by simp [List.getD, hk])
    refine ⟨Int.mul_nonneg h1.1 (by omega), ?_⟩
    have := Int.mul_le_mul (show d.l.getD k 0 ≤ 65536 by omega) hpp.2 (by omega) (by omega)
    omega
  refine .mk (fun args w => Try.call55 args w) (Spec.intro' (fn := Try.f55) Try.func55 rfl (by kernel_rfl) (by simp) false [] (draw := drawX Try.prog ⟨false, _, []⟩) dOk ?_)
  simp only [argE, Nat.reduceAdd]
  repeat' (first
    | (refine gateE ?_; (first | refine b_c0 ?_ | refine b_nil ?_ | fail))
    | (refine gateO ?_; (first | refine b_move (by (conv => {lhs; whnf}); done) ?_ | (refine b_fa (by (conv => {lhs; whnf}); done) ?_; first | refine f_loc (by (conv => {lhs; whnf}); done) ?_ | refine f_ptr (by (conv => {lhs; whnf}); done) ?_) | (refine b_load (by (conv => {lhs; whnf}); done) ?_; (first | refine l_loc1 (by exact rfl) (by exact rfl) ?_ | refine l_locA (by exact rfl) (by exact rfl) ?_ | refine l_IL (IL.fz _ _ _) (by omega) ?_ | refine l_nM (by exact rfl) (by exact rfl) (by exact rfl) (by omega) ?_ | fail)) | refine b_lenA (by (conv => {lhs; whnf}); done) (by exact rfl) ?_ | refine b_mkiN (m := d.l.length + 1) (shD d.l p 0) (by (conv => {lhs; whnf}); done) (by (conv => {lhs; whnf}); done) (by exact rfl) (by exact rfl) (by exact shD_zero _ _) (by exact rfl) (by omega) (by omega) ?_ | refine b_iaN (by (conv => {lhs; whnf}); done) (by (conv => {lhs; whnf}); done) (by exact rfl) (by omega) ?_ | refine b_stNI (m := mL (shD d.l p k) (d.l.length + 1)) (m' := (mL (shD d.l p k) (d.l.length + 1)).set k (shD d.l p k k + d.l.getD k 0 * p % 65536)) (by (conv => {lhs; whnf}); done) (by (conv => {lhs; whnf}); done) (by exact rfl) (by exact rfl) (mL_len _ _) (by rw [mL_len]; omega) (by rw [Nat.zero_add]) (by exact rfl) ?_ | refine b_stNI (m' := mL (shD d.l p (k + 1)) (d.l.length + 1)) (by (conv => {lhs; whnf}); done) (by (conv => {lhs; whnf}); done) (by exact rfl) (by exact rfl) (by rw [List.length_set, mL_len]) (by rw [List.length_set, mL_len]; omega) (by rw [Nat.zero_add]; exact shD_step _ _ _ _ _ rfl) (by exact rfl) ?_ | (refine b_bin (by (conv => {lhs; whnf}); done) (by (conv => {lhs; whnf}); done) (by (conv => {lhs; whnf}); done) ?_; (first | refine v_to (d.l.getD k 0 * p) (by have := hvv k (by omega); omega) (by exact rfl) ?_ | refine v_mod (by have := hvv k (by omega); omega) (by omega) ?_ | refine v_qc (by have := hvv k (by omega); omega) (by omega) ?_ | refine v_to (shD d.l p k k + d.l.getD k 0 * p % 65536) (by have := hsd k k (by omega); omega) (by exact rfl) ?_ | refine v_to ((k + 1 : Nat) : Int) (by omega) (by omega) ?_ | refine v_to ((d.l.length + 1 : Nat) : Int) (by omega) (by omega) ?_ | refine v_T (by omega) ?_ | refine v_F (by omega) ?_ | refine v_w (by omega) ?_ | refine v_wu (by omega) ?_ | refine v_mod (by omega) (by omega) ?_ | refine v_qc (by omega) (by omega) ?_ | refine v_k ?_ | refine v_c (by omega) ?_ | fail)) | refine b_assignF (by kernel_rfl) ?_ | refine b_assignI ?_ | refine b_assignN ?_ | refine b_assign (by (conv => {lhs; whnf}); done) ?_ | refine b_callB ?_ | refine b_lenA (by (conv => {lhs; whnf}); done) (by first | rfl | assumption) ?_ | refine b_ext (by (conv => {lhs; whnf}); done) (by exact rfl) ?_ | refine b_stL (by (conv => {lhs; whnf}); done) (by (conv => {lhs; whnf}); done) (by first | exact (by exact rfl) | exact cells_of_len hF.len | fail) (by exact rfl) (by exact rfl) (by exact Nat.le_of_ble_eq_true rfl) (by (conv => {lhs; simp only [sc, List.set_cons_zero, List.set_cons_succ]}); done) ?_ | refine b_box (by (conv => {lhs; whnf}); done) (by exact rfl) (by exact rfl) (by exact rfl) (by exact rfl) ?_ | refine b_alloc (by exact rfl) (by exact rfl) ?_ | fail))
    | (refine gateD ?_; (first | refine d_c0 (by exact rfl) ?_ | refine d_nil ?_ | fail))
    | (refine gateC ?_; (first | refine k_lt ?_ | refine k_fz ?_ | refine k_lb (by (conv => {lhs; whnf}); done) ?_ | refine k_ms ?_ | refine k_bx (by exact rfl) (by exact rfl) ?_ | refine k_ld (by (conv => {lhs; whnf}); done) (by exact rfl) ?_ | refine k_ldT (by (conv => {lhs; whnf}); done) ?_ | refine k_bin (by (conv => {lhs; whnf}); done) (by exact rfl) ?_ | refine k_mn ?_ | refine k_mnB (by exact rfl) ?_ | refine k_mnF ?_ | refine k_mnL (by exact rfl) ?_ | fail))
    | (refine gateT ?_; (first | refine b_thn ?_ | refine b_thr ?_ | refine b_the ?_ | fail))
    | (refine gateX ?_; (first | refine b_seq ?_ | refine b_region ?_ | (refine b_cond (by (conv => {lhs; whnf}); done) ?_; (first | refine c_T ?_ | refine c_F ?_ | refine c_P ?_ ?_ | refine c_B ?_ ?_ | fail)) | refine b_ret ?_ | refine b_skip ?_ | refine b_block ?_ | refine b_exit ?_ | refine b_draw (id := 6) [] [] [(0, .lt), (1, .ld true), (2, .lt), (3, .lt), (4, .ld true), (5, .lt), (6, .mn true), (7, .lt), (8, .lt)] (by kernel_rfl) ?_ | (refine b_loop [2, 4, 5, 6, 7, 8] d.l.length (fun k => ⟨[(2, .loc 2 0), (4, .loc 4 0), (5, .val (.int .i64 q)), (6, .val (.int .i64 (r : Int))), (7, .val (.slm (H.length + 0) (d.l.length + 1) 0 (d.l.length + 1) 1)), (8, .val (.int .i64 ((k : Nat) : Int)))], [(2, [.bool d.neg, .sl none d.l.length (il d.l), .int .i64 d.e]), (4, [.bool false, .slnil, .int .i64 0])], H ++ [il (mL (shD d.l p k) (d.l.length + 1))]⟩) (by exact rfl) ?_ ?_ <;> (first | intro k hk K hK | intro K) <;> (try dsimp only at *)) | fail))
    | refine a_cons (by (conv => {lhs; whnf}); done) ?_
    | refine a_nil ?_
    | (refine gateK ?_; (first | refine c_call (floor_q _ _ q r hr hk0 hq) (OldOk.refl _ _) ?_ | refine c_call (hpw _) (OldOk.refl _ _) ?_ | refine c_call (made_m _ d.neg H.length 0 _ (mL (shD d.l p d.l.length) (d.l.length + 1)) (by omega) (mL_len _ _) (by exact hg_new (by exact rfl) rfl) (by omega) (d.e + q) (by omega)) (OldOk.refl _ _) ?_ | fail))
    | (refine gateB ?_; (first | refine b_bln ?_ | refine b_blr ?_ | refine b_ble ?_ | refine b_blo (by exact rfl) ?_ | fail))
    | (refine gateL ?_; (first | refine lp_n ?_ | refine lp_r ?_ | refine lp_e ?_ | fail))
    | (refine pr_k (by exact rfl) ?_; first | exact hK | fail | (exfalso; first | omega | (simp_all; done) | (simp_all; omega)))
    | (refine gateQ ?_; refine b_retK (by simp) (by (conv => {lhs; whnf}); done) ?_)
    | (refine gateR ?_; (first | refine rk_tmp (by (conv => {lhs; whnf}); done) ?_ | refine rk_cellA (by (conv => {lhs; whnf}); done) (by exact rfl) (by exact rfl) ?_ | refine rk_cell1 (by (conv => {lhs; whnf}); done) (by exact rfl) (by exact rfl) ?_ | refine rk_nil ?_ | fail))
    | intro _)
  all_goals first
    | (exfalso; omega)
    | (refine rv_fr rfl ?_; exact mR_fr rfl (fun h => gN_il h))
    | (refine rv_fr rfl ?_; exact mR_fr rfl (fun h => rfl))
    | (refine rv_old rfl (by simp [mx, mxL, resOne, aOf, aOf1]) ?_; exact rfl)

set_option maxHeartbeats 4000000 in
theorem ends_c (H : List (List AV)) (a : DV) (hag : Digs a.l) (hal : a.l.length ≤ 2 ^ 20) (hae : -1099511627776 ≤ 16 * a.e ∧ 16 * a.e ≤ 1099511627776) (b : DV) (hbg : Digs b.l) (hbl : b.l.length ≤ 2 ^ 20) (hbe : -1099511627776 ≤ 16 * b.e ∧ 16 * b.e ≤ 1099511627776) :
    CSpec Try.prog 124 [dV a, dV b] H (.tup [.int .i64 (eF a b), .int .i64 (eT a b)]) H := by
  refine .mk (fun args w => Try.call124 args w) (Spec.intro' (fn := Try.f124) Try.func124 rfl (by kernel_rfl) (by simp) false [] (draw := drawX Try.prog ⟨false, _, []⟩) dOk ?_)
  simp only [argE, Nat.reduceAdd]
  repeat' (first
    | (refine gateE ?_; (first | refine b_c0 ?_ | refine b_nil ?_ | fail))
    | (refine gateO ?_; (first | (refine b_fa (by (conv => {lhs; whnf}); done) ?_; first | refine f_loc (by (conv => {lhs; whnf}); done) ?_ | refine f_ptr (by (conv => {lhs; whnf}); done) ?_) | (refine b_load (by (conv => {lhs; whnf}); done) ?_; (first | refine l_loc1 (by exact rfl) (by exact rfl) ?_ | refine l_locA (by exact rfl) (by exact rfl) ?_ | fail)) | refine b_lenA (by (conv => {lhs; whnf}); done) (by exact rfl) ?_ | (refine b_binB (by first | (conv => {lhs; whnf}; done) | exact (by exact rfl) | fail) (by first | (conv => {lhs; whnf}; done) | exact (by exact rfl) | fail) ?_; (first | refine v_bbT (by exact rfl) ?_ | refine v_k ?_ | fail)) | (refine b_bin (by (conv => {lhs; whnf}); done) (by (conv => {lhs; whnf}); done) (by (conv => {lhs; whnf}); done) ?_; (first | refine v_eT (by omega) ?_ | refine v_eF (by omega) ?_ | refine v_eP ?_ | refine v_w (by omega) ?_ | refine v_wu (by omega) ?_ | refine v_k ?_ | refine v_c (by omega) ?_ | fail)) | refine b_assignF (by kernel_rfl) ?_ | refine b_assignI ?_ | refine b_assignN ?_ | refine b_assign (by (conv => {lhs; whnf}); done) ?_ | refine b_lenA (by (conv => {lhs; whnf}); done) (by first | rfl | assumption) ?_ | refine b_box (by (conv => {lhs; whnf}); done) (by exact rfl) (by exact rfl) (by exact rfl) (by exact rfl) ?_ | refine b_max2 (by first | (conv => {lhs; whnf}; done) | exact (by exact rfl) | fail) (by first | (conv => {lhs; whnf}; done) | exact (by exact rfl) | fail) (by first | assumption | exact rfl) ?_ | refine b_min2 (by first | (conv => {lhs; whnf}; done) | exact (by exact rfl) | fail) (by first | (conv => {lhs; whnf}; done) | exact (by exact rfl) | fail) (by first | assumption | exact rfl) ?_ | fail))
    | (refine gateD ?_; (first | refine d_c0 (by exact rfl) ?_ | refine d_nil ?_ | fail))
    | (refine gateC ?_; (first | refine k_lt ?_ | refine k_fz ?_ | refine k_lb (by (conv => {lhs; whnf}); done) ?_ | refine k_ms ?_ | refine k_bx (by exact rfl) (by exact rfl) ?_ | refine k_ld (by (conv => {lhs; whnf}); done) (by exact rfl) ?_ | refine k_ldT (by (conv => {lhs; whnf}); done) ?_ | refine k_bin (by (conv => {lhs; whnf}); done) (by exact rfl) ?_ | refine k_mn ?_ | refine k_mnB (by exact rfl) ?_ | refine k_mnF ?_ | refine k_mnL (by exact rfl) ?_ | fail))
    | (refine gateT ?_; (first | refine b_thn ?_ | refine b_thr ?_ | refine b_the ?_ | fail))
    | (refine gateX ?_; (first | refine b_seq ?_ | refine b_region ?_ | (refine b_cond (by (conv => {lhs; whnf}); done) ?_; (first | refine c_T ?_ | refine c_F ?_ | refine c_P ?_ ?_ | refine c_B ?_ ?_ | fail)) | refine b_ret ?_ | refine b_skip ?_ | refine b_block ?_ | refine b_exit ?_ | refine b_draw (id := 2) [] [] [(0, .lt), (1, .ld true), (2, .lt), (3, .ld true), (4, .lt), (5, .ld true), (6, .lt), (7, .lt), (8, .lt), (9, .lt)] (by kernel_rfl) ?_ | refine b_draw (id := 4) [] [] [(0, .lt), (1, .ld true), (2, .lt), (3, .ld true), (4, .lt), (5, .ld true), (6, .lt), (7, .lt), (8, .lt), (9, .lt)] (by kernel_rfl) ?_ | refine b_draw (id := 5) [] [] [(0, .lt), (1, .ld true), (2, .lt), (3, .ld true), (4, .lt), (5, .lt), (6, .ld true), (7, .lt), (8, .ld true), (9, .lt), (10, .lt), (11, .lt), (12, .ld true), (13, .lt), (14, .ld true), (15, .lt), (16, .lt), (17, .lt), (18, .lt), (19, .lt)] (by kernel_rfl) ?_ | fail))
    | (refine gateQ ?_; refine b_retK (by simp) (by (conv => {lhs; whnf}); done) ?_)
    | (refine gateR ?_; (first | refine rk_tmp (by (conv => {lhs; whnf}); done) ?_ | refine rk_cellA (by (conv => {lhs; whnf}); done) (by exact rfl) (by exact rfl) ?_ | refine rk_cell1 (by (conv => {lhs; whnf}); done) (by exact rfl) (by exact rfl) ?_ | refine rk_nil ?_ | fail))
    | intro _)
  all_goals first
    | (exfalso; omega)
    | (refine rv_old rfl (by simp [mx, mxL, resOne, aOf, aOf1]) ?_; simp only [resOne, List.nil_append, List.cons_append, aOf, aOf1, eF, eT]; (repeat' split) <;> (first | rfl | (exfalso; omega)))


end Go.Sx
