/- A part of the proofs of this seat: LD. No condition is set. -/
import Derived.Test.YtfnjkmdcmokciaaLG
import Derived.Test.YtfnjkmdcmokciaaSxX
set_option linter.unusedVariables false
set_option linter.unusedSimpArgs false
namespace Go.Sx
/-! ### a square in a list of its own, column by column -/
theorem cm_good (g : Nat → Nat → Nat) (n : Nat) : GoodP (cmA g n n).length 0 (n : Int) (n : Int) ((max n 1 : Nat) : Int) := by
  have := dense_good n n []
  rw [denseL_len] at this
  simpa using this
theorem cm_MI {g : Nat → Nat → Nat} {n : Nat} (hn : n ≤ 64) : MI (cmA g n n).length 0 (n : Int) (n : Int) ((max n 1 : Nat) : Int) := by
  have := dense_MI n n hn hn []
  rw [denseL_len] at this
  simpa using this
theorem cmA_congr {g g' : Nat → Nat → Nat} {r c : Nat} (h : ∀ i j, i < r → j < c → g i j = g' i j) : cmA g r c = cmA g' r c := by
  unfold cmA
  refine rml_congr fun k hk => ?_
  have hr : 0 < r := by rcases Nat.eq_zero_or_pos r with h0 | h0; · subst h0; simp at hk
                        · exact h0
  exact h _ _ (Nat.mod_lt _ hr) (Nat.div_lt_of_lt_mul hk)
theorem pos_cm {n i j : Nat} (hn : 0 < n) : pos 0 ((max n 1 : Nat) : Int) i j = i + j * n := by
  unfold pos
  rw [show max n 1 = n by omega, ← Int.natCast_mul]
  omega
theorem cm_idx {n i j : Nat} (hi : i < n) (hj : j < n) : i + j * n < n * n := by
  have := ix_lt hj hi; omega
theorem cmA_get {g : Nat → Nat → Nat} {n i j : Nat} (hi : i < n) (hj : j < n) : (cmA g n n).getD (i + j * n) 0 = g i j := by
  rw [cmA, rml_get (cm_idx hi hj), Nat.add_comm, ix_mod hi, ix_div hi]
theorem mel_cm {g : Nat → Nat → Nat} {n i j : Nat} (hi : i < n) (hj : j < n) : mel (cmA g n n) 0 ((max n 1 : Nat) : Int) i j = g i j := by
  rw [mel_pos, pos_cm (by omega), cmA_get hi hj]
theorem setM_cm {g g' : Nat → Nat → Nat} {n : Nat} : setM (cmA g n n) 0 ((max n 1 : Nat) : Int) n n g' = cmA g' n n := by
  unfold setM cmA
  rw [rml_len]
  refine rml_congr fun p hp => ?_
  have hn : 0 < n := by rcases Nat.eq_zero_or_pos n with h0 | h0; · subst h0; simp at hp
                        · exact h0
  have e : p = pos 0 ((max n 1 : Nat) : Int) (p % n) (p / n) := by
    rw [pos_cm hn]; have := Nat.div_add_mod p n; rw [Nat.mul_comm] at this; omega
  have hl := loc_pos (cm_good g n) (i := p % n) (j := p / n) (Nat.mod_lt _ hn) (Nat.div_lt_of_lt_mul hp)
  rw [← e] at hl
  rw [hl]
theorem colK_congr {g g' : Nat → Nat → Nat} {k n : Nat} (h : ∀ i j, i < n → j < n → g i j = g' i j) (hk : k < n) : colK g k n = colK g' k n := by
  unfold colK
  exact rml_congr fun i hi => h _ _ (by omega) hk
theorem pvK_congr {g g' : Nat → Nat → Nat} {k n : Nat} (h : ∀ i j, i < n → j < n → g i j = g' i j) (hk : k < n) : pvK g k n = pvK g' k n := by
  unfold pvK; rw [colK_congr h hk]
theorem swK_congr {g g' : Nat → Nat → Nat} {k n : Nat} (h : ∀ i j, i < n → j < n → g i j = g' i j) (hk : k < n) (i j : Nat) (hi : i < n) (hj : j < n) : swK g k n i j = swK g' k n i j := by
  unfold swK
  rw [pvK_congr h hk]
  have := pvK_lt (g := g') hk
  unfold swpG
  split
  · exact h _ _ this hj
  · split
    · exact h _ _ hk hj
    · exact h _ _ hi hj
theorem divG_congr {g g' : Nat → Nat → Nat} {k n : Nat} (h : ∀ i j, i < n → j < n → g i j = g' i j) (hk : k < n) (i j : Nat) (hi : i < n) (hj : j < n) : divG g k i j = divG g' k i j := by
  unfold divG
  rw [h _ _ hi hk, h _ _ hk hk, h _ _ hi hj]
theorem ger_part {h : Nat → Nat → Nat} {k n : Nat} {off : Int} (ho : off = 0 + (((k + 1 : Nat) : Int) + ((k + 1 : Nat) : Int) * ((max n 1 : Nat) : Int))) (i j : Nat) (hi : i < n) (hj : j < n) (hk : k < n) :
    partG (mel (cmA h n n) 0 ((max n 1 : Nat) : Int)) (gerG (mel (cmA h n n) off ((max n 1 : Nat) : Int)) negOne (fun i => h (k + 1 + i) k) (fun j => h k (k + 1 + j))) (k + 1) (k + 1) (n - (k + 1)) (n - (k + 1)) i j = subG h k i j := by
  subst ho
  unfold partG subG
  by_cases hc : k < i ∧ k < j
  · rw [if_pos (by omega), if_pos hc]
    simp only [gerG]
    rw [mel_part, mel_cm (by omega) (by omega), show k + 1 + (i - (k + 1)) = i by omega, show k + 1 + (j - (k + 1)) = j by omega]
    exact ger_step
  · rw [if_neg (by omega), if_neg hc, mel_cm hi hj]
theorem part_good {m : Nat} {off ld : Int} {r c i0 j0 r' c' : Nat} (hG : GoodP m off r c ld) (hi : i0 + r' ≤ r) (hj : j0 + c' ≤ c) (hr : 0 < r') (hc : 0 < c') : GoodP m (off + ((i0 : Int) + (j0 : Int) * ld)) r' c' ld := by
  have h1 := good_place hG (i := ((i0 + (r' - 1) : Nat) : Int)) (j := ((j0 + (c' - 1) : Nat) : Int)) (by omega) (by omega) (by omega) (by omega)
  have h2 := good_place hG (i := (i0 : Int)) (j := (j0 : Int)) (by omega) (by omega) (by omega) (by omega)
  obtain ⟨g1, g2, g3, g4, g5, g6⟩ := hG
  have e : ((j0 + (c' - 1) : Nat) : Int) * ld = (j0 : Int) * ld + ((c' : Int) - 1) * ld := by
    rw [← Int.add_mul]; congr 1; omega
  have h3 : 0 ≤ ((c' : Int) - 1) * ld := Int.mul_nonneg (by omega) (by omega)
  refine ⟨by omega, by omega, by omega, g4, by omega, .inr (.inr ⟨by omega, by omega, by omega⟩)⟩
theorem part_MI {m : Nat} {off ld : Int} {r c i0 j0 r' c' : Nat} (hI : MI m off r c ld) (hG : GoodP m off r c ld) (hi : i0 + r' ≤ r) (hj : j0 + c' ≤ c) (hr : 0 < r') (hc : 0 < c') : MI m (off + ((i0 : Int) + (j0 : Int) * ld)) r' c' ld := by
  have h2 := good_place hG (i := (i0 : Int)) (j := (j0 : Int)) (by omega) (by omega) (by omega) (by omega)
  obtain ⟨h1, ho1, ho2, hr1, hr2, hc1, hc2, hl1, hl2⟩ := hI
  refine ⟨h1, by omega, by omega, by omega, by omega, by omega, by omega, hl1, hl2⟩
/-! ### what the loop leaves behind -/
def lcK (g : Nat → Nat → Nat) (k n : Nat) : List Nat := rml (fun i => g (k + 1 + i) k) (n - (k + 1))
def urK (g : Nat → Nat → Nat) (k t : Nat) : List Nat := rml (fun j => g k (k + 1 + j)) t
def gbK (g : Nat → Nat → Nat) (n : Nat) : Nat → List (List AV)
  | 0 => []
  | k + 1 => gbK g n k ++ [fl (lcK (divG (swK (stG g n k) k n) k) k n), fl (urK (divG (swK (stG g n k) k n) k) k (n - (k + 1)))]
theorem gbK_len (g : Nat → Nat → Nat) (n k : Nat) : (gbK g n k).length = 2 * k := by
  induction k with
  | zero => rfl
  | succ k ih => simp [gbK, ih]; omega
@[simp] theorem lcK_len (g : Nat → Nat → Nat) (k n : Nat) : (lcK g k n).length = n - (k + 1) := by simp [lcK]
@[simp] theorem urK_len (g : Nat → Nat → Nat) (k t : Nat) : (urK g k t).length = t := by simp [urK]
theorem il_ne {l : List Int} (h : l ≠ []) : il l ≠ [] := by simpa [il] using h
theorem gN_pv (g : Nat → Nat → Nat) (n k : Nat) : gN (il (pvL g n (k + 1))) = [il (pvL g n (k + 1))] := gN_ne (il_ne (by rw [pvL_succ]; simp))
theorem b_growG {P : Program} {cfg : Cfg} {e : List (Nat × EV)} {L : List (Nat × List AV)} {K : St → Prop} {ty : TypeId} {pos : String} {aft : Array Edge} {gd : Option (Nat × Bool)} {dd : Nat}
    {t tx : TypeId} {s x : Operand} {n i k by_ el' z' : Nat} {z v : AV} {l l' : List AV} {A N₀ G : List (List AV)} [ei : EI P t 1 by_ [z]] [si : SlI P tx el' z'] (hs : St.ev ⟨e, L, A ++ (N₀ ++ (gN l ++ G))⟩ s = .val (gV n i k)) (hx : St.ev ⟨e, L, A ++ (N₀ ++ (gN l ++ G))⟩ x = .val (.sl none 1 [v]))
    (hA : A.length = n) (hi : N₀.length = i) (hk : l.length = k) (hG : k = 0 → G = []) (hm : k + 1 ≤ 2 ^ 32) (hn : cfg.n0 = n) (hz : (decide (by_ ≤ 2 ^ 10) && decide (0 < by_)) = true) (hl : l ++ [v] = l')
    (h : K ⟨(dd, .val (gV n i (k + 1))) :: e, L, A ++ (N₀ ++ (gN l' ++ G))⟩) :
    opX P cfg ⟨some dd, .call { callee := .builtin .append, args := #[s, x], argTypes := #[t, tx] }, ty, pos, aft, gd⟩ K ⟨e, L, A ++ (N₀ ++ (gN l ++ G))⟩ := by
  cases l with
  | nil =>
    simp only [List.length_nil] at hk; subst hk
    have hG' := hG rfl
    subst hG'
    simp only [List.append_nil] at hs hx h ⊢
    exact b_grow hs hx hA hi rfl hm hn hz hl h
  | cons a l =>
    subst hl
    have e1 : gV n i (k + 1) = .slm (n + i) (k + 1) 0 (k + 1) 1 := by simp [gV]
    have e2 : gN (a :: l ++ [v]) = [a :: l ++ [v]] := by simp [gN]
    rw [e1, e2] at h
    have hk0 : k ≠ 0 := by simp at hk; omega
    have e3 : gV n i k = .slm (n + i) k 0 k 1 := by simp [gV, hk0]
    have e4 : gN (a :: l) = [a :: l] := by simp [gN]
    rw [e3] at hs
    rw [e4] at hs hx ⊢
    subst hi
    exact b_appN (cs := a :: l) (xs := [v]) (m := 1) hs hx hA (by simp) (src_fz rfl) hk rfl hm (.inl (by omega)) hz rfl (by simp) (by simp at hk ⊢; omega) rfl h
theorem gV_frG {n i k : Nat} {l : List AV} {A N₀ G : List (List AV)} (hA : A.length = n) (hi : N₀.length = i) (hk : l.length = k) (hm : mxL l ≤ n) : Fr n [] (A ++ (N₀ ++ (gN l ++ G))) (gV n i k) (.sl none k l) := by
  cases l with
  | nil =>
    simp only [List.length_nil] at hk; subst hk
    simp only [gV, if_true]; exact Fr.nil
  | cons a l =>
    have hk0 : k ≠ 0 := by simp at hk; omega
    simp only [gV, if_neg hk0]
    have : (A ++ (N₀ ++ (gN (a :: l) ++ G)))[n + i]? = some (a :: l) := by
      refine hg_new hA ?_
      subst hi; simp [gN]
    exact Fr.fz (by omega) (by simp) this hk (gc_all _ (by rw [hk]; omega)) (Frs.old hm)
theorem col_slice {h : Nat → Nat → Nat} {k n : Nat} (hk : k < n) : ((cmA h n n).drop (k * n + (k + 1))).take (n - (k + 1)) = lcK h k n := by
  have hkn : k * n + n ≤ n * n := by
    have := Nat.mul_le_mul_right n (show k + 1 ≤ n by omega)
    rw [Nat.add_mul] at this; omega
  apply List.ext_getElem
  · simp; omega
  · intro i h1 h2
    have hi : i < n - (k + 1) := by simpa using h2
    have e := cmA_get (g := h) (i := k + 1 + i) (j := k) (n := n) (by omega) hk
    have hl : k * n + (k + 1) + i < (cmA h n n).length := by simp; omega
    rw [show k + 1 + i + k * n = k * n + (k + 1) + i by omega, List.getD_eq_getElem?_getD, List.getElem?_eq_getElem hl] at e
    simp only [List.getElem_take, List.getElem_drop, lcK, rml, List.getElem_map, List.getElem_range]
    simpa using e
theorem slc_slm {id g q lo hi m : Nat} (hm : 0 < m) (h : hi = lo + m) : slcV 1 lo hi (.slm id g 0 q 1) = some (.slm id g lo m 1) := by
  subst h
  simp only [slcV, if_true]
  rw [if_pos (by omega)]
  simp
end Go.Sx
