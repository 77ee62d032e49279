/- A part of the proofs of this seat: LM. No condition is set. -/
import Derived.Test.YtfnjkmdcmokciaaFO
set_option linter.unusedVariables false
set_option linter.unusedSimpArgs false
namespace Go.Sx
/-! ### a matrix within a list, written -/
def loc (off ld : Int) (r c p : Nat) : Option (Nat × Nat) :=
  if 0 ≤ (p : Int) - off ∧ (((p : Int) - off) % ld).toNat < r ∧ (((p : Int) - off) / ld).toNat < c then some ((((p : Int) - off) % ld).toNat, (((p : Int) - off) / ld).toNat) else none
def setM (L : List Nat) (off ld : Int) (r c : Nat) (g : Nat → Nat → Nat) : List Nat :=
  rml (fun p => match loc off ld r c p with | some q => g q.1 q.2 | none => L.getD p 0) L.length
@[simp] theorem setM_len (L : List Nat) (off ld : Int) (r c : Nat) (g : Nat → Nat → Nat) : (setM L off ld r c g).length = L.length := by simp [setM]
def pos (off ld : Int) (i j : Nat) : Nat := (off + (i : Int) + (j : Int) * ld).toNat
theorem mel_pos (l : List Nat) (off ld : Int) (i j : Nat) : mel l off ld i j = l.getD (pos off ld i j) 0 := rfl
section
variable {off ld : Int} {r c n : Nat}
theorem loc_pos (hG : GoodP n off r c ld) {i j : Nat} (hi : i < r) (hj : j < c) : loc off ld r c (pos off ld i j) = some (i, j) := by
  obtain ⟨h1, h2, h3, h4, h5, h6⟩ := id hG
  have hp := good_place hG (i := (i : Int)) (j := (j : Int)) (by omega) (by omega) (by omega) (by omega)
  have e : ((pos off ld i j : Nat) : Int) - off = (i : Int) + (j : Int) * ld := by unfold pos; omega
  have e1 : ((i : Int) + (j : Int) * ld) % ld = i := by
    rw [Int.add_mul_emod_self_right]; exact Int.emod_eq_of_lt (by omega) (by omega)
  have e2 : ((i : Int) + (j : Int) * ld) / ld = j := by
    rw [Int.add_mul_ediv_right _ _ (by omega), Int.ediv_eq_zero_of_lt (by omega) (by omega)]; omega
  unfold loc
  rw [e, e1, e2]
  rw [if_pos ⟨by omega, by omega, by omega⟩]
  simp
theorem loc_some {p i j : Nat} (h4 : 1 ≤ ld) (h3 : 0 ≤ off) (h : loc off ld r c p = some (i, j)) : i < r ∧ j < c ∧ p = pos off ld i j := by
  unfold loc at h
  split at h
  · rename_i hc
    simp only [Option.some.injEq, Prod.mk.injEq] at h
    obtain ⟨rfl, rfl⟩ := h
    refine ⟨hc.2.1, hc.2.2, ?_⟩
    unfold pos
    have e1 := Int.emod_nonneg ((p : Int) - off) (show ld ≠ 0 by omega)
    have e2 := Int.ediv_nonneg hc.1 (show 0 ≤ ld by omega)
    have e3 := Int.mul_ediv_add_emod ((p : Int) - off) ld
    rw [Int.toNat_of_nonneg e1, Int.toNat_of_nonneg e2]
    have : ((p : Int) - off) / ld * ld = ld * (((p : Int) - off) / ld) := Int.mul_comm _ _
    omega
  · cases h
theorem pos_lt (hG : GoodP n off r c ld) {i j : Nat} (hi : i < r) (hj : j < c) : pos off ld i j < n := by
  have hp := good_place hG (i := (i : Int)) (j := (j : Int)) (by omega) (by omega) (by omega) (by omega)
  unfold pos; omega
theorem pos_inj (hG : GoodP n off r c ld) {i j i' j' : Nat} (hi : i < r) (hj : j < c) (hi' : i' < r) (hj' : j' < c) (h : pos off ld i j = pos off ld i' j') : i = i' ∧ j = j' := by
  have h1 := loc_pos hG hi hj
  have h2 := loc_pos hG hi' hj'
  rw [h, h2] at h1
  simp only [Option.some.injEq, Prod.mk.injEq] at h1
  exact ⟨h1.1.symm, h1.2.symm⟩
theorem mel_setM {L : List Nat} {g : Nat → Nat → Nat} (hG : GoodP L.length off r c ld) {i j : Nat} (hi : i < r) (hj : j < c) : mel (setM L off ld r c g) off ld i j = g i j := by
  rw [mel_pos, setM, rml_get (pos_lt hG hi hj), loc_pos hG hi hj]
theorem setM_setM {L : List Nat} {g g' : Nat → Nat → Nat} : setM (setM L off ld r c g) off ld r c g' = setM L off ld r c g' := by
  unfold setM
  rw [rml_len]
  refine rml_congr fun p hp => ?_
  cases h : loc off ld r c p with
  | some q => rfl
  | none => simp only; rw [rml_get hp, h]
theorem setM_congr {L : List Nat} {g g' : Nat → Nat → Nat} (h4 : 1 ≤ ld) (h3 : 0 ≤ off) (h : ∀ i j, i < r → j < c → g i j = g' i j) : setM L off ld r c g = setM L off ld r c g' := by
  unfold setM
  refine rml_congr fun p hp => ?_
  cases hl : loc off ld r c p with
  | some q =>
    obtain ⟨i, j⟩ := q
    obtain ⟨hi, hj, _⟩ := loc_some h4 h3 hl
    exact h i j hi hj
  | none => rfl
theorem setM_mel {L : List Nat} (h4 : 1 ≤ ld) (h3 : 0 ≤ off) : setM L off ld r c (mel L off ld) = L := by
  apply List.ext_getElem
  · simp
  · intro p h1 h2
    have hp : p < L.length := h2
    have := rml_get (g := fun p => match loc off ld r c p with | some q => mel L off ld q.1 q.2 | none => L.getD p 0) hp
    have e : (setM L off ld r c (mel L off ld)).getD p 0 = L.getD p 0 := by
      rw [setM, this]
      cases hl : loc off ld r c p with
      | some q =>
        obtain ⟨i, j⟩ := q
        obtain ⟨_, _, rfl⟩ := loc_some h4 h3 hl
        rfl
      | none => rfl
    simpa [List.getD, h1, h2] using e
def updG (g : Nat → Nat → Nat) (i j x : Nat) : Nat → Nat → Nat := fun i' j' => if i' = i ∧ j' = j then x else g i' j'
theorem set_setM {L : List Nat} {g : Nat → Nat → Nat} (hG : GoodP L.length off r c ld) {i j x : Nat} (hi : i < r) (hj : j < c) : (setM L off ld r c g).set (pos off ld i j) x = setM L off ld r c (updG g i j x) := by
  obtain ⟨h1, h2, h3, h4, h5, h6⟩ := id hG
  apply List.ext_getElem
  · simp
  · intro p k1 k2
    simp only [setM_len] at k2
    rw [List.getElem_set]
    have val : ∀ g : Nat → Nat → Nat, (setM L off ld r c g)[p]'(by simpa using k2) = match loc off ld r c p with | some q => g q.1 q.2 | none => L.getD p 0 := by
      intro g; simp [setM, rml]
    rw [val, val]
    split
    · rename_i hp
      subst hp
      rw [loc_pos hG hi hj]
      simp [updG]
    · rename_i hp
      cases hl : loc off ld r c p with
      | some q =>
        obtain ⟨i', j'⟩ := q
        obtain ⟨hi', hj', rfl⟩ := loc_some h4 h3 hl
        simp only [updG]
        rw [if_neg]
        rintro ⟨rfl, rfl⟩; exact hp rfl
      | none => rfl
/-- a part, written -/
def partG (g g' : Nat → Nat → Nat) (i0 j0 r' c' : Nat) : Nat → Nat → Nat := fun i j => if i0 ≤ i ∧ i < i0 + r' ∧ j0 ≤ j ∧ j < j0 + c' then g' (i - i0) (j - j0) else g i j
theorem pos_part {off ld : Int} {i0 j0 i j : Nat} : pos (off + ((i0 : Int) + (j0 : Int) * ld)) ld i j = pos off ld (i0 + i) (j0 + j) := by
  unfold pos
  congr 1
  have : (((j0 + j : Nat)) : Int) * ld = (j0 : Int) * ld + (j : Int) * ld := by rw [Int.natCast_add, Int.add_mul]
  rw [this]; omega
theorem setM_part {L : List Nat} {g' : Nat → Nat → Nat} (hG : GoodP L.length off r c ld) {i0 j0 r' c' : Nat} (hi : i0 + r' ≤ r) (hj : j0 + c' ≤ c) (hG' : GoodP L.length (off + ((i0 : Int) + (j0 : Int) * ld)) r' c' ld) :
    setM L (off + ((i0 : Int) + (j0 : Int) * ld)) ld r' c' g' = setM L off ld r c (partG (mel L off ld) g' i0 j0 r' c') := by
  obtain ⟨h1, h2, h3, h4, h5, h6⟩ := id hG
  unfold setM
  refine rml_congr fun p hp => ?_
  cases hl : loc (off + ((i0 : Int) + (j0 : Int) * ld)) ld r' c' p with
  | some q =>
    obtain ⟨i, j⟩ := q
    obtain ⟨hi', hj', rfl⟩ := loc_some h4 hG'.2.2.1 hl
    rw [pos_part, loc_pos hG (by omega) (by omega)]
    simp only [partG]
    rw [if_pos ⟨by omega, by omega, by omega, by omega⟩]
    congr 1 <;> omega
  | none =>
    cases hl' : loc off ld r c p with
    | some q =>
      obtain ⟨i, j⟩ := q
      obtain ⟨hi', hj', rfl⟩ := loc_some h4 h3 hl'
      simp only [partG]
      rw [if_neg]
      · rfl
      · rintro ⟨k1, k2, k3, k4⟩
        have := loc_pos hG' (i := i - i0) (j := j - j0) (by omega) (by omega)
        rw [pos_part, show i0 + (i - i0) = i from by omega, show j0 + (j - j0) = j from by omega, hl] at this
        cases this
    | none => rfl
theorem mel_part {L : List Nat} {i0 j0 i j : Nat} : mel L (off + ((i0 : Int) + (j0 : Int) * ld)) ld i j = mel L off ld (i0 + i) (j0 + j) := by
  rw [mel_pos, mel_pos, pos_part]
end
end Go.Sx
