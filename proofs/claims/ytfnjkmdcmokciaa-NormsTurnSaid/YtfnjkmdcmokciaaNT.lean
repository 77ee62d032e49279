/- A part of the proofs of this seat: NT. No condition is set. -/
import Derived.Test.YtfnjkmdcmokciaaFO
import Derived.Test.YtfnjkmdcmokciaaCB
set_option linter.unusedVariables false
set_option linter.unusedSimpArgs false
namespace Go.Sx
theorem dIx_div {r c k : Nat} (h : k < r * c) : dIx r c k / max r 1 = k % c ∧ dIx r c k % max r 1 = k / c := by
  have h1 : k / c < r := div_lt' h
  have e : dIx r c k = k % c * max r 1 + k / c := by unfold dIx; omega
  rw [e]
  exact ⟨ix_div (by omega), ix_mod (by omega)⟩
theorem dIx_inj {r c k m : Nat} (hk : k < r * c) (hm : m < r * c) (h : dIx r c k = dIx r c m) : k = m := by
  obtain ⟨h1, h2⟩ := dIx_div hk
  obtain ⟨h3, h4⟩ := dIx_div hm
  rw [h] at h1 h2
  rw [← Nat.div_add_mod k c, ← Nat.div_add_mod m c, ← h2, ← h1, ← h4, ← h3]
theorem denseN_get {r c : Nat} {l : List Nat} : ∀ {n k : Nat}, n ≤ r * c → k < n → (denseN r c l n).getD (dIx r c k) 0 = l.getD k 0
  | 0, k, _, hk => by omega
  | n + 1, k, hn, hk => by
    simp only [denseN]
    by_cases h : k = n
    · subst h
      have := dIx_lt (show k < r * c by omega)
      simp [List.getD, this]
    · have hne : dIx r c n ≠ dIx r c k := fun hh => h (dIx_inj (by omega) (by omega) hh.symm)
      have := denseN_get (r := r) (c := c) (l := l) (n := n) (k := k) (by omega) (by omega)
      simp only [List.getD] at this ⊢
      rw [List.getElem?_set_ne hne]
      exact this
/-- the numbers of a new matrix that is told all of its numbers -/
theorem dense_mel {r c : Nat} {l : List Nat} (hl : l.length = r * c) {i j : Nat} (hi : i < r) (hj : j < c) : mel (denseL r c l) 0 ((max r 1 : Nat) : Int) i j = l.getD (i * c + j) 0 := by
  have hlt := ix_lt hi hj
  have e1 : (0 + (i : Int) + (j : Int) * ((max r 1 : Nat) : Int)).toNat = dIx r c (i * c + j) := by
    unfold dIx
    rw [ix_div hj, ix_mod hj]
    have : (0 + (i : Int) + (j : Int) * ((max r 1 : Nat) : Int)) = ((i + j * max r 1 : Nat) : Int) := by simp
    rw [this]; omega
  have e2 : min l.length (r * c) = r * c := by omega
  unfold mel denseL
  rw [e1, e2, denseN_get (Nat.le_refl _) hlt]
  simp [List.getD, hlt]
theorem inf_turn {g g' : Nat → Nat → Nat} {r c : Nat} (h : ∀ i j, i < c → j < r → g' i j = g j i) : infF g' c r = oneF g r c := by
  unfold infF oneF
  by_cases h0 : r = 0 ∨ c = 0
  · rw [if_pos (by omega), if_pos h0]
  · rw [if_neg (by omega), if_neg h0]
    congr 1
    refine rml_congr fun k hk => ?_
    congr 1
    exact rml_congr fun i hi => h k i hk hi
theorem max_turn {g g' : Nat → Nat → Nat} {r c : Nat} (h : ∀ i j, i < c → j < r → g' i j = g j i) : greatF ((cmA g r c).map absF) = greatF ((cmA g' c r).map absF) :=
  great_perm fun x => by
    rw [mem_cmA, mem_cmA]
    exact ⟨fun ⟨i, j, hi, hj, hx⟩ => ⟨j, i, hj, hi, by rw [h j i hj hi]; exact hx⟩, fun ⟨i, j, hi, hj, hx⟩ => ⟨j, i, hj, hi, by rw [h i j hi hj] at hx; exact hx⟩⟩
end Go.Sx
