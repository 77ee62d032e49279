/- A part of the proofs of this seat: SxW. No condition is set. -/
import Derived.Test.YtchhjighipjnnaaSxV
set_option linter.unusedVariables false
set_option linter.unusedSimpArgs false
namespace Go.Sx
/-! ### tables, row by row -/
abbrev mM (A : AV) (r c : Int) : AV := .agg [.int .i64 r, .int .i64 c, A]
def rmA (g : Nat → Nat → Nat) (r c : Nat) : List Nat := rml (fun k => g (k / c) (k % c)) (r * c)
@[simp] theorem rmA_len (g : Nat → Nat → Nat) (r c : Nat) : (rmA g r c).length = r * c := by simp [rmA]
theorem ix_lt {r c i j : Nat} (hi : i < r) (hj : j < c) : i * c + j < r * c := by
  have h1 : (i + 1) * c ≤ r * c := Nat.mul_le_mul_right _ hi
  rw [Nat.add_mul, Nat.one_mul] at h1
  omega
theorem ix_div {c i j : Nat} (hj : j < c) : (i * c + j) / c = i := by
  rw [Nat.mul_comm, Nat.mul_add_div (by omega), Nat.div_eq_of_lt hj, Nat.add_zero]
theorem ix_mod {c i j : Nat} (hj : j < c) : (i * c + j) % c = j := by
  rw [Nat.mul_comm, Nat.mul_add_mod, Nat.mod_eq_of_lt hj]
theorem rmA_get {g : Nat → Nat → Nat} {r c i j : Nat} (hi : i < r) (hj : j < c) : (rmA g r c).getD (i * c + j) 0 = g i j := by
  rw [rmA, rml_get (ix_lt hi hj), ix_div hj, ix_mod hj]
/-- a table filled so far -/
def ofL (g : Nat → Nat → Nat) (r c n : Nat) : List Nat := rml (fun k => if k < n then g (k / c) (k % c) else 0) (r * c)
@[simp] theorem ofL_len (g : Nat → Nat → Nat) (r c n : Nat) : (ofL g r c n).length = r * c := by simp [ofL]
theorem ofL_zero (g : Nat → Nat → Nat) (r c : Nat) : ofL g r c 0 = List.replicate (r * c) 0 := by
  apply List.ext_getElem
  · simp
  · intro i h1 h2; simp [ofL, rml]
theorem ofL_all (g : Nat → Nat → Nat) (r c : Nat) : ofL g r c (r * c) = rmA g r c := by
  unfold ofL rmA
  exact rml_congr fun k hk => by rw [if_pos hk]
theorem ofL_set {g : Nat → Nat → Nat} {r c i j : Nat} (hi : i < r) (hj : j < c) {x : Nat} (hx : x = g i j) : (ofL g r c (i * c + j)).set (i * c + j) x = ofL g r c (i * c + j + 1) := by
  have hlt := ix_lt hi hj
  subst hx
  apply List.ext_getElem
  · simp
  · intro k h1 h2
    simp only [ofL_len] at h2
    rw [List.getElem_set]
    split
    · rename_i hk
      subst hk
      simp [ofL, rml, ix_div hj, ix_mod hj]
    · rename_i hk
      simp only [ofL, rml, List.getElem_map, List.getElem_range]
      by_cases h : k < i * c + j
      · rw [if_pos h, if_pos (by omega)]
      · rw [if_neg h, if_neg (by omega)]
/-- a table filled in any order so far -/
def flL (g ρ : Nat → Nat) (n sz : Nat) : List Nat := rml (fun k => if ρ k < n then g k else 0) sz
@[simp] theorem flL_len (g ρ : Nat → Nat) (n sz : Nat) : (flL g ρ n sz).length = sz := by simp [flL]
theorem flL_zero (g ρ : Nat → Nat) (sz : Nat) : flL g ρ 0 sz = List.replicate sz 0 := by
  apply List.ext_getElem
  · simp
  · intro i h1 h2; simp [flL, rml]
theorem flL_all {g ρ : Nat → Nat} {n sz : Nat} (h : ∀ k, k < sz → ρ k < n) : flL g ρ n sz = rml g sz := by
  unfold flL
  exact rml_congr fun k hk => by rw [if_pos (h k hk)]
theorem flL_set {g ρ : Nat → Nat} {n sz ix x : Nat} (hix : ix < sz) (hρ : ρ ix = n) (hi : ∀ k, k < sz → ρ k = n → k = ix) (hx : x = g ix) : (flL g ρ n sz).set ix x = flL g ρ (n + 1) sz := by
  subst hx
  apply List.ext_getElem
  · simp
  · intro k h1 h2
    simp only [flL_len] at h2
    rw [List.getElem_set]
    split
    · rename_i hk; subst hk
      simp [flL, rml, hρ]
    · rename_i hk
      have : ρ k ≠ n := fun h => hk (hi k h2 h).symm
      simp only [flL, rml, List.getElem_map, List.getElem_range]
      by_cases h : ρ k < n
      · rw [if_pos h, if_pos (by omega)]
      · rw [if_neg h, if_neg (by omega)]
/-- the rank of a place that is filled column by column -/
def rkT (r c k : Nat) : Nat := k % r * c + k / r
theorem rkT_ix {r c i j : Nat} (hi : i < r) (hj : j < c) : rkT r c (j * r + i) = i * c + j := by
  unfold rkT; rw [ix_mod hi, ix_div hi]
theorem div_lt' {r c k : Nat} (h : k < c * r) : k / r < c := by
  rcases Nat.eq_zero_or_pos r with h0 | h0
  · subst h0; simp at h
  · exact (Nat.div_lt_iff_lt_mul h0).2 h
theorem pos_of_lt {r c k : Nat} (h : k < c * r) : 0 < r := by
  rcases Nat.eq_zero_or_pos r with h0 | h0
  · subst h0; simp at h
  · exact h0
theorem rkT_inj {r c i j k : Nat} (hi : i < r) (hj : j < c) (hk : k < c * r) (h : rkT r c k = i * c + j) : k = j * r + i := by
  unfold rkT at h
  have h1 : k / r < c := div_lt' hk
  have h2 : (k % r * c + k / r) / c = k % r := ix_div h1
  have h3 : (k % r * c + k / r) % c = k / r := ix_mod h1
  rw [h, ix_div hj] at h2
  rw [h, ix_mod hj] at h3
  rw [h2, h3, Nat.mul_comm]
  exact (Nat.div_add_mod k r).symm
theorem rkT_lt {r c k : Nat} (hk : k < c * r) : rkT r c k < r * c := by
  unfold rkT
  exact ix_lt (Nat.mod_lt _ (pos_of_lt hk)) (div_lt' hk)
/-- a matrix' numbers, column by column -/
def cmA (g : Nat → Nat → Nat) (r c : Nat) : List Nat := rml (fun k => g (k % r) (k / r)) (r * c)
@[simp] theorem cmA_len (g : Nat → Nat → Nat) (r c : Nat) : (cmA g r c).length = r * c := by simp [cmA]
def maxF (g : Nat → Nat → Nat) (r c : Nat) : Nat := greatF ((rmA g r c).map absF)
end Go.Sx
