/- A part of the proofs of this seat: SxV. No condition is set. -/
import Derived.Test.YtchhjighipjnnaaSxU
set_option linter.unusedVariables false
set_option linter.unusedSimpArgs false
namespace Go.Sx
theorem cells_of_len {D : AV} {n : Nat} (h : slen D = some n) : D.cells = some [D] := by
  cases D <;> first | rfl | (simp [slen] at h; done)
def cOff (off rows ld j : Int) : Int := if 0 < rows then off + j * ld else off
def rOff (off cols i : Int) : Int := if 0 < cols then off + i else off
theorem col_right {n : Nat} {off rows cols ld j : Int} (h : GoodP n off rows cols ld) (hj : 0 ≤ j) (hj' : j < cols) : RightP n (cOff off rows ld j) rows 1 := by
  obtain ⟨h1, h2, h3, h4, h5, h6⟩ := id h
  unfold cOff
  split
  · rename_i hr
    have hp := good_place h (i := 0) (j := j) (by omega) hj hr hj'
    have hq := good_place h (i := rows - 1) (j := j) (by omega) hj (by omega) hj'
    refine ⟨h1, by omega, by omega, ?_⟩
    omega
  · exact ⟨h1, by omega, h3, .inl (by omega)⟩
theorem row_right {n : Nat} {off rows cols ld i : Int} (h : GoodP n off rows cols ld) (hi : 0 ≤ i) (hi' : i < rows) : RightP n (rOff off cols i) cols ld := by
  obtain ⟨h1, h2, h3, h4, h5, h6⟩ := id h
  unfold rOff
  split
  · rename_i hc
    have hp := good_place h (i := i) (j := 0) hi (by omega) hi' hc
    have hq := good_place h (i := i) (j := cols - 1) hi (by omega) hi' (by omega)
    refine ⟨h2, h4, by omega, .inr ⟨by omega, ?_⟩⟩
    omega
  · exact ⟨h2, h4, h3, .inl (by omega)⟩
theorem cOff_le {n : Nat} {off rows cols ld j : Int} (h : GoodP n off rows cols ld) (hj : 0 ≤ j) (hj' : j < cols) (hn : n ≤ 9223372036854775807) (ho : off ≤ 9223372036854775807 := by omega) : cOff off rows ld j ≤ 9223372036854775807 := by
  unfold cOff
  split
  · have := good_place h (i := 0) (j := j) (by omega) hj (by assumption) hj'
    omega
  · exact ho
theorem rOff_le {n : Nat} {off rows cols ld i : Int} (h : GoodP n off rows cols ld) (hi : 0 ≤ i) (hi' : i < rows) (hn : n ≤ 9223372036854775807) (ho : off ≤ 9223372036854775807 := by omega) : rOff off cols i ≤ 9223372036854775807 := by
  unfold rOff
  split
  · have := good_place h (i := i) (j := 0) hi (by omega) hi' (by assumption)
    omega
  · exact ho
theorem right_VI {n : Nat} {off m inc : Int} (h : RightP n off m inc) (hn : n ≤ 9223372036854775807) (hm : m ≤ 9223372036854775807) (hi : inc ≤ 9223372036854775807) (ho : off ≤ 9223372036854775807) : VI n off m inc := by
  obtain ⟨h1, h2, h3, h4⟩ := h
  exact ⟨hn, by omega, ho, by omega, hm, by omega, hi⟩
/-- what is told of each of the first -/
def rml (g : Nat → Nat) (k : Nat) : List Nat := (List.range k).map g
@[simp] theorem rml_len (g : Nat → Nat) (k : Nat) : (rml g k).length = k := by simp [rml]
theorem rml_zero (g : Nat → Nat) : rml g 0 = [] := rfl
theorem rml_succ (g : Nat → Nat) (k : Nat) : rml g (k + 1) = rml g k ++ [g k] := by simp [rml, List.range_succ]
theorem rml_fl (g : Nat → Nat) (k : Nat) : fl (rml g k) ++ [.flt (g k)] = fl (rml g (k + 1)) := by rw [rml_succ]; simp [fl]
theorem rml_get {g : Nat → Nat} {n k : Nat} (h : k < n) : (rml g n).getD k 0 = g k := by simp [rml, List.getD, h]
theorem rml_congr {g g' : Nat → Nat} {n : Nat} (h : ∀ k, k < n → g k = g' k) : rml g n = rml g' n := by
  unfold rml; exact List.map_congr_left (fun k hk => h k (by simpa using hk))
/-- a matrix' number -/
def mel (l : List Nat) (off ld : Int) (i j : Nat) : Nat := l.getD (off + (i : Int) + (j : Int) * ld).toNat 0
/-- a column's numbers, a row's -/
def colL (g : Nat → Nat → Nat) (r j : Nat) : List Nat := rml (fun i => g i j) r
def rowL (g : Nat → Nat → Nat) (c i : Nat) : List Nat := rml (fun j => g i j) c
theorem vec_col (l : List Nat) (off rows ld : Int) (j : Nat) (h : 0 ≤ rows) : vecL l (cOff off rows ld j) rows 1 = colL (mel l off ld) rows.toNat j := by
  unfold vecL colL rml
  apply List.map_congr_left
  intro k hk
  simp only [List.mem_range] at hk
  have : 0 < rows := by omega
  simp only [cOff, this, if_true, mel, Int.mul_one]
  congr 2; omega
theorem vec_row (l : List Nat) (off cols ld : Int) (i : Nat) (h : 0 ≤ cols) : vecL l (rOff off cols i) cols ld = rowL (mel l off ld) cols.toNat i := by
  unfold vecL rowL rml
  apply List.map_congr_left
  intro k hk
  simp only [List.mem_range] at hk
  have : 0 < cols := by omega
  simp only [rOff, this, if_true, mel]
end Go.Sx
