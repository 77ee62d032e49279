/- A part of the proofs of this seat: LF. No condition is set. -/
import Derived.Test.YtfnjkmdcmokciaaSxY
import Derived.Test.YtfnjkmdcmokciaaFA
set_option linter.unusedVariables false
set_option linter.unusedSimpArgs false
namespace Go.Sx
theorem hs_set2 {H N : List (List AV)} {b : Nat} {X Y : List AV} (h : b < H.length) : (H.set b X ++ N).set b Y = H.set b Y ++ N := by
  rw [hs_old (by simpa using h), List.set_set]
theorem OldOk.set2 {H N N' : List (List AV)} {n b : Nat} {X Y : List AV} (hb : b < H.length) (h : n ≤ H.length) (hm : mxL Y ≤ n) : OldOk n (H.set b X ++ N) (H.set b Y ++ N') := by
  have := OldOk.set (A := H.set b X) (N := N) (N' := N') (n := n) (i := b) (cs := Y) (by simpa using h) hm
  rwa [List.set_set] at this
theorem hg_set {H N : List (List AV)} {b : Nat} {X : List AV} (h : b < H.length) : (H.set b X ++ N)[b]? = some X := hg_old (hb_set h)
/-! ### the factors, step by step -/
def colK (g : Nat → Nat → Nat) (k n : Nat) : List Nat := rml (fun i => g (k + i) k) (n - k)
@[simp] theorem colK_len (g : Nat → Nat → Nat) (k n : Nat) : (colK g k n).length = n - k := by simp [colK]
def pvK (g : Nat → Nat → Nat) (k n : Nat) : Nat := k + moN (colK g k n) (n - k)
theorem pvK_lt {g : Nat → Nat → Nat} {k n : Nat} (h : k < n) : pvK g k n < n := by
  have := moN_lt (colK g k n) (n - k) (by omega)
  unfold pvK; omega
theorem pvK_ge {g : Nat → Nat → Nat} {k n : Nat} : k ≤ pvK g k n := by unfold pvK; omega
def swK (g : Nat → Nat → Nat) (k n : Nat) : Nat → Nat → Nat := swpG g k (pvK g k n)
def divG (g : Nat → Nat → Nat) (k : Nat) : Nat → Nat → Nat := fun i j => if k < i ∧ j = k then fdiv (g i k) (g k k) else g i j
def subG (g : Nat → Nat → Nat) (k : Nat) : Nat → Nat → Nat := fun i j => if k < i ∧ k < j then fsub (g i j) (fmul (g i k) (g k j)) else g i j
def elG (g : Nat → Nat → Nat) (k : Nat) : Nat → Nat → Nat := subG (divG g k) k
def stG (g : Nat → Nat → Nat) (n : Nat) : Nat → Nat → Nat → Nat
  | 0 => g
  | k + 1 => elG (swK (stG g n k) k n) k
def sgK (g : Nat → Nat → Nat) (n k : Nat) : Bool := feq (swK (stG g n k) k n k k) 0
def pvL (g : Nat → Nat → Nat) (n k : Nat) : List Int := (List.range k).map fun t => (pvK (stG g n t) t n : Int)
@[simp] theorem pvL_len (g : Nat → Nat → Nat) (n k : Nat) : (pvL g n k).length = k := by simp [pvL]
theorem pvL_zero (g : Nat → Nat → Nat) (n : Nat) : pvL g n 0 = [] := rfl
theorem pvL_succ (g : Nat → Nat → Nat) (n k : Nat) : pvL g n (k + 1) = pvL g n k ++ [(pvK (stG g n k) k n : Int)] := by simp [pvL, List.range_succ]
theorem pvL_il (g : Nat → Nat → Nat) (n k : Nat) : il (pvL g n k) ++ [.int .i64 (pvK (stG g n k) k n : Int)] = il (pvL g n (k + 1)) := by rw [pvL_succ]; simp [il]
/-- the first step whose pivot is 0 -/
def fN (g : Nat → Nat → Nat) (n : Nat) : Nat := (List.range n).findIdx (sgK g n)
theorem fN_le (g : Nat → Nat → Nat) (n : Nat) : fN g n ≤ n := by
  have := List.findIdx_le_length (xs := List.range n) (p := sgK g n)
  simpa [fN] using this
theorem fN_lt {g : Nat → Nat → Nat} {n k : Nat} (h : k < fN g n) : sgK g n k = false := by
  have := List.not_of_lt_findIdx (xs := List.range n) (p := sgK g n) (i := k) h
  simpa using this
theorem fN_at {g : Nat → Nat → Nat} {n : Nat} (h : fN g n < n) : sgK g n (fN g n) = true := by
  have h' : (List.range n).findIdx (sgK g n) < (List.range n).length := by simpa [fN] using h
  have := List.findIdx_getElem (xs := List.range n) (p := sgK g n) (w := h')
  simpa [fN] using this
/-- row by row, number by number -/
def eK (g : Nat → Nat → Nat) (k i j : Nat) : Nat → Nat → Nat := fun i' j' => if i' < i ∨ i' = i ∧ j' < j then elG g k i' j' else g i' j'
theorem elG_row {g : Nat → Nat → Nat} {k i j : Nat} (h : i ≤ k) : elG g k i j = g i j := by
  unfold elG subG divG
  rw [if_neg (by omega), if_neg (by omega)]
theorem elG_col {g : Nat → Nat → Nat} {k i j : Nat} (h : j < k) : elG g k i j = g i j := by
  unfold elG subG divG
  rw [if_neg (by omega), if_neg (by omega)]
theorem elG_k {g : Nat → Nat → Nat} {k i : Nat} (h : k < i) : elG g k i k = fdiv (g i k) (g k k) := by
  unfold elG subG divG
  rw [if_neg (by omega), if_pos (by omega)]
theorem elG_in {g : Nat → Nat → Nat} {k i j : Nat} (h : k < i) (h' : k < j) : elG g k i j = fsub (g i j) (fmul (fdiv (g i k) (g k k)) (g k j)) := by
  unfold elG subG divG
  rw [if_pos ⟨h, h'⟩, if_neg (by omega), if_pos ⟨h, rfl⟩, if_neg (by omega)]
theorem eK_first {g : Nat → Nat → Nat} {k : Nat} (i' j' : Nat) : eK g k (k + 1) 0 i' j' = g i' j' := by
  unfold eK
  split
  · rw [elG_row (by omega)]
  · rfl
theorem eK_row {g : Nat → Nat → Nat} {k i n : Nat} (i' j' : Nat) (h : j' < n) : eK g k i n i' j' = eK g k (i + 1) 0 i' j' := by
  unfold eK
  by_cases h1 : i' ≤ i
  · rw [if_pos (by omega), if_pos (by omega)]
  · rw [if_neg (by omega), if_neg (by omega)]
theorem eK_all {g : Nat → Nat → Nat} {k n : Nat} (i' j' : Nat) (h : i' < n) : eK g k n 0 i' j' = elG g k i' j' := by
  unfold eK; rw [if_pos (by omega)]
theorem eK_div {g : Nat → Nat → Nat} {k i : Nat} (h : k < i) (i' j' : Nat) : updG (eK g k i 0) i k (fdiv (eK g k i 0 i k) (eK g k i 0 k k)) i' j' = eK g k i (k + 1) i' j' := by
  unfold updG
  split
  · rename_i hh; obtain ⟨rfl, rfl⟩ := hh
    have e1 : eK g j' i' 0 i' j' = g i' j' := by unfold eK; rw [if_neg (by omega)]
    have e2 : eK g j' i' 0 j' j' = g j' j' := by unfold eK; rw [if_pos (by omega), elG_row (by omega)]
    have e3 : eK g j' i' (j' + 1) i' j' = elG g j' i' j' := by unfold eK; rw [if_pos (by omega)]
    rw [e1, e2, e3, elG_k h]
  · rename_i hh
    unfold eK
    by_cases h1 : i' < i
    · rw [if_pos (by omega), if_pos (by omega)]
    · by_cases h2 : i' = i ∧ j' < k + 1
      · rw [if_neg (by omega), if_pos (by omega), elG_col (by omega)]
      · rw [if_neg (by omega), if_neg (by omega)]
theorem eK_sub {g : Nat → Nat → Nat} {k i j : Nat} (h : k < i) (h' : k < j) (i' j' : Nat) : updG (eK g k i j) i j (fsub (eK g k i j i j) (fmul (eK g k i j i k) (eK g k i j k j))) i' j' = eK g k i (j + 1) i' j' := by
  unfold updG
  split
  · rename_i hh; obtain ⟨rfl, rfl⟩ := hh
    have e1 : eK g k i' j' i' j' = g i' j' := by unfold eK; rw [if_neg (by omega)]
    have e2 : eK g k i' j' i' k = elG g k i' k := by unfold eK; rw [if_pos (by omega)]
    have e3 : eK g k i' j' k j' = g k j' := by unfold eK; rw [if_pos (by omega), elG_row (by omega)]
    have e4 : eK g k i' (j' + 1) i' j' = elG g k i' j' := by unfold eK; rw [if_pos (by omega)]
    rw [e1, e2, e3, e4, elG_k h, elG_in h h']
  · rename_i hh
    unfold eK
    by_cases h1 : i' < i
    · rw [if_pos (by omega), if_pos (by omega)]
    · by_cases h2 : i' = i ∧ j' < j + 1
      · rw [if_pos (by omega), if_pos (by omega)]
      · rw [if_neg (by omega), if_neg (by omega)]
end Go.Sx
