/- A part of the proofs of this seat: YB. No condition is set. -/
import Derived.Lib.SlicesCompact
import Derived.Test.YthjjpbcmimpjbaaGreatYA
set_option linter.unusedVariables false
set_option linter.unusedSimpArgs false
namespace Go.Sx
/-! ### triangular systems, number by number -/
def updV (f : Nat → Nat) (i x : Nat) : Nat → Nat := fun k => if k = i then x else f k
theorem updV_at {f : Nat → Nat} {i x : Nat} : updV f i x i = x := by simp [updV]
theorem updV_ne {f : Nat → Nat} {i x k : Nat} (h : k ≠ i) : updV f i x k = f k := by simp [updV, h]
/-- lower, column by column -/
def lo1 (a : Nat → Nat → Nat) (f : Nat → Nat) : Nat → Nat → Nat
  | 0 => f
  | j + 1 => fun i => if j < i then fsub (lo1 a f j i) (fmul (a i j) (lo1 a f j j)) else lo1 a f j i
def lo1P (a : Nat → Nat → Nat) (f : Nat → Nat) (j i : Nat) : Nat → Nat := fun i' => if i' < i then lo1 a f (j + 1) i' else lo1 a f j i'
def lo1R (a : Nat → Nat → Nat) (f : Nat → Nat) (i j : Nat) : Nat → Nat := fun i' => if i' < i then lo1 a f i' i' else if i' = i then lo1 a f j i' else f i'
theorem lo1_ge {a : Nat → Nat → Nat} {f : Nat → Nat} {j i : Nat} (h : i ≤ j) : lo1 a f (j + 1) i = lo1 a f j i := by
  show (if j < i then _ else _) = _
  rw [if_neg (by omega)]
theorem lo1_gt {a : Nat → Nat → Nat} {f : Nat → Nat} {j i : Nat} (h : j < i) : lo1 a f (j + 1) i = fsub (lo1 a f j i) (fmul (a i j) (lo1 a f j j)) := by
  show (if j < i then _ else _) = _
  rw [if_pos h]
theorem lo1_stop {a : Nat → Nat → Nat} {f : Nat → Nat} {j i : Nat} (h : i ≤ j) : lo1 a f j i = lo1 a f i i := by
  induction j with
  | zero => have : i = 0 := by omega
            subst this; rfl
  | succ j ih =>
    by_cases e : i = j + 1
    · subst e; rfl
    · rw [lo1_ge (by omega), ih (by omega)]
theorem lo1P_first {a : Nat → Nat → Nat} {f : Nat → Nat} {j : Nat} (i' : Nat) : lo1P a f j (j + 1) i' = lo1 a f j i' := by
  unfold lo1P
  split
  · rw [lo1_ge (by omega)]
  · rfl
theorem lo1P_step {a : Nat → Nat → Nat} {f : Nat → Nat} {j i : Nat} (h : j < i) (i' : Nat) :
    updV (lo1P a f j i) i (fsub (lo1P a f j i i) (fmul (a i j) (lo1P a f j i j))) i' = lo1P a f j (i + 1) i' := by
  unfold updV
  split
  · rename_i e; subst e
    have e1 : lo1P a f j i' i' = lo1 a f j i' := by unfold lo1P; rw [if_neg (by omega)]
    have e2 : lo1P a f j i' j = lo1 a f j j := by unfold lo1P; rw [if_pos (by omega), lo1_ge (by omega)]
    have e3 : lo1P a f j (i' + 1) i' = lo1 a f (j + 1) i' := by unfold lo1P; rw [if_pos (by omega)]
    rw [e1, e2, e3, lo1_gt h]
  · rename_i e
    unfold lo1P
    by_cases h1 : i' < i
    · rw [if_pos h1, if_pos (by omega)]
    · rw [if_neg h1, if_neg (by omega)]
theorem lo1P_last {a : Nat → Nat → Nat} {f : Nat → Nat} {j n : Nat} (i' : Nat) (h : i' < n) : lo1P a f j n i' = lo1 a f (j + 1) i' := by
  unfold lo1P; rw [if_pos h]
theorem lo1R_first {a : Nat → Nat → Nat} {f : Nat → Nat} (i' : Nat) : lo1R a f 0 0 i' = f i' := by
  unfold lo1R; rw [if_neg (by omega)]; split <;> rfl
theorem lo1R_step {a : Nat → Nat → Nat} {f : Nat → Nat} {i j : Nat} (h : j < i) (i' : Nat) :
    updV (lo1R a f i j) i (fsub (lo1R a f i j i) (fmul (a i j) (lo1R a f i j j))) i' = lo1R a f i (j + 1) i' := by
  unfold updV
  split
  · rename_i e; subst e
    have e1 : lo1R a f i' j i' = lo1 a f j i' := by unfold lo1R; rw [if_neg (by omega), if_pos rfl]
    have e2 : lo1R a f i' j j = lo1 a f j j := by unfold lo1R; rw [if_pos (by omega)]
    have e3 : lo1R a f i' (j + 1) i' = lo1 a f (j + 1) i' := by unfold lo1R; rw [if_neg (by omega), if_pos rfl]
    rw [e1, e2, e3, lo1_gt h]
  · rename_i e
    unfold lo1R
    by_cases h1 : i' < i
    · rw [if_pos h1, if_pos h1]
    · rw [if_neg h1, if_neg h1, if_neg e, if_neg e]
theorem lo1R_row {a : Nat → Nat → Nat} {f : Nat → Nat} {i : Nat} (i' : Nat) : lo1R a f i i i' = lo1R a f (i + 1) 0 i' := by
  unfold lo1R
  by_cases h1 : i' < i
  · rw [if_pos h1, if_pos (by omega)]
  · by_cases h2 : i' = i
    · subst h2; rw [if_neg h1, if_pos rfl, if_pos (by omega)]
    · rw [if_neg h1, if_neg h2, if_neg (by omega)]; split <;> rfl
theorem lo1R_last {a : Nat → Nat → Nat} {f : Nat → Nat} {n : Nat} (i' : Nat) (h : i' < n) : lo1R a f n 0 i' = lo1 a f n i' := by
  unfold lo1R; rw [if_pos h, lo1_stop (j := n) (by omega)]
/-- upper, column by column, from the last one -/
def up2 (a : Nat → Nat → Nat) (f : Nat → Nat) (n : Nat) : Nat → Nat → Nat
  | 0 => f
  | t + 1 => fun i => if i < n - 1 - t then fsub (up2 a f n t i) (fmul (a i (n - 1 - t)) (fdiv (up2 a f n t (n - 1 - t)) (a (n - 1 - t) (n - 1 - t)))) else if i = n - 1 - t then fdiv (up2 a f n t i) (a i i) else up2 a f n t i
theorem up2_lt {a : Nat → Nat → Nat} {f : Nat → Nat} {n t i : Nat} (h : i < n - 1 - t) : up2 a f n (t + 1) i = fsub (up2 a f n t i) (fmul (a i (n - 1 - t)) (fdiv (up2 a f n t (n - 1 - t)) (a (n - 1 - t) (n - 1 - t)))) := by
  show (if i < n - 1 - t then _ else _) = _
  rw [if_pos h]
theorem up2_at {a : Nat → Nat → Nat} {f : Nat → Nat} {n t i : Nat} (h : i = n - 1 - t) : up2 a f n (t + 1) i = fdiv (up2 a f n t i) (a i i) := by
  show (if i < n - 1 - t then _ else _) = _
  rw [if_neg (by omega), if_pos h]
theorem up2_gt {a : Nat → Nat → Nat} {f : Nat → Nat} {n t i : Nat} (h : n - 1 - t < i) : up2 a f n (t + 1) i = up2 a f n t i := by
  show (if i < n - 1 - t then _ else _) = _
  rw [if_neg (by omega), if_neg (by omega)]
theorem up2_stop {a : Nat → Nat → Nat} {f : Nat → Nat} {n t s i : Nat} (hs : n ≤ s + i) (h : s ≤ t) (htn : t ≤ n) : up2 a f n t i = up2 a f n s i := by
  induction t with
  | zero => have : s = 0 := by omega
            subst this; rfl
  | succ t ih =>
    by_cases e : s = t + 1
    · subst e; rfl
    · rw [up2_gt (by omega), ih (by omega) (by omega)]
def up2P (a : Nat → Nat → Nat) (f : Nat → Nat) (n t i : Nat) : Nat → Nat := fun i' => if i' < i ∨ i' = n - 1 - t then up2 a f n (t + 1) i' else up2 a f n t i'
theorem up2P_first {a : Nat → Nat → Nat} {f : Nat → Nat} {n t : Nat} (i' : Nat) : updV (up2 a f n t) (n - 1 - t) (fdiv (up2 a f n t (n - 1 - t)) (a (n - 1 - t) (n - 1 - t))) i' = up2P a f n t 0 i' := by
  unfold updV up2P
  split
  · rename_i e; subst e; rw [if_pos (by omega), up2_at rfl]
  · rename_i e; rw [if_neg (by omega)]
theorem up2P_step {a : Nat → Nat → Nat} {f : Nat → Nat} {n t i : Nat} (h : i < n - 1 - t) (i' : Nat) :
    updV (up2P a f n t i) i (fsub (up2P a f n t i i) (fmul (a i (n - 1 - t)) (up2P a f n t i (n - 1 - t)))) i' = up2P a f n t (i + 1) i' := by
  unfold updV
  split
  · rename_i e; subst e
    have e1 : up2P a f n t i' i' = up2 a f n t i' := by unfold up2P; rw [if_neg (by omega)]
    have e2 : up2P a f n t i' (n - 1 - t) = fdiv (up2 a f n t (n - 1 - t)) (a (n - 1 - t) (n - 1 - t)) := by unfold up2P; rw [if_pos (by omega), up2_at rfl]
    have e3 : up2P a f n t (i' + 1) i' = up2 a f n (t + 1) i' := by unfold up2P; rw [if_pos (by omega)]
    rw [e1, e2, e3, up2_lt h]
  · rename_i e
    unfold up2P
    by_cases h1 : i' < i ∨ i' = n - 1 - t
    · rw [if_pos h1, if_pos (by omega)]
    · rw [if_neg h1, if_neg (by omega)]
theorem up2P_last {a : Nat → Nat → Nat} {f : Nat → Nat} {n t : Nat} (i' : Nat) : up2P a f n t (n - 1 - t) i' = up2 a f n (t + 1) i' := by
  unfold up2P
  split
  · rfl
  · rw [up2_gt (by omega)]
def up2R (a : Nat → Nat → Nat) (f : Nat → Nat) (n t m : Nat) : Nat → Nat := fun i' => if n ≤ i' + t then up2 a f n (n - i') i' else if i' + t + 1 = n then up2 a f n m i' else f i'
theorem up2R_first {a : Nat → Nat → Nat} {f : Nat → Nat} {n : Nat} (i' : Nat) (h : i' < n) : up2R a f n 0 0 i' = f i' := by
  unfold up2R; rw [if_neg (by omega)]; split <;> rfl
theorem up2R_step {a : Nat → Nat → Nat} {f : Nat → Nat} {n t m : Nat} (ht : t < n) (h : m < t) (i' : Nat) :
    updV (up2R a f n t m) (n - 1 - t) (fsub (up2R a f n t m (n - 1 - t)) (fmul (a (n - 1 - t) (n - 1 - m)) (up2R a f n t m (n - 1 - m)))) i' = up2R a f n t (m + 1) i' := by
  unfold updV
  split
  · rename_i e; subst e
    have e1 : up2R a f n t m (n - 1 - t) = up2 a f n m (n - 1 - t) := by unfold up2R; rw [if_neg (by omega), if_pos (by omega)]
    have e2 : up2R a f n t m (n - 1 - m) = fdiv (up2 a f n m (n - 1 - m)) (a (n - 1 - m) (n - 1 - m)) := by
      unfold up2R; rw [if_pos (by omega), show n - (n - 1 - m) = m + 1 by omega, up2_at rfl]
    have e3 : up2R a f n t (m + 1) (n - 1 - t) = up2 a f n (m + 1) (n - 1 - t) := by unfold up2R; rw [if_neg (by omega), if_pos (by omega)]
    rw [e1, e2, e3, up2_lt (by omega)]
  · rename_i e
    unfold up2R
    by_cases h1 : n ≤ i' + t
    · rw [if_pos h1, if_pos h1]
    · rw [if_neg h1, if_neg h1, if_neg (by omega), if_neg (by omega)]
theorem up2R_row {a : Nat → Nat → Nat} {f : Nat → Nat} {n t : Nat} (ht : t < n) (i' : Nat) :
    updV (up2R a f n t t) (n - 1 - t) (fdiv (up2R a f n t t (n - 1 - t)) (a (n - 1 - t) (n - 1 - t))) i' = up2R a f n (t + 1) 0 i' := by
  unfold updV
  split
  · rename_i e; subst e
    have e1 : up2R a f n t t (n - 1 - t) = up2 a f n t (n - 1 - t) := by unfold up2R; rw [if_neg (by omega), if_pos (by omega)]
    rw [e1]
    unfold up2R
    rw [if_pos (by omega), show n - (n - 1 - t) = t + 1 by omega, up2_at rfl]
  · rename_i e
    unfold up2R
    by_cases h1 : n ≤ i' + t
    · rw [if_pos h1, if_pos (by omega)]
    · rw [if_neg h1, if_neg (by omega), if_neg (by omega)]; split <;> rfl
theorem up2R_last {a : Nat → Nat → Nat} {f : Nat → Nat} {n : Nat} (i' : Nat) (h : i' < n) : up2R a f n n 0 i' = up2 a f n n i' := by
  unfold up2R
  rw [if_pos (by omega), up2_stop (t := n) (s := n - i') (by omega) (by omega) (Nat.le_refl n)]
/-- lower, turned about -/
def in3 (a : Nat → Nat → Nat) (g : Nat → Nat) (i : Nat) : Nat → Nat
  | 0 => g i
  | m + 1 => fsub (in3 a g i m) (fmul (a (i + 1 + m) i) (g (i + 1 + m)))
def lt3 (a : Nat → Nat → Nat) (f : Nat → Nat) (n : Nat) : Nat → Nat → Nat
  | 0 => f
  | t + 1 => updV (lt3 a f n t) (n - 1 - t) (in3 a (lt3 a f n t) (n - 1 - t) t)
theorem in3_first {a : Nat → Nat → Nat} {g : Nat → Nat} {i : Nat} (i' : Nat) : updV g i (in3 a g i 0) i' = g i' := by
  unfold updV in3; split
  · rename_i e; rw [e]
  · rfl
theorem in3_step {a : Nat → Nat → Nat} {g : Nat → Nat} {i m : Nat} (i' : Nat) :
    updV (updV g i (in3 a g i m)) i (fsub (updV g i (in3 a g i m) i) (fmul (a (i + 1 + m) i) (updV g i (in3 a g i m) (i + 1 + m)))) i' = updV g i (in3 a g i (m + 1)) i' := by
  rw [updV_at, updV_ne (k := i + 1 + m) (i := i) (by omega)]
  unfold updV; split <;> rfl
/-- upper, turned about -/
def in4 (a : Nat → Nat → Nat) (g : Nat → Nat) (i : Nat) : Nat → Nat
  | 0 => g i
  | m + 1 => fsub (in4 a g i m) (fmul (a m i) (g m))
def ut4 (a : Nat → Nat → Nat) (f : Nat → Nat) : Nat → Nat → Nat
  | 0 => f
  | i + 1 => updV (ut4 a f i) i (fdiv (in4 a (ut4 a f i) i i) (a i i))
theorem in4_first {a : Nat → Nat → Nat} {g : Nat → Nat} {i : Nat} (i' : Nat) : updV g i (in4 a g i 0) i' = g i' := by
  unfold updV in4; split
  · rename_i e; rw [e]
  · rfl
theorem in4_step {a : Nat → Nat → Nat} {g : Nat → Nat} {i m : Nat} (h : m < i) (i' : Nat) :
    updV (updV g i (in4 a g i m)) i (fsub (updV g i (in4 a g i m) i) (fmul (a m i) (updV g i (in4 a g i m) m))) i' = updV g i (in4 a g i (m + 1)) i' := by
  rw [updV_at, updV_ne (k := m) (i := i) (by omega)]
  unfold updV; split <;> rfl
theorem in4_row {a : Nat → Nat → Nat} {f : Nat → Nat} {i : Nat} (i' : Nat) :
    updV (updV (ut4 a f i) i (in4 a (ut4 a f i) i i)) i (fdiv (updV (ut4 a f i) i (in4 a (ut4 a f i) i i) i) (a i i)) i' = ut4 a f (i + 1) i' := by
  rw [updV_at]
  show _ = updV (ut4 a f i) i (fdiv (in4 a (ut4 a f i) i i) (a i i)) i'
  unfold updV; split <;> rfl
/-- swaps by pivots -/
def swV (f : Nat → Nat) (i k : Nat) : Nat → Nat := fun t => if t = i then f k else if t = k then f i else f t
theorem swV_eq {f : Nat → Nat} {i k : Nat} (t : Nat) : updV (updV f i (f k)) k (f i) t = swV f i k t := by
  unfold updV swV
  by_cases h1 : t = k
  · subst h1
    by_cases h2 : t = i
    · subst h2; simp
    · simp [h2]
  · by_cases h2 : t = i
    · subst h2; simp [h1]
    · simp [h1, h2]
def tkF (p : List Int) (f : Nat → Nat) : Nat → Nat → Nat
  | 0 => f
  | k + 1 => swV (tkF p f k) k (p.getD k 0).toNat
def tkB (p : List Int) (f : Nat → Nat) : Nat → Nat → Nat
  | 0 => f
  | t + 1 => swV (tkB p f t) (p.length - 1 - t) (p.getD (p.length - 1 - t) 0).toNat
/-! ### a vector within a list -/
def setV (l : List Nat) (off inc : Int) (n : Nat) (f : Nat → Nat) : List Nat := setM l off inc 1 n (fun _ j => f j)
@[simp] theorem setV_len (l : List Nat) (off inc : Int) (n : Nat) (f : Nat → Nat) : (setV l off inc n f).length = l.length := by simp [setV]
theorem RightP.good {m : Nat} {off n inc : Int} (h : RightP m off n inc) : GoodP m off 1 n inc := by
  obtain ⟨h1, h2, h3, h4⟩ := h
  refine ⟨by omega, h1, h3, h2, h2, ?_⟩
  rcases h4 with h4 | ⟨h4, h5⟩
  · exact .inr (.inl h4)
  · exact .inr (.inr ⟨h4, by omega, by omega⟩)
theorem RightP.goodN {m n : Nat} {off inc : Int} (h : RightP m off n inc) : GoodP m off ((1 : Nat) : Int) (n : Int) inc := h.good
theorem VI.mat {m : Nat} {off n inc : Int} (h : VI m off n inc) : MI m off 1 n inc := by
  obtain ⟨a, b, c, d, e, f, g⟩ := h
  exact ⟨a, b, c, by omega, by omega, d, e, f, g⟩
section
variable {l : List Nat} {off inc : Int} {n : Nat} (hR : RightP l.length off n inc)
theorem setV_congr (h3 : 0 ≤ off) (h4 : 1 ≤ inc) {f g : Nat → Nat} (h : ∀ i, i < n → f i = g i) : setV l off inc n f = setV l off inc n g :=
  setM_congr h4 h3 fun i j hi hj => h j hj
include hR in
theorem set_setV {f : Nat → Nat} {i x : Nat} (hi : i < n) : (setV l off inc n f).set (pos off inc 0 i) x = setV l off inc n (updV f i x) := by
  have h := set_setM (L := l) (g := fun _ j => f j) (r := 1) (c := n) hR.goodN (i := 0) (j := i) (x := x) (by omega) hi
  unfold setV
  rw [h]
  refine setM_congr hR.2.1 hR.2.2.1 fun i' j' hi' hj' => ?_
  have : i' = 0 := by omega
  subst this
  simp [updG, updV]
include hR in
theorem setV_get {f : Nat → Nat} {k : Nat} (hk : k < n) : (setV l off inc n f).getD (pos off inc 0 k) 0 = f k := by
  have h := mel_setM (L := l) (g := fun _ j => f j) (r := 1) (c := n) hR.goodN (i := 0) (j := k) (by omega) hk
  exact h
include hR in
theorem vpos_lt {k : Nat} (hk : k < n) : pos off inc 0 k < l.length := pos_lt (r := 1) (c := n) hR.goodN (by omega) hk
include hR in
theorem vpos_eq {k : Nat} (hk : k < n) : off + (k : Int) * inc = ((pos off inc 0 k : Nat) : Int) := by
  have h := right_at hR (i := (k : Int)) (by omega) (by omega)
  unfold pos
  omega
end
end Go.Sx

set_option linter.unusedVariables false
set_option linter.unusedSimpArgs false
namespace Go.Sx
/-- have two stretches a place in common? -/
def SpansP (a b c d : Int) : Prop := a ≤ b ∧ c ≤ d ∧ a ≤ d ∧ c ≤ b
instance (a b c d : Int) : Decidable (SpansP a b c d) := by unfold SpansP; infer_instance
theorem rml_set {f : Nat → Nat} {n i x : Nat} (hi : i < n) : (rml f n).set i x = rml (updV f i x) n := by
  apply List.ext_getElem (by simp)
  intro j h1 h2
  simp only [List.getElem_set, rml, List.getElem_map, List.getElem_range, updV]
  by_cases h : i = j
  · subst h; simp
  · simp [h, show ¬ j = i from fun e => h e.symm]
theorem rml_set' {f g : Nat → Nat} {n i x : Nat} (hi : i < n) (h : ∀ t, t < n → updV f i x t = g t) : (rml f n).set i x = rml g n := by
  rw [rml_set hi]; exact rml_congr h
end Go.Sx

set_option linter.unusedVariables false
set_option linter.unusedSimpArgs false
namespace Go.Sx
theorem curG_of {H : List (List AV)} {b g : Nat} {l : List Nat} (h : H[b]? = some (fl l)) (hg : l.length = g) : curG H b g = true := by
  simp [curG, h, hg]
theorem first_zero (a : Nat → Nat → Nat) (n : Nat) : (∀ k, k < n → feq (a k k) 0 = false) ∨ ∃ z, z < n ∧ (∀ k, k < z → feq (a k k) 0 = false) ∧ feq (a z z) 0 = true := by
  obtain ⟨N, h1, h2, h3⟩ := first_bad (fun k => feq (a k k) 0 = false) n
  by_cases h : N < n
  · exact .inr ⟨N, h, h2, by simpa using h3 h⟩
  · exact .inl fun k hk => h2 k (by omega)
end Go.Sx

set_option linter.unusedVariables false
set_option linter.unusedSimpArgs false
namespace Go.Sx
/-! ### L and U, filled number by number; the rows' order -/
def befo (i0 j0 i j : Nat) : Prop := i < i0 ∨ (i = i0 ∧ j < j0)
instance (i0 j0 i j : Nat) : Decidable (befo i0 j0 i j) := by unfold befo; infer_instance
end Go.Sx

set_option linter.unusedVariables false
set_option linter.unusedSimpArgs false
/-! ### contracts turned -/
namespace Go.Sx
theorem CSpec.spec {P : Program} {f : Nat} {a : List AV} {H H' : List (List AV)} {r : AV} (he : Enters P f) (h : CSpec P f a H r H') : Spec P f a H r H' := by
  rcases h with ⟨_, h⟩ | ⟨_, h⟩
  · exact h
  · intro w g c hw hl
    obtain ⟨v, h1, _⟩ := h w g c hl
    rw [he] at h1; cases h1
theorem CSpec.args {P : Program} {f : Nat} {a a' : List AV} {H H' : List (List AV)} {r : AV} (h : CSpec P f a H r H') (ha : ∀ w g vs, LRep w g a' vs → LRep w g a vs) : CSpec P f a' H r H' := by
  rcases h with ⟨he, h⟩ | ⟨he, h⟩
  · exact .inl ⟨he, fun w g c hw hl => h w g c hw (ha _ _ _ hl)⟩
  · exact .inr ⟨he, fun w g c hl => h w g c (ha _ _ _ hl)⟩
end Go.Sx

set_option linter.unusedVariables false
set_option linter.unusedSimpArgs false
/-! ### the document's exact numbers: digits of 16 bits at their places -/
namespace Go.Sx
structure DV where
  neg : Bool
  l : List Int
  e : Int
/-- what a list of digits is worth, the first one least -/
def valL : List Int → Int
  | [] => 0
  | d :: l => d + 65536 * valL l
def Digs (l : List Int) : Prop := ∀ d ∈ l, 0 ≤ d ∧ d < 65536
def cutL (l : List Int) (a b : Nat) : List Int := (l.drop a).take (l.length - a - b)
@[simp] theorem cutL_len (l : List Int) (a b : Nat) : (cutL l a b).length = l.length - a - b := by simp only [cutL, List.length_take, List.length_drop]; omega
end Go.Sx

set_option linter.unusedVariables false
set_option linter.unusedSimpArgs false
/-! ### what 'Made' hands back -/
namespace Go.Sx
def lead : List Int → Nat
  | [] => 0
  | d :: l => if d = 0 then lead l + 1 else 0
def mk (l : List Int) : List Int := cutL l (lead l) (lead l.reverse)
def mn (neg : Bool) (l : List Int) : Bool := if lead l = l.length then false else neg
end Go.Sx

set_option linter.unusedVariables false
set_option linter.unusedSimpArgs false
/-! ### what a number is worth -/
namespace Go.Sx
def p2 (k : Int) : Rat := (2 : Rat) ^ k
def pw (e : Int) : Rat := p2 (16 * e)
def mag (d : DV) : Rat := ((valL d.l : Int) : Rat) * pw d.e
def sgn (b : Bool) (x : Rat) : Rat := if b then -x else x
def V (d : DV) : Rat := sgn d.neg (mag d)
structure In (d : DV) (B : Int) : Prop where
  dig : Digs d.l
  nil : d.l = [] → d.neg = false ∧ d.e = 0
  ne : d.l ≠ [] → d.l.getD 0 0 ≠ 0 ∧ d.l.getD (d.l.length - 1) 0 ≠ 0
  lo : d.l ≠ [] → -B ≤ d.e
  hi : d.l ≠ [] → d.e + d.l.length ≤ B
theorem In.mono {d : DV} {B C : Int} (h : In d B) (hBC : B ≤ C) : In d C :=
  ⟨h.dig, h.nil, h.ne, fun hl => by have := h.lo hl; omega, fun hl => by have := h.hi hl; omega⟩
theorem In.len {d : DV} {B : Int} (h : In d B) (h0 : 0 ≤ B) (hB : B ≤ 2 ^ 19) : d.l.length ≤ 2 ^ 20 := by
  by_cases hl : d.l = []
  · rw [hl]; simp
  · have := h.lo hl; have := h.hi hl; omega
theorem Digs.drop {l : List Int} (h : Digs l) (k : Nat) : Digs (l.drop k) := fun d hd => h d (List.mem_of_mem_drop hd)
theorem Digs.take {l : List Int} (h : Digs l) (k : Nat) : Digs (l.take k) := fun d hd => h d (List.mem_of_mem_take hd)
/-! 'Mul' -/
section
variable {a b : Nat → Int} (ha : ∀ j, 0 ≤ a j ∧ a j < 65536) (hb : ∀ j, 0 ≤ b j ∧ b j < 65536)
include ha hb in
end
section
variable {a b : Nat → Int} {lb k u : Nat} {f : Nat → Int}
end
end Go.Sx

set_option linter.unusedVariables false
set_option linter.unusedSimpArgs false
/-! ### what a float is worth -/
namespace Go.Sx
def pNeg (b : Nat) : Bool := decide ((b : Int) / 9223372036854775808 = 1)
def pE₀ (b : Nat) : Int := (b : Int) / 4503599627370496 % 2048
def pM₀ (b : Nat) : Int := (b : Int) % 4503599627370496
def pM (b : Nat) : Int := if pE₀ b = 2047 then 0 else if pE₀ b = 0 then pM₀ b else pM₀ b + 4503599627370496
def pE (b : Nat) : Int := if pE₀ b = 2047 then 0 else if pE₀ b = 0 then -1074 else pE₀ b - 1075
def pK (b : Nat) : Int := if pE₀ b = 2047 ∧ pM₀ b = 0 then 1 else if pE₀ b = 2047 then 2 else 0
end Go.Sx
