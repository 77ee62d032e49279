/- A part of the proofs of this seat: SxZ. No condition is set. -/
import Derived.Test.YtfnjkmdcmokciaaSxY
import Derived.Test.YtfnjkmdcmokciaaLF
set_option linter.unusedVariables false
set_option linter.unusedSimpArgs false
namespace Go.Sx
theorem sc_all {cs xs : List AV} (h : xs.length = cs.length) : sc cs 0 xs = xs := by
  apply List.ext_getElem?
  intro i
  rw [sc_get _ _ _ _ (by omega)]
  by_cases hi : i < xs.length
  · rw [if_pos (by omega)]; simp
  · rw [if_neg (by omega), List.getElem?_eq_none (by omega), List.getElem?_eq_none (by omega)]
section
variable {P : Program} {cfg : Cfg} {e : List (Nat × EV)} {L : List (Nat × List AV)} {H N : List (List AV)} {K : St → Prop}
variable {ty : TypeId} {pos : String} {aft : Array Edge} {gd : Option (Nat × Bool)} {dd : Nat}
/-- a whole block is written over -/
theorem b_cpyF {t tx el el' : TypeId} {z' : Nat} {s x : Operand} {n i g q m : Nat} {tag : Option (Nat × Nat)} {xs cs : List AV} {A N N' : List (List AV)} [si : SlI P t el 1] [sj : SlI P tx el' z'] (hs : St.ev ⟨e, L, A ++ N⟩ s = .val (.slm (n + i) g 0 q 1)) (hx : St.ev ⟨e, L, A ++ N⟩ x = .val (.sl tag m xs))
    (hA : A.length = n) (hc : N[i]? = some cs) (hg : cs.length = g) (hq : q = g) (hm : m = g) (hxl : xs.length = g) (hn : cfg.n0 = n) (hN : N.set i xs = N') (h : K ⟨(dd, .val (.int .i64 (g : Int))) :: e, L, A ++ N'⟩) :
    opX P cfg ⟨some dd, .call { callee := .builtin .copy, args := #[s, x], argTypes := #[t, tx] }, ty, pos, aft, gd⟩ K ⟨e, L, A ++ N⟩ := by
  subst hA
  have hsrc : srcX (A ++ N) 1 (.sl tag m xs) = some (m, xs) := src_fz (by omega)
  simp only [opX, opE, List.map_cons, List.map_nil, hs, hx, EV.asV, si.h, si.z, sj.h, sj.z, Option.bind_some, hsrc, cpyX, hg_new rfl hc]
  refine ⟨by omega, trivial, hg, .inl (by omega), by omega, ?_⟩
  have e1 : sc cs 0 (xs.take (min m q * 1)) = xs := by
    rw [show min m q * 1 = xs.length by omega, List.take_length]
    exact sc_all (by omega)
  rw [e1, hs_new rfl hN, show min m q = g by omega]
  exact h
end
theorem v_to {e : List (Nat × EV)} {L : List (Nat × List AV)} {H : List (List AV)} {K : St → Prop} {dd : Nat} (n' : Int) {n : Int} (hw : -9223372036854775808 ≤ n ∧ n ≤ 9223372036854775807) (hn : n = n') (h : K ⟨(dd, .val (.int .i64 n')) :: e, L, H⟩) : valK dd K ⟨e, L, H⟩ (some (True, .int .i64 (IntKind.i64.wrap n))) := by
  subst hn; exact v_w hw h
theorem colk_right {n : Nat} {off ld : Int} {r c k j : Nat} (hG : GoodP n off r c ld) (hk : k < c) (hj : j ≤ r) : RightP n (cOff off r ld k + (j : Int)) ((r - j : Nat) : Int) 1 := by
  obtain ⟨h1, h2, h3, h4⟩ := col_right hG (j := (k : Int)) (by omega) (by omega)
  refine ⟨by omega, by omega, by omega, ?_⟩
  rcases h4 with h4 | h4
  · exact .inl (by omega)
  · by_cases h : j = r
    · exact .inl (by omega)
    · exact .inr (by omega)
theorem colk_vec {l : List Nat} {off ld : Int} {r c k j : Nat} (hG : GoodP l.length off r c ld) (hk : k < c) (hj : j ≤ r) : vecL l (cOff off r ld k + (j : Int)) ((r - j : Nat) : Int) 1 = rml (fun i => mel l off ld (j + i) k) (r - j) := by
  unfold vecL rml
  rw [Int.toNat_natCast]
  refine List.map_congr_left fun i hi => ?_
  have hi' : i < r - j := by simpa using hi
  have := col_pos hG (i := j + i) (t := k) (by omega) hk
  rw [mel_pos]
  congr 1
  omega
/-- a column, divided number by number -/
def dvS (g : Nat → Nat → Nat) (k t : Nat) : Nat → Nat → Nat := fun i j => if k < i ∧ i < k + 1 + t ∧ j = k then fdiv (g i k) (g k k) else g i j
theorem dvS_zero {g : Nat → Nat → Nat} {k : Nat} (i j : Nat) : dvS g k 0 i j = g i j := by unfold dvS; rw [if_neg (by omega)]
theorem dvS_all {g : Nat → Nat → Nat} {k n : Nat} (h : k < n) (i j : Nat) (hi : i < n) : dvS g k (n - (k + 1)) i j = divG g k i j := by
  unfold dvS divG
  by_cases h1 : k < i ∧ j = k
  · rw [if_pos (by omega), if_pos h1]
  · rw [if_neg (by omega), if_neg h1]
theorem dvS_step {g : Nat → Nat → Nat} {k t : Nat} (i j : Nat) : updG (dvS g k t) (k + 1 + t) k (fdiv (dvS g k t (k + 1 + t) k) (g k k)) i j = dvS g k (t + 1) i j := by
  have e1 : dvS g k t (k + 1 + t) k = g (k + 1 + t) k := by unfold dvS; rw [if_neg (by omega)]
  rw [e1]
  unfold updG dvS
  by_cases h1 : i = k + 1 + t ∧ j = k
  · obtain ⟨rfl, rfl⟩ := h1
    rw [if_pos ⟨rfl, rfl⟩, if_pos (by omega)]
  · rw [if_neg h1]
    by_cases h2 : k < i ∧ i < k + 1 + t ∧ j = k
    · rw [if_pos h2, if_pos (by omega)]
    · rw [if_neg h2, if_neg (by omega)]
/-! ### a list that grows while others, too, have become -/
theorem gN_ne {l : List AV} (h : l ≠ []) : gN l = [l] := if_neg h
theorem set_last {α : Type} {A : List α} {x y : α} {i : Nat} (h : i = A.length) : (A ++ [x]).set i y = A ++ [y] := by
  subst h; rw [List.set_append_right _ _ (Nat.le_refl _)]; simp
theorem get_last {α : Type} {A : List α} {x : α} {i : Nat} (h : i = A.length) : (A ++ [x])[i]? = some x := by
  subst h; simp
end Go.Sx
