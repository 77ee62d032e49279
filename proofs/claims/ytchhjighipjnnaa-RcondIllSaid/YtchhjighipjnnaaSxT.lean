/- A part of the proofs of this seat: SxT. No condition is set. -/
import Derived.Test.YtchhjighipjnnaaSxS
set_option linter.unusedVariables false
set_option linter.unusedSimpArgs false
namespace Go.Sx
section
variable {e : List (Nat × EV)} {L : List (Nat × List AV)} {H : List (List AV)} {K : St → Prop} {dd : Nat}
/-! ### whole numbers from 0 on -/
theorem v_addN {x y : Nat} (hb : x + y ≤ 9223372036854775807) (h : K ⟨(dd, .val (.int .i64 ((x + y : Nat) : Int))) :: e, L, H⟩) : valK dd K ⟨e, L, H⟩ (some (True, .int .i64 (IntKind.i64.wrap ((x : Int) + (y : Int))))) :=
  v_w (by omega) (by simpa using h)
theorem v_subN {x y : Nat} (hb : y ≤ x) (hx : x ≤ 9223372036854775807) (h : K ⟨(dd, .val (.int .i64 ((x - y : Nat) : Int))) :: e, L, H⟩) : valK dd K ⟨e, L, H⟩ (some (True, .int .i64 (IntKind.i64.wrap ((x : Int) - (y : Int))))) :=
  v_w (by omega) (by rwa [show ((x : Int) - (y : Int)) = ((x - y : Nat) : Int) from by omega])
theorem v_mulN {x y : Nat} (hb : x * y ≤ 9223372036854775807) (h : K ⟨(dd, .val (.int .i64 ((x * y : Nat) : Int))) :: e, L, H⟩) : valK dd K ⟨e, L, H⟩ (some (True, .int .i64 (IntKind.i64.wrap ((x : Int) * (y : Int))))) := by
  have e1 : ((x : Int) * (y : Int)) = ((x * y : Nat) : Int) := by simp
  rw [e1]
  exact v_w (by omega) h
theorem v_quoN {x y : Nat} (hy : 0 < y) (hx : x ≤ 9223372036854775807) (h : K ⟨(dd, .val (.int .i64 ((x / y : Nat) : Int))) :: e, L, H⟩) : valK dd K ⟨e, L, H⟩ (some ((y : Int) ≠ 0, .int .i64 (IntKind.i64.wrap ((x : Int).tdiv (y : Int))))) :=
  v_qc (by omega) (by omega) (by simpa using h)
theorem v_modN {k : IntKind} {x y : Nat} (hy : 0 < y) (h : K ⟨(dd, .val (.int k ((x % y : Nat) : Int))) :: e, L, H⟩) : valK dd K ⟨e, L, H⟩ (some ((y : Int) ≠ 0, .int k ((x : Int).tmod (y : Int)))) :=
  v_mod (by omega) (by omega) (by simpa using h)
end
section
variable {P : Program} {cfg : Cfg} {e : List (Nat × EV)} {L : List (Nat × List AV)} {H : List (List AV)} {K : St → Prop} {ty : TypeId} {pos : String} {aft : Array Edge} {gd : Option (Nat × Bool)} {dd : Nat}
theorem b_binB {t t' : TypeId} [u : UI P t .bool] {x y : Operand} {p q : Bool} (hx : St.ev ⟨e, L, H⟩ x = .val (.bool p)) (hy : St.ev ⟨e, L, H⟩ y = .val (.bool q)) (h : valK dd K ⟨e, L, H⟩ (some (True, .bool (p == q)))) :
    opX P cfg ⟨some dd, .binOp .eql t x y t', ty, pos, aft, gd⟩ K ⟨e, L, H⟩ := by
  refine b_bin hx hy (r := some (True, .bool (p == q))) ?_ h
  simp only [binV, u.h]
theorem b_binBn {t t' : TypeId} [u : UI P t .bool] {x y : Operand} {p q : Bool} (hx : St.ev ⟨e, L, H⟩ x = .val (.bool p)) (hy : St.ev ⟨e, L, H⟩ y = .val (.bool q)) (h : valK dd K ⟨e, L, H⟩ (some (True, .bool (p != q)))) :
    opX P cfg ⟨some dd, .binOp .neq t x y t', ty, pos, aft, gd⟩ K ⟨e, L, H⟩ := by
  refine b_bin hx hy (r := some (True, .bool (p != q))) ?_ h
  simp only [binV, u.h]
theorem v_bbT {x y : Bool} (h : x = y) (hk : K ⟨(dd, .val (.bool true)) :: e, L, H⟩) : valK dd K ⟨e, L, H⟩ (some (True, .bool (x == y))) := by
  subst h; simp only [beq_self_eq_true]; exact ⟨trivial, hk⟩
theorem v_bbF {x y : Bool} (h : x ≠ y) (hk : K ⟨(dd, .val (.bool false)) :: e, L, H⟩) : valK dd K ⟨e, L, H⟩ (some (True, .bool (x == y))) := by
  have : (x == y) = false := by simpa using h
  rw [this]; exact ⟨trivial, hk⟩
end
theorem k_mnB {q : Bool} {nY : NY} {o : Oper} {e e' : List (Nat × EV)} {L : List (Nat × List AV)} {A N N' M : List (List AV)} {K : St → Prop} (hN : N ++ M = N') (h : K ⟨e', L, A ++ N'⟩) : ckK (.mn q) nY o ⟨e, L, A ++ N⟩ K ⟨e', L, A ++ N'⟩ := by
  subst hN
  rw [← List.append_assoc] at h ⊢
  exact k_mnA h
theorem plV_T {n : Nat} {off rows cols ld i j : Int} (h : PlaceP n off rows cols ld i j) : plV n off rows cols ld i j = off + i + j * ld ∧ 0 ≤ plV n off rows cols ld i j := by
  have h1 : plV n off rows cols ld i j = off + i + j * ld := by rw [plV, if_pos h]
  obtain ⟨h2, h3, h4, h5, h6⟩ := h
  exact ⟨h1, by rw [h1]; exact (good_place h2 h3 h4 h5 h6).2.1⟩
theorem plV_F {n : Nat} {off rows cols ld i j : Int} (h : ¬ PlaceP n off rows cols ld i j) : plV n off rows cols ld i j = -1 := by rw [plV, if_neg h]
/-- a list of floats that is handed in -/
def aD (p : Nat × Nat) (l : List Nat) : AV := .sl (if l = [] then none else some p) l.length (fl l)
theorem aD_FL (H : List (List AV)) (p : Nat × Nat) (l : List Nat) : FL H (aD p l) l := FL.fz H _ l
theorem aD_len (p : Nat × Nat) (l : List Nat) : slen (aD p l) = some l.length := rfl
theorem aD_same (H : List (List AV)) (p : Nat × Nat) (l : List Nat) (h : 0 < l.length) : ptrEq H (aD p l) 0 (aD p l) 0 = some true := by
  cases l with
  | nil => simp at h
  | cons a l => simp [aD, ptrEq]
theorem aD_new {A N : List (List AV)} {n j g o len sz : Nat} {cs : List AV} (p : Nat × Nat) (l : List Nat) (h : 0 < l.length) (hA : A.length = n) (hj : N[j]? = some cs) (hg : cs.length = g) : ptrEq (A ++ N) (aD p l) 0 (.slm (n + j) g o len sz) 0 = some false := by
  have := hg_new hA hj
  cases l with
  | nil => simp at h
  | cons a l => simp [aD, fl, ptrEq, curG, this, hg]
/-- a part of a list of floats -/
theorem FL.slc {H : List (List AV)} {D : AV} {l : List Nat} (h : FL H D l) {a b : Nat} (hab : a ≤ b) (hb : b ≤ l.length) : ∃ D', slcV 1 a b D = some D' ∧ FL H D' ((l.drop a).take (b - a)) := by
  have e1 : ((l.drop a).take (b - a)).length = b - a := by simp; omega
  have nil : a = b → FL H (.sl none 0 []) ((l.drop a).take (b - a)) := by
    intro hh; subst hh
    simp only [Nat.sub_self, List.take_zero]
    exact FL.fz H none []
  cases D with
  | slnil =>
    have := h.len
    simp only [slen, Option.some.injEq] at this
    exact ⟨_, rfl, nil (by omega)⟩
  | sl tag len cells =>
    have h1 := h.all (by simp)
    have hl := h.len
    simp only [sread, slen, Option.some.injEq] at h1 hl
    simp only [slcV]
    by_cases hlt : a < b
    · rw [if_pos hlt]
      refine ⟨_, rfl, by simp only [slen]; rw [e1], fun _ => ?_, by simp, ?_⟩
      rotate_left
      · have := h.mx
        simp only [Sx.mx] at this ⊢
        rw [mxL_le] at this ⊢
        intro i c hi
        rw [List.getElem?_take] at hi
        split at hi
        · rw [List.getElem?_drop] at hi; exact this _ c hi
        · simp at hi
      simp only [sread, Nat.mul_one]
      rw [e1]
      obtain ⟨g1, g2⟩ := gc_get h1
      have hc : l.length ≤ cells.length := by
        rcases Nat.lt_or_ge (l.length - 1) cells.length with hh | hh
        · omega
        · have := g2 (l.length - 1) (by omega)
          rw [Nat.zero_add, List.getElem?_eq_none hh] at this
          simp [fl] at this; omega
      rw [gc_all _ (by simp; omega)]
      congr 1
      apply List.ext_getElem?
      intro i
      by_cases hi : i < b - a
      · rw [List.getElem?_take_of_lt hi, List.getElem?_drop]
        have := g2 (a + i) (by omega)
        rw [Nat.zero_add] at this
        rw [← this]
        simp [fl, List.getElem?_take, hi]
      · rw [List.getElem?_eq_none (by simp; omega), List.getElem?_eq_none (by simp; omega)]
    · rw [if_neg hlt]; exact ⟨_, rfl, nil (by omega)⟩
  | slm id gen o len sz =>
    have hz := h.one _ _ _ _ _ rfl
    subst hz
    have h1 := h.all (by simp)
    have hl := h.len
    simp only [slen, Option.some.injEq] at hl
    simp only [slcV, if_true]
    by_cases hlt : a < b
    · rw [if_pos hlt]
      refine ⟨_, rfl, by simp only [slen]; rw [e1], fun _ => ?_, by simp; omega, h.mx⟩
      simp only [sread, Nat.add_zero, Nat.mul_one] at h1 ⊢
      rw [e1]
      cases hi : H[id]? with
      | none => rw [hi] at h1; simp at h1
      | some cs =>
        rw [hi] at h1
        simp only [Option.bind_some] at h1 ⊢
        split at h1
        case isFalse => simp at h1
        rename_i hg
        rw [if_pos hg]
        obtain ⟨g1, g2⟩ := gc_get h1
        have hc : o + l.length ≤ cs.length := by
          rcases Nat.lt_or_ge (o + (l.length - 1)) cs.length with hh | hh
          · omega
          · have := g2 (l.length - 1) (by omega)
            rw [List.getElem?_eq_none hh] at this
            simp [fl] at this; omega
        rw [gc_take _ _ _ (by omega)]
        congr 1
        apply List.ext_getElem?
        intro i
        by_cases hi : i < b - a
        · rw [List.getElem?_take_of_lt hi, List.getElem?_drop]
          have := g2 (a + i) (by omega)
          rw [show o + a + i = o + (a + i) from by omega, ← this]
          simp [fl, List.getElem?_take, hi]
        · rw [List.getElem?_eq_none (by simp; omega), List.getElem?_eq_none (by simp; omega)]
    · rw [if_neg hlt]; exact ⟨_, rfl, nil (by omega)⟩
  | junk | bool _ | int _ _ | flt _ | fraw _ | str _ | eptr _ _ | agg _ | tup _ | func _ _ _ | raw _ => have := h.len; simp [slen] at this

theorem set_self {α : Type} {l : List α} {i : Nat} {a : α} (h : l[i]? = some a) : l.set i a = l := by
  apply List.ext_getElem?
  intro j
  rw [List.getElem?_set]
  split
  · rename_i hj; subst hj; split
    · exact h.symm
    · rename_i hl; have := (List.getElem?_eq_some_iff.1 h).1; omega
  · rfl

theorem gk_consF {e : List (Nat × EV)} {L : List (Nat × List AV)} {H : List (List AV)} {b : Nat} {xs : List Operand} {acc : List AV} {k : List AV → Prop} (hb : (decide (b < 2 ^ 64) && !isNaN b) = true) (h : gK xs (acc ++ [.flt b]) k ⟨e, L, H⟩) : gK (.const (.float .f64 b) :: xs) acc k ⟨e, L, H⟩ := by
  simp only [Bool.and_eq_true, decide_eq_true_eq, Bool.not_eq_true'] at hb
  refine gk_cons (v := .flt b) ?_ h
  have : aOf (.float .f64 b) = .flt b := by
    show aOf1 (.float .f64 b) = .flt b
    simp only [aOf1, hb.1, if_true, cn, hb.2, Bool.false_eq_true, if_false]
  show EV.val (aOf (.float .f64 b)) = _
  rw [this]
theorem gk_nilN {e : List (Nat × EV)} {L : List (Nat × List AV)} {H : List (List AV)} {acc acc' : List AV} {k : List AV → Prop} (ha : acc = acc') (h : k acc') : gK [] acc k ⟨e, L, H⟩ := by
  subst ha; exact gk_nil h

/-- a new block's list -/
theorem FL.blk {A N : List (List AV)} {n j g q : Nat} {l : List Nat} (hA : A.length = n) (hj : N[j]? = some (fl l)) (hg : g = l.length) (hq : q = l.length) : FL (A ++ N) (.slm (n + j) g 0 q 1) l :=
  FL.slm (hg_new hA hj) hg (by omega) (by subst hq; simp)
/-- a block's -/
theorem FL.old {H : List (List AV)} {id g q : Nat} {l : List Nat} (hj : H[id]? = some (fl l)) (hg : g = l.length) (hq : q = l.length) : FL H (.slm id g 0 q 1) l :=
  FL.slm hj hg (by omega) (by subst hq; simp)

/-! ### a new matrix, its numbers told row by row -/
def dIx (r c k : Nat) : Nat := k / c + k % c * max r 1
def denseN (r c : Nat) (l : List Nat) : Nat → List Nat
  | 0 => List.replicate (r * c) 0
  | k + 1 => (denseN r c l k).set (dIx r c k) (l.getD k 0)
def denseL (r c : Nat) (l : List Nat) : List Nat := denseN r c (l.take (min l.length (r * c))) (min l.length (r * c))
@[simp] theorem denseN_len (r c : Nat) (l : List Nat) : ∀ k, (denseN r c l k).length = r * c
  | 0 => by simp [denseN]
  | k + 1 => by simp [denseN, denseN_len r c l k]
@[simp] theorem denseL_len (r c : Nat) (l : List Nat) : (denseL r c l).length = r * c := by simp [denseL]
theorem dIx_lt {r c k : Nat} (h : k < r * c) : dIx r c k < r * c := by
  unfold dIx
  have hc : 0 < c := by rcases Nat.eq_zero_or_pos c with h0 | h0; · subst h0; simp at h
                        · exact h0
  have hr : 0 < r := by rcases Nat.eq_zero_or_pos r with h0 | h0; · subst h0; simp at h
                        · exact h0
  have h1 : k / c < r := (Nat.div_lt_iff_lt_mul hc).2 h
  have h2 : k % c ≤ c - 1 := by have := Nat.mod_lt k hc; omega
  have h3 : k % c * max r 1 ≤ (c - 1) * r := by rw [Nat.max_eq_left hr]; exact Nat.mul_le_mul_right _ h2
  have h4 : (c - 1) * r + r = r * c := by
    rw [← Nat.succ_mul, show (c - 1).succ = c from by omega, Nat.mul_comm]
  omega

end Go.Sx
