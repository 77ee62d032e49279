/- A part of the proofs of this seat: Sx6. No condition is set. -/
import Derived.Test.YtchhjighipjnnaaSx5
set_option linter.unusedVariables false
namespace Go.Sx
section
variable {C : Cx} {st : St} {a : Act} {w : World} {g : Gh} {lam : Nat → Nat}

theorem aOf1_rep (w : World) (g : Gh) (v : Value) : VRep w g (aOf1 v) v := by
  unfold aOf1
  split <;> try (simp [VRep]; done)
  split
  · rename_i b hb
    simp only [VRep]
    exact ⟨_, rfl, hb, rfl⟩
  · simp [VRep]
theorem aOf_rep (w : World) (g : Gh) (v : Value) : VRep w g (aOf v) v := by
  unfold aOf
  split
  · rename_i cs
    split
    case isFalse => simp [VRep]
    rename_i hall
    simp only [VRep]
    refine ⟨cs, rfl, fun x hx => List.all_eq_true.1 hall x hx, LRep_iff.2 ⟨by simp, fun i c v h1 h2 => ?_⟩⟩
    simp only [List.getElem?_map, h2, Option.map_some, Option.some.injEq] at h1
    subst h1
    exact aOf1_rep w g v
  · exact aOf1_rep w g _

theorem SRepG.ev (h : SRepG C st a w g lam) (x : Operand) : ERep w g lam (st.ev x) (a.eval x) := by
  cases x with
  | tmp t =>
    simp only [St.ev]
    cases he : lk st.env t with
    | none => simp [ERep, VRep]
    | some e =>
      obtain ⟨x, h1, h2⟩ := h.env t e he
      have : a.eval (.tmp t) = x := by
        obtain ⟨hlt, h1⟩ := Array.getElem?_eq_some_iff.1 h1
        simp [Act.eval, Array.getD, hlt, h1]
      rw [this]; exact h2
  | const v => exact aOf_rep w g v
  | global n => simp [St.ev, ERep, VRep]
  | func f => simp [St.ev, ERep, VRep, Act.eval, LRep]

theorem SRepG.evV (h : SRepG C st a w g lam) {x : Operand} {v : AV} (hx : st.ev x = .val v) : VRep w g v (a.eval x) := by
  have := h.ev x; rw [hx] at this; exact this
theorem SRepG.evL (h : SRepG C st a w g lam) {x : Operand} {k o : Nat} (hx : st.ev x = .loc k o) : a.eval x = .pointer (some ⟨lam k, o, none⟩) := by
  have := h.ev x; rw [hx] at this; exact this
theorem asB_eq {e : EV} {b : Bool} (h : e.asB = some b) : e = .val (.bool b) := by
  unfold EV.asB at h; split at h <;> simp_all
theorem asI_eq {e : EV} {k : IntKind} {n : Int} (h : e.asI = some (k, n)) : e = .val (.int k n) := by
  unfold EV.asI at h; split at h <;> simp_all
theorem asV_eq {e : EV} {v : AV} (h : e.asV = some v) : e = .val v := by
  unfold EV.asV at h; split at h <;> simp_all
theorem tailI_eq {e : EV} {n : Int} (h : tailI e = some n) : ∃ k, e = .val (.int k n) := by
  unfold tailI at h; split at h <;> simp_all
theorem SRepG.evB (h : SRepG C st a w g lam) {x : Operand} {b : Bool} (hx : (st.ev x).asB = some b) : a.eval x = .bool b := by
  have := h.evV (asB_eq hx); simpa [VRep] using this
theorem SRepG.evI (h : SRepG C st a w g lam) {x : Operand} {k : IntKind} {n : Int} (hx : (st.ev x).asI = some (k, n)) : a.eval x = .int k n := by
  have := h.evV (asI_eq hx); simpa [VRep] using this
theorem asF_rep {v : AV} {x : Nat} {y : Value} (h : v.asF = some x) (hv : VRep w g v y) : ∃ b, y = .float .f64 b ∧ b < 2 ^ 64 ∧ cn b = x := by
  unfold AV.asF at h
  split at h
  · simp only [Option.some.injEq] at h; subst h; simpa [VRep] using hv
  · simp only [Option.some.injEq] at h; subst h; simp only [VRep] at hv; exact ⟨_, hv.1, hv.2, rfl⟩
  · simp at h

/-! ### floats -/
theorem read_qn : Ieee.double.read qn = .nan false 2251799813685248 := by decide
theorem nan_read {b : Nat} (h : isNaN b = true) : ∃ s t, Ieee.double.read b = .nan s t := by
  unfold isNaN Ieee.Datum.isNaN at h
  split at h
  · rename_i s t hh; exact ⟨s, t, hh⟩
  · simp at h
theorem cn_cases (b : Nat) : (isNaN b = true ∧ cn b = qn) ∨ (isNaN b = false ∧ cn b = b) := by
  unfold cn; cases h : isNaN b <;> simp
theorem bin_cn (f : Ieee.Datum → Ieee.Datum → Option Ieee.Datum) (hl : ∀ s t d, f (.nan s t) d = none) (hr : ∀ s t d, f d (.nan s t) = none) (a b : Nat) :
    f (Ieee.double.read (cn a)) (Ieee.double.read (cn b)) = f (Ieee.double.read a) (Ieee.double.read b) := by
  rcases cn_cases a with ⟨ha, ea⟩ | ⟨_, ea⟩ <;> rcases cn_cases b with ⟨hb, eb⟩ | ⟨_, eb⟩ <;> rw [ea, eb]
  · obtain ⟨s, t, h1⟩ := nan_read ha; rw [read_qn, hl, h1, hl]
  · obtain ⟨s, t, h1⟩ := nan_read ha; rw [read_qn, hl, h1, hl]
  · obtain ⟨s, t, h1⟩ := nan_read hb; rw [read_qn, hr, h1, hr]
theorem add_cn (a b : Nat) : Ieee.double.add (cn a) (cn b) = Ieee.double.add a b := by
  unfold Ieee.Format.add
  rw [bin_cn Ieee.Datum.sum (fun s t d => by cases d <;> rfl) (fun s t d => by cases d <;> rfl)]
theorem sub_cn (a b : Nat) : Ieee.double.sub (cn a) (cn b) = Ieee.double.sub a b := by
  unfold Ieee.Format.sub
  rw [bin_cn (fun x y => x.sum y.opposite) (fun s t d => by cases d <;> rfl) (fun s t d => by cases d <;> rfl)]
theorem mul_cn (a b : Nat) : Ieee.double.mul (cn a) (cn b) = Ieee.double.mul a b := by
  unfold Ieee.Format.mul
  rw [bin_cn Ieee.Datum.product (fun s t d => by cases d <;> rfl) (fun s t d => by cases d <;> rfl)]
theorem div_cn (a b : Nat) : Ieee.double.div (cn a) (cn b) = Ieee.double.div a b := by
  unfold Ieee.Format.div
  rw [bin_cn (Ieee.Datum.quotient _) (fun s t d => by cases d <;> rfl) (fun s t d => by cases d <;> rfl)]
theorem order_cn (a b : Nat) : Ieee.double.order (cn a) (cn b) = Ieee.double.order a b := by
  unfold Ieee.Format.order
  rcases cn_cases a with ⟨ha, ea⟩ | ⟨_, ea⟩ <;> rcases cn_cases b with ⟨hb, eb⟩ | ⟨_, eb⟩ <;> rw [ea, eb]
  · obtain ⟨s, t, h1⟩ := nan_read ha; obtain ⟨s', t', h2⟩ := nan_read hb; rw [read_qn, h1, h2]; rfl
  · obtain ⟨s, t, h1⟩ := nan_read ha; rw [read_qn, h1]; cases Ieee.double.read b <;> rfl
  · obtain ⟨s, t, h1⟩ := nan_read hb; rw [read_qn, h1]; cases Ieee.double.read a <;> rfl
theorem cn_qn : cn qn = qn := by decide
theorem isNaN_big (t : Nat) : isNaN ((t % 2) * 2 ^ 63 + 0x7ff0000000000000 + 1 + (t / 2) % (2 ^ 52 - 1)) = true ∧ (t % 2) * 2 ^ 63 + 0x7ff0000000000000 + 1 + (t / 2) % (2 ^ 52 - 1) < 2 ^ 64 := by
  have h1 : t % 2 < 2 := Nat.mod_lt _ (by omega)
  have h2 : (t / 2) % (2 ^ 52 - 1) < 2 ^ 52 - 1 := Nat.mod_lt _ (by omega)
  generalize (t / 2) % (2 ^ 52 - 1) = r at h2 ⊢
  generalize t % 2 = s at h1 ⊢
  refine ⟨?_, by omega⟩
  have e1 : Ieee.double.signWeight = 2 ^ 63 := by decide
  have e2 : Ieee.double.binade = 2 ^ 52 := by decide
  have e3 : Ieee.double.infRung = 0x7ff0000000000000 := by decide
  have e4 : (s * 2 ^ 63 + 0x7ff0000000000000 + 1 + r) % 2 ^ 63 = 0x7ff0000000000000 + 1 + r := by omega
  unfold isNaN Ieee.Format.read
  simp only [e1, e2, e3, e4]
  rw [if_neg (by omega), if_neg (by omega), if_neg (by omega)]
  rfl
theorem cut_nan (x y t : Nat) : cn ((Question.nanBits .f64 x y).cut t) = qn ∧ (Question.nanBits .f64 x y).cut t < 2 ^ 64 := by
  have h := isNaN_big t
  simp only [Question.cut]
  exact ⟨by unfold cn; rw [if_pos h.1], h.2⟩

theorem fa_run (P : Program) (w : World) (op : BinOp) (f : Nat → Nat → Option Nat) (x y : Nat) (hop : ∀ x y, floatBits op .f64 x y = f x y) (hcn : f (cn x) (cn y) = f x y)
    (hb : op = .add ∨ op = .sub ∨ op = .mul ∨ op = .quo) (t : TypeId) :
    ∃ r w', (binOp op t (.float .f64 x) (.float .f64 y)).run P w = .ok (.float .f64 r) w' ∧ w'.heap = w.heap ∧ Sames w w' ∧ r < 2 ^ 64 ∧ cn r = fop f (cn x) (cn y) := by
  cases hf : f x y with
  | some r =>
    have hfb : floatBits op .f64 x y = some r := by rw [hop, hf]
    refine ⟨r, w, run_float_arith w op t .f64 x y r hfb, rfl, ⟨rfl, rfl, rfl⟩, ?_, ?_⟩
    · have := floatBits_wf hfb; simpa [Lit.wf] using this
    · simp [fop, hcn, hf]
  | none =>
    have hr : (binOp op t (.float .f64 x) (.float .f64 y)).run P w = .ok (.float .f64 ((Question.nanBits .f64 x y).cut (w.tape w.drawn (.nanBits .f64 x y)))) { w with drawn := w.drawn + 1 } := by
      have hfb : floatBits op .f64 x y = none := by rw [hop, hf]
      unfold floatBits at hfb
      rcases hb with rfl | rfl | rfl | rfl <;> simp only at hfb <;> simp [binOp, Op.floatArith, hfb, choose, Sem.run, Question.forced]
    obtain ⟨h1, h2⟩ := cut_nan x y (w.tape w.drawn (.nanBits .f64 x y))
    exact ⟨_, _, hr, rfl, ⟨rfl, rfl, rfl⟩, h2, by rw [h1]; simp [fop, hcn, hf]⟩
theorem lt_swap (a b : Nat) : (Ieee.double.order a b == some .gt) = (Ieee.double.order b a == some .lt) := by
  unfold Ieee.Format.order
  generalize Ieee.double.read a = x; generalize Ieee.double.read b = y
  cases x <;> cases y <;> try rfl
  · rename_i s m i t n j
    simp only [Ieee.Datum.order]
    rw [show min j i = min i j from Int.min_comm _ _]
    generalize Ieee.signed s m (i - min i j).toNat = p; generalize Ieee.signed t n (j - min i j).toNat = q
    simp only [compare, compareOfLessAndEq]
    by_cases h1 : p < q
    · simp [h1, show ¬ q < p from by omega, show ¬ q = p from by omega]
    · by_cases h2 : p = q
      · subst h2; simp
      · simp [h1, h2, show q < p from by omega]
  · rename_i s m i t; cases t <;> rfl
  · rename_i s t n j; cases s <;> rfl
  · rename_i s t; cases s <;> cases t <;> rfl
end
end Go.Sx
