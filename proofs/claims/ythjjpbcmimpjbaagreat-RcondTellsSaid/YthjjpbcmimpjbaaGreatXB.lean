/- A part of the proofs of this seat: XB. No condition is set. -/
import Derived.Test.YthjjpbcmimpjbaaGreatXA
set_option linter.unusedVariables false
namespace Go.Sx
section
variable {C : Cx} {st : St} {a : Act} {w : World} {g : Gh} {lam : Nat → Nat}

theorem aOf1_rep (w : World) (g : Gh) (v : Value) : VRep w g (aOf1 v) v := by
  unfold aOf1
  split <;> try (simp [VRep]; done)
  split
  · rename_i b hb
    simp only [VRep]
    exact ⟨_, rfl, hb, rfl⟩
  · simp [VRep]
theorem aOf_rep (w : World) (g : Gh) (v : Value) : VRep w g (aOf v) v := by
  unfold aOf
  split
  · rename_i cs
    split
    case isFalse => simp [VRep]
    rename_i hall
    simp only [VRep]
    refine ⟨cs, rfl, fun x hx => List.all_eq_true.1 hall x hx, LRep_iff.2 ⟨by simp, fun i c v h1 h2 => ?_⟩⟩
    simp only [List.getElem?_map, h2, Option.map_some, Option.some.injEq] at h1
    subst h1
    exact aOf1_rep w g v
  · exact aOf1_rep w g _

theorem SRepG.ev (h : SRepG C st a w g lam) (x : Operand) : ERep w g lam (st.ev x) (a.eval x) := by
  cases x with
  | tmp t =>
    simp only [St.ev]
    cases he : lk st.env t with
    | none => simp [ERep, VRep]
    | some e =>
      obtain ⟨x, h1, h2⟩ := h.env t e he
      have : a.eval (.tmp t) = x := by
        obtain ⟨hlt, h1⟩ := Array.getElem?_eq_some_iff.1 h1
        simp [Act.eval, Array.getD, hlt, h1]
      rw [this]; exact h2
  | const v => exact aOf_rep w g v
  | global n => simp [St.ev, ERep, VRep]
  | func f => simp [St.ev, ERep, VRep, Act.eval, LRep]

theorem SRepG.evV (h : SRepG C st a w g lam) {x : Operand} {v : AV} (hx : st.ev x = .val v) : VRep w g v (a.eval x) := by
  have := h.ev x; rw [hx] at this; exact this
theorem SRepG.evL (h : SRepG C st a w g lam) {x : Operand} {k o : Nat} (hx : st.ev x = .loc k o) : a.eval x = .pointer (some ⟨lam k, o, none⟩) := by
  have := h.ev x; rw [hx] at this; exact this
theorem asB_eq {e : EV} {b : Bool} (h : e.asB = some b) : e = .val (.bool b) := by
  unfold EV.asB at h; split at h <;> simp_all
theorem asI_eq {e : EV} {k : IntKind} {n : Int} (h : e.asI = some (k, n)) : e = .val (.int k n) := by
  unfold EV.asI at h; split at h <;> simp_all
theorem asV_eq {e : EV} {v : AV} (h : e.asV = some v) : e = .val v := by
  unfold EV.asV at h; split at h <;> simp_all
theorem tailI_eq {e : EV} {n : Int} (h : tailI e = some n) : ∃ k, e = .val (.int k n) := by
  unfold tailI at h; split at h <;> simp_all
theorem SRepG.evB (h : SRepG C st a w g lam) {x : Operand} {b : Bool} (hx : (st.ev x).asB = some b) : a.eval x = .bool b := by
  have := h.evV (asB_eq hx); simpa [VRep] using this
theorem SRepG.evI (h : SRepG C st a w g lam) {x : Operand} {k : IntKind} {n : Int} (hx : (st.ev x).asI = some (k, n)) : a.eval x = .int k n := by
  have := h.evV (asI_eq hx); simpa [VRep] using this
theorem asF_rep {v : AV} {x : Nat} {y : Value} (h : v.asF = some x) (hv : VRep w g v y) : ∃ b, y = .float .f64 b ∧ b < 2 ^ 64 ∧ cn b = x := by
  unfold AV.asF at h
  split at h
  · simp only [Option.some.injEq] at h; subst h; simpa [VRep] using hv
  · simp only [Option.some.injEq] at h; subst h; simp only [VRep] at hv; exact ⟨_, hv.1, hv.2, rfl⟩
  · simp at h

/-! ### floats -/
theorem read_qn : Ieee.double.read qn = .nan false 2251799813685248 := by decide
theorem nan_read {b : Nat} (h : isNaN b = true) : ∃ s t, Ieee.double.read b = .nan s t := by
  unfold isNaN Ieee.Datum.isNaN at h
  split at h
  · rename_i s t hh; exact ⟨s, t, hh⟩
  · simp at h
theorem cn_cases (b : Nat) : (isNaN b = true ∧ cn b = qn) ∨ (isNaN b = false ∧ cn b = b) := by
  unfold cn; cases h : isNaN b <;> simp
theorem bin_cn (f : Ieee.Datum → Ieee.Datum → Option Ieee.Datum) (hl : ∀ s t d, f (.nan s t) d = none) (hr : ∀ s t d, f d (.nan s t) = none) (a b : Nat) :
    f (Ieee.double.read (cn a)) (Ieee.double.read (cn b)) = f (Ieee.double.read a) (Ieee.double.read b) := by
  rcases cn_cases a with ⟨ha, ea⟩ | ⟨_, ea⟩ <;> rcases cn_cases b with ⟨hb, eb⟩ | ⟨_, eb⟩ <;> rw [ea, eb]
  · obtain ⟨s, t, h1⟩ := nan_read ha; rw [read_qn, hl, h1, hl]
  · obtain ⟨s, t, h1⟩ := nan_read ha; rw [read_qn, hl, h1, hl]
  · obtain ⟨s, t, h1⟩ := nan_read hb; rw [read_qn, hr, h1, hr]
theorem add_cn (a b : Nat) : Ieee.double.add (cn a) (cn b) = Ieee.double.add a b := by
  unfold Ieee.Format.add
  rw [bin_cn Ieee.Datum.sum (fun s t d => by cases d <;> rfl) (fun s t d => by cases d <;> rfl)]
theorem sub_cn (a b : Nat) : Ieee.double.sub (cn a) (cn b) = Ieee.double.sub a b := by
  unfold Ieee.Format.sub
  rw [bin_cn (fun x y => x.sum y.opposite) (fun s t d => by cases d <;> rfl) (fun s t d => by cases d <;> rfl)]
theorem mul_cn (a b : Nat) : Ieee.double.mul (cn a) (cn b) = Ieee.double.mul a b := by
  unfold Ieee.Format.mul
  rw [bin_cn Ieee.Datum.product (fun s t d => by cases d <;> rfl) (fun s t d => by cases d <;> rfl)]
theorem div_cn (a b : Nat) : Ieee.double.div (cn a) (cn b) = Ieee.double.div a b := by
  unfold Ieee.Format.div
  rw [bin_cn (Ieee.Datum.quotient _) (fun s t d => by cases d <;> rfl) (fun s t d => by cases d <;> rfl)]
theorem order_cn (a b : Nat) : Ieee.double.order (cn a) (cn b) = Ieee.double.order a b := by
  unfold Ieee.Format.order
  rcases cn_cases a with ⟨ha, ea⟩ | ⟨_, ea⟩ <;> rcases cn_cases b with ⟨hb, eb⟩ | ⟨_, eb⟩ <;> rw [ea, eb]
  · obtain ⟨s, t, h1⟩ := nan_read ha; obtain ⟨s', t', h2⟩ := nan_read hb; rw [read_qn, h1, h2]; rfl
  · obtain ⟨s, t, h1⟩ := nan_read ha; rw [read_qn, h1]; cases Ieee.double.read b <;> rfl
  · obtain ⟨s, t, h1⟩ := nan_read hb; rw [read_qn, h1]; cases Ieee.double.read a <;> rfl
theorem cn_qn : cn qn = qn := by decide
theorem isNaN_big (t : Nat) : isNaN ((t % 2) * 2 ^ 63 + 0x7ff0000000000000 + 1 + (t / 2) % (2 ^ 52 - 1)) = true ∧ (t % 2) * 2 ^ 63 + 0x7ff0000000000000 + 1 + (t / 2) % (2 ^ 52 - 1) < 2 ^ 64 := by
  have h1 : t % 2 < 2 := Nat.mod_lt _ (by omega)
  have h2 : (t / 2) % (2 ^ 52 - 1) < 2 ^ 52 - 1 := Nat.mod_lt _ (by omega)
  generalize (t / 2) % (2 ^ 52 - 1) = r at h2 ⊢
  generalize t % 2 = s at h1 ⊢
  refine ⟨?_, by omega⟩
  have e1 : Ieee.double.signWeight = 2 ^ 63 := by decide
  have e2 : Ieee.double.binade = 2 ^ 52 := by decide
  have e3 : Ieee.double.infRung = 0x7ff0000000000000 := by decide
  have e4 : (s * 2 ^ 63 + 0x7ff0000000000000 + 1 + r) % 2 ^ 63 = 0x7ff0000000000000 + 1 + r := by omega
  unfold isNaN Ieee.Format.read
  simp only [e1, e2, e3, e4]
  rw [if_neg (by omega), if_neg (by omega), if_neg (by omega)]
  rfl
theorem cut_nan (x y t : Nat) : cn ((Question.nanBits .f64 x y).cut t) = qn ∧ (Question.nanBits .f64 x y).cut t < 2 ^ 64 := by
  have h := isNaN_big t
  simp only [Question.cut]
  exact ⟨by unfold cn; rw [if_pos h.1], h.2⟩

theorem fa_run (P : Program) (w : World) (op : BinOp) (f : Nat → Nat → Option Nat) (x y : Nat) (hop : ∀ x y, floatBits op .f64 x y = f x y) (hcn : f (cn x) (cn y) = f x y)
    (hb : op = .add ∨ op = .sub ∨ op = .mul ∨ op = .quo) (t : TypeId) :
    ∃ r w', (binOp op t (.float .f64 x) (.float .f64 y)).run P w = .ok (.float .f64 r) w' ∧ w'.heap = w.heap ∧ Sames w w' ∧ r < 2 ^ 64 ∧ cn r = fop f (cn x) (cn y) := by
  cases hf : f x y with
  | some r =>
    have hfb : floatBits op .f64 x y = some r := by rw [hop, hf]
    refine ⟨r, w, run_float_arith w op t .f64 x y r hfb, rfl, ⟨rfl, rfl, rfl⟩, ?_, ?_⟩
    · have := floatBits_wf hfb; simpa [Lit.wf] using this
    · simp [fop, hcn, hf]
  | none =>
    have hr : (binOp op t (.float .f64 x) (.float .f64 y)).run P w = .ok (.float .f64 ((Question.nanBits .f64 x y).cut (w.tape w.drawn (.nanBits .f64 x y)))) { w with drawn := w.drawn + 1 } := by
      have hfb : floatBits op .f64 x y = none := by rw [hop, hf]
      unfold floatBits at hfb
      rcases hb with rfl | rfl | rfl | rfl <;> simp only at hfb <;> simp [binOp, Op.floatArith, hfb, choose, Sem.run, Question.forced]
    obtain ⟨h1, h2⟩ := cut_nan x y (w.tape w.drawn (.nanBits .f64 x y))
    exact ⟨_, _, hr, rfl, ⟨rfl, rfl, rfl⟩, h2, by rw [h1]; simp [fop, hcn, hf]⟩
theorem lt_swap (a b : Nat) : (Ieee.double.order a b == some .gt) = (Ieee.double.order b a == some .lt) := by
  unfold Ieee.Format.order
  generalize Ieee.double.read a = x; generalize Ieee.double.read b = y
  cases x <;> cases y <;> try rfl
  · rename_i s m i t n j
    simp only [Ieee.Datum.order]
    rw [show min j i = min i j from Int.min_comm _ _]
    generalize Ieee.signed s m (i - min i j).toNat = p; generalize Ieee.signed t n (j - min i j).toNat = q
    simp only [compare, compareOfLessAndEq]
    by_cases h1 : p < q
    · simp [h1, show ¬ q < p from by omega, show ¬ q = p from by omega]
    · by_cases h2 : p = q
      · subst h2; simp
      · simp [h1, h2, show q < p from by omega]
  · rename_i s m i t; cases t <;> rfl
  · rename_i s t n j; cases s <;> rfl
  · rename_i s t; cases s <;> cases t <;> rfl
end
end Go.Sx

set_option linter.unusedVariables false
set_option linter.unusedSimpArgs false
namespace Go.Sx
section
variable {C : Cx} {st : St} {a : Act} {w : World} {g : Gh} {lam : Nat → Nat}

/-- it runs to a value that stands for v; no block turns -/
def Gives (P : Program) (w : World) (g : Gh) (s : Sem Value) (v : AV) : Prop :=
  ∃ x w', s.run P w = .ok x w' ∧ w'.heap = w.heap ∧ Sames w w' ∧ VRep w g v x
theorem Gives.pure {P : Program} {w : World} {g : Gh} {s : Sem Value} {v : AV} {x : Value} (h : s.run P w = .ok x w) (hv : VRep w g v x) : Gives P w g s v :=
  ⟨x, w, h, rfl, ⟨rfl, rfl, rfl⟩, hv⟩

theorem binI_sound {P : Program} {op : BinOp} {t : TypeId} {k : IntKind} {x y : Int} {c : Prop} {v : AV} (h : binI op k x y = some (c, v)) (hc : c) (xo yo : Operand) :
    Gives P w g (do eqGuard op t xo yo (.int k x) (.int k y); binOp op t (.int k x) (.int k y)) v := by
  cases op <;> simp only [binI, Option.some.injEq, Prod.mk.injEq, reduceCtorEq] at h
  case quo =>
    obtain ⟨rfl, rfl⟩ := h
    exact .pure (by simp [eqGuard, binOp, Op.intDiv, hc]; rfl) (by simp [VRep])
  case rem =>
    obtain ⟨rfl, rfl⟩ := h
    exact .pure (by simp [eqGuard, binOp, Op.intDiv, hc]; rfl) (by simp [VRep])
  case and => obtain ⟨rfl, rfl⟩ := h; exact .pure (x := .int k (bitsI .and k x y)) (by cases k <;> rfl) (by simp [VRep])
  case or => obtain ⟨rfl, rfl⟩ := h; exact .pure (x := .int k (bitsI .or k x y)) (by cases k <;> rfl) (by simp [VRep])
  case xor => obtain ⟨rfl, rfl⟩ := h; exact .pure (x := .int k (bitsI .xor k x y)) (by cases k <;> rfl) (by simp [VRep])
  case andNot => obtain ⟨rfl, rfl⟩ := h; exact .pure (x := .int k (bitsI .andNot k x y)) (by cases k <;> rfl) (by simp [VRep])
  all_goals
    obtain ⟨rfl, rfl⟩ := h
    exact .pure (by simp [eqGuard, binOp, Op.intArith, Op.intCmp]; rfl) (by simp [VRep])
theorem shI_sound {P : Program} {op : BinOp} {t : TypeId} {k k' : IntKind} {x y : Int} {c : Prop} {v : AV} (h : shI op k x y = some (c, v)) (hc : c) (xo yo : Operand) :
    Gives P w g (do eqGuard op t xo yo (.int k x) (.int k' y); binOp op t (.int k x) (.int k' y)) v := by
  cases op <;> simp only [shI, Option.some.injEq, Prod.mk.injEq, reduceCtorEq] at h
  all_goals
    obtain ⟨rfl, rfl⟩ := h
    have hn : ¬ y < 0 := by omega
    exact .pure (by simp [eqGuard, binOp, Op.shift, hn]; rfl) (by simp [VRep])
theorem binF_sound {P : Program} {op : BinOp} {t : TypeId} {x y : Nat} {c : Prop} {v : AV} (h : binF op (cn x) (cn y) = some (c, v)) (hc : c) (xo yo : Operand) :
    Gives P w g (do eqGuard op t xo yo (.float .f64 x) (.float .f64 y); binOp op t (.float .f64 x) (.float .f64 y)) v := by
  have hg : ∀ w : World, (eqGuard op t xo yo (.float .f64 x) (.float .f64 y)).run P w = .ok () w := by
    intro w; cases op <;> simp [eqGuard] <;> rfl
  have hf : FloatKind.f64.format = Ieee.double := rfl
  cases op <;> simp only [binF, Option.some.injEq, Prod.mk.injEq, reduceCtorEq] at h
  case add =>
    obtain ⟨rfl, rfl⟩ := h
    obtain ⟨r, w', h1, h2, h3, h4, h5⟩ := fa_run P w .add Ieee.double.add x y (fun _ _ => rfl) (add_cn _ _) (by simp) t
    exact ⟨.float .f64 r, w', by simp [Sem.run_bind, hg, h1], h2, h3, by simp only [VRep]; exact ⟨r, rfl, h4, h5⟩⟩
  case sub =>
    obtain ⟨rfl, rfl⟩ := h
    obtain ⟨r, w', h1, h2, h3, h4, h5⟩ := fa_run P w .sub Ieee.double.sub x y (fun _ _ => rfl) (sub_cn _ _) (by simp) t
    exact ⟨.float .f64 r, w', by simp [Sem.run_bind, hg, h1], h2, h3, by simp only [VRep]; exact ⟨r, rfl, h4, h5⟩⟩
  case mul =>
    obtain ⟨rfl, rfl⟩ := h
    obtain ⟨r, w', h1, h2, h3, h4, h5⟩ := fa_run P w .mul Ieee.double.mul x y (fun _ _ => rfl) (mul_cn _ _) (by simp) t
    exact ⟨.float .f64 r, w', by simp [Sem.run_bind, hg, h1], h2, h3, by simp only [VRep]; exact ⟨r, rfl, h4, h5⟩⟩
  case quo =>
    obtain ⟨rfl, rfl⟩ := h
    obtain ⟨r, w', h1, h2, h3, h4, h5⟩ := fa_run P w .quo Ieee.double.div x y (fun _ _ => rfl) (div_cn _ _) (by simp) t
    exact ⟨.float .f64 r, w', by simp [Sem.run_bind, hg, h1], h2, h3, by simp only [VRep]; exact ⟨r, rfl, h4, h5⟩⟩
  case gtr =>
    obtain ⟨rfl, rfl⟩ := h
    exact .pure (by simp only [Sem.run_bind, hg]; simp [binOp, Op.floatCmp, hf]; rfl) (by simp [VRep, flt, feq, order_cn, lt_swap])
  case geq =>
    obtain ⟨rfl, rfl⟩ := h
    exact .pure (by simp only [Sem.run_bind, hg]; simp [binOp, Op.floatCmp, hf]; rfl) (by simp [VRep, flt, feq, order_cn, lt_swap])
  all_goals
    obtain ⟨rfl, rfl⟩ := h
    exact .pure (by simp only [Sem.run_bind, hg]; simp [binOp, Op.floatCmp, hf]; rfl) (by simp [VRep, flt, feq, order_cn, bne])
theorem eqb_run (P : Program) (w : World) (t : TypeId) (p q : Bool) (hu : P.underlying t = some .bool) : (Op.equal t (.bool p) (.bool q)).run P w = .ok (p == q) w := by
  show (Op.equalIn (9999 + 1) t (.bool p) (.bool q)).run P w = _
  rw [Op.equalIn, Sem.run_bind, run_underlying hu]
  rfl
theorem nilEq_sound {P : Program} {t : TypeId} {x y : AV} {X Y : Value} {r : Bool} (h : nilEq P t x y = some r) (hx : VRep w g x X) (hy : VRep w g y Y) : (Op.equal t X Y).run P w = .ok r w ∧
    ((∃ p q, X = .pointer p ∧ Y = .pointer q) ∨ (∃ p q a b c d, X = .slice p a b ∧ Y = .slice q c d)) := by
  have pt : isPtr P t = true → ∃ e, P.underlying t = some (.pointer e) := by
    intro h; unfold isPtr at h; split at h
    · rename_i e he; exact ⟨e, he⟩
    · cases h
  have sl : isSl P t = true → ∃ e, P.underlying t = some (.slice e) := by
    intro h; unfold isSl at h; split at h
    · rename_i e he; exact ⟨e, he⟩
    · cases h
  have goP : ∀ (p q : Option Addr) (b : Bool), isPtr P t = true → (p = none ∧ b = q.isNone ∨ p ≠ none ∧ q = none ∧ b = false) → (Op.equal t (.pointer p) (.pointer q)).run P w = .ok b w := by
    intro p q b ht hb
    obtain ⟨e, he⟩ := pt ht
    show (Op.equalIn (9999 + 1) t _ _).run P w = _
    rw [Op.equalIn, Sem.run_bind, run_underlying he]
    simp only [Result.andThen_ok]
    rcases hb with ⟨rfl, rfl⟩ | ⟨hp, rfl, rfl⟩
    · rfl
    · cases p with
      | none => exact (hp rfl).elim
      | some p => rfl
  have goS : ∀ (p q : Option Addr) (b : Bool) (l c l' c' : Nat), isSl P t = true → (p = none ∧ b = q.isNone ∨ p ≠ none ∧ q = none ∧ b = false) → (Op.equal t (.slice p l c) (.slice q l' c')).run P w = .ok b w := by
    intro p q b l c l' c' ht hb
    obtain ⟨e, he⟩ := sl ht
    show (Op.equalIn (9999 + 1) t _ _).run P w = _
    rw [Op.equalIn, Sem.run_bind, run_underlying he]
    simp only [Result.andThen_ok]
    rcases hb with ⟨rfl, rfl⟩ | ⟨hp, rfl, rfl⟩
    · rfl
    · cases p with
      | none => exact (hp rfl).elim
      | some p => rfl
  unfold nilEq at h
  split at h <;> (try cases h) <;> split at h <;> (try cases h)
  · rename_i ht
    simp only [VRep] at hx hy
    obtain ⟨b, o, rfl, _⟩ := hx
    subst hy
    exact ⟨goP _ _ _ ht (.inr ⟨by simp, rfl, rfl⟩), .inl ⟨_, _, rfl, rfl⟩⟩
  · rename_i ht
    simp only [VRep] at hx hy
    obtain ⟨b, o, rfl, _⟩ := hy
    subst hx
    exact ⟨goP _ _ _ ht (.inl ⟨rfl, rfl⟩), .inl ⟨_, _, rfl, rfl⟩⟩
  · rename_i ht
    simp only [VRep] at hx hy
    subst hx hy
    exact ⟨goP _ _ _ ht (.inl ⟨rfl, rfl⟩), .inl ⟨_, _, rfl, rfl⟩⟩
  · rename_i ht
    simp only [VRep] at hx hy
    subst hx hy
    exact ⟨goS _ _ _ _ _ _ _ ht (.inl ⟨rfl, rfl⟩), .inr ⟨_, _, _, _, _, _, rfl, rfl⟩⟩
  · rename_i ht
    simp only [VRep] at hx hy
    obtain ⟨b, δ, cap, n, _, rfl, _⟩ := hx
    subst hy
    exact ⟨goS _ _ _ _ _ _ _ ht (.inr ⟨by simp, rfl, rfl⟩), .inr ⟨_, _, _, _, _, _, rfl, rfl⟩⟩
  · rename_i ht
    simp only [VRep] at hx hy
    obtain ⟨cap, _, h1 | ⟨b, o, rfl, _⟩⟩ := hx
    · simp at h1
    · subst hy
      exact ⟨goS _ _ _ _ _ _ _ ht (.inr ⟨by simp, rfl, rfl⟩), .inr ⟨_, _, _, _, _, _, rfl, rfl⟩⟩
theorem arrEq_sound {P : Program} {t : TypeId} {xs ys : List AV} {X Y : Value} {r : Bool} (h : arrEq P t xs ys = some r) (hx : VRep w g (.agg xs) X) (hy : VRep w g (.agg ys) Y) :
    (Op.equal t X Y).run P w = .ok r w ∧ (∃ p q, X = .agg p ∧ Y = .agg q) ∧ P.eqGuardType P.depth t = false := by
  unfold arrEq at h
  split at h
  case h_2 => cases h
  rename_i e k a k' b l c l' d hu
  split at h
  case h_2 => cases h
  rename_i k0 he hz hg
  split at h
  case isFalse => cases h
  rename_i hk
  obtain ⟨rfl, rfl, rfl, rfl⟩ := hk
  simp only [Option.some.injEq] at h; subst h
  simp only [VRep] at hx hy
  obtain ⟨vs, rfl, _, hx⟩ := hx
  obtain ⟨us, rfl, _, hy⟩ := hy
  simp only [LRep, VRep] at hx hy
  obtain ⟨_, _, e1, rfl, _, _, e2, rfl, rfl⟩ := hx
  obtain ⟨_, _, e3, rfl, _, _, e4, rfl, rfl⟩ := hy
  subst e2 e4
  obtain rfl : vs = #[.int l' a, .int l' b] := Array.toList_inj.1 e1
  obtain rfl : us = #[.int l' c, .int l' d] := Array.toList_inj.1 e3
  refine ⟨?_, ⟨_, _, rfl, rfl⟩, hg⟩
  unfold tsz at hz
  simp only [Option.map_eq_some_iff] at hz
  obtain ⟨i, hi, hs1⟩ := hz
  have hs : (sizeOf e).run P w = .ok 1 w := by simp [sizeOf, typeInfo, hi, hs1, Sem.run_bind]
  have hagg : (isAgg e).run P w = .ok false w := by
    unfold isAgg
    rw [Sem.run_bind, run_underlying he w]
    rfl
  have hp : ∀ (vs : Array Value) (o : Nat) (v : Value), vs[o]? = some v → (part e vs o).run P w = .ok v w := by
    intro vs o v hv
    simp [part, Sem.run_bind, hagg, hv]
  have hp0 : ∀ x y : Int, (part e #[.int l' x, .int l' y] 0).run P w = .ok (.int l' x) w := fun x y => hp _ 0 _ rfl
  have hp1 : ∀ x y : Int, (part e #[.int l' x, .int l' y] 1).run P w = .ok (.int l' y) w := fun x y => hp _ 1 _ rfl
  have hq : ∀ x y : Int, (Op.equalIn 9999 e (.int l' x) (.int l' y)).run P w = .ok (x == y) w := by
    intro x y
    show (Op.equalIn (9998 + 1) e (.int l' x) (.int l' y)).run P w = _
    rw [Op.equalIn, Sem.run_bind, run_underlying he]
    simp
  show (Op.equalIn (9999 + 1) t _ _).run P w = _
  rw [Op.equalIn]
  simp only [Sem.run_bind, run_underlying hu, Result.andThen_ok, hs]
  simp only [Std.Legacy.Range.forIn_eq_forIn_range', Std.Legacy.Range.size, Nat.sub_zero, Nat.add_sub_cancel, Nat.div_one, List.range'_succ, List.range'_zero, List.forIn_cons, List.forIn_nil]
  by_cases h1 : a = c <;> by_cases h2 : b = d <;> simp [Sem.run_bind, h1, h2, hq, hp0, hp1]
theorem othV_sound {P : Program} {op : BinOp} {t : TypeId} {x y : AV} {X Y : Value} {c : Prop} {v : AV} (h : othV P op t x y = some (c, v)) (hc : c) (xo yo : Operand)
    (hx : VRep w g x X) (hy : VRep w g y Y) : Gives P w g (do eqGuard op t xo yo X Y; binOp op t X Y) v := by
  unfold othV at h
  split at h
  · rename_i a b
    simp only [VRep] at hx hy
    subst hx hy
    cases op <;> simp only [strV, Option.some.injEq, Prod.mk.injEq, reduceCtorEq] at h <;> obtain ⟨rfl, rfl⟩ := h
    · refine .pure (x := .string (a ++ b)) ?_ (by simp [VRep])
      have : ¬ (((a.size + b.size : Nat) : Int) > IntKind.i64.max) := by
        have : IntKind.i64.max = 9223372036854775807 := by decide
        omega
      simp only [eqGuard, binOp, Op.stringOp, Sem.run_bind, Sem.run_pure, Result.andThen_ok, this, if_false]
      rfl
    · exact .pure (x := .bool (a.toList == b.toList)) (by simp [eqGuard, binOp, Op.stringOp]) (by simp [VRep])
    · exact .pure (x := .bool (!(a.toList == b.toList))) (by simp [eqGuard, binOp, Op.stringOp]) (by simp [VRep])
  · split at h
    · simp only [Option.map_eq_some_iff, Prod.mk.injEq] at h
      obtain ⟨r, hr, _, rfl⟩ := h
      obtain ⟨h1, ⟨p, q, rfl, rfl⟩, h2⟩ := arrEq_sound hr hx hy
      exact .pure (x := .bool r) (by simp [eqGuard, binOp, h1, h2, Sem.run_bind]) (by simp [VRep])
    · simp only [Option.map_eq_some_iff, Prod.mk.injEq] at h
      obtain ⟨r, hr, _, rfl⟩ := h
      obtain ⟨h1, ⟨p, q, rfl, rfl⟩, h2⟩ := arrEq_sound hr hx hy
      exact .pure (x := .bool (!r)) (by simp [eqGuard, binOp, h1, h2, Sem.run_bind]) (by simp [VRep])
    · cases h
  · split at h
    · simp only [Option.map_eq_some_iff, Prod.mk.injEq] at h
      obtain ⟨r, hr, _, rfl⟩ := h
      obtain ⟨h1, ⟨p, q, rfl, rfl⟩ | ⟨p, q, a, b, c, d, rfl, rfl⟩⟩ := nilEq_sound hr hx hy
      · exact .pure (x := .bool r) (by simp [eqGuard, binOp, h1]) (by simp [VRep])
      · exact .pure (x := .bool r) (by simp [eqGuard, binOp, h1]) (by simp [VRep])
    · simp only [Option.map_eq_some_iff, Prod.mk.injEq] at h
      obtain ⟨r, hr, _, rfl⟩ := h
      obtain ⟨h1, ⟨p, q, rfl, rfl⟩ | ⟨p, q, a, b, c, d, rfl, rfl⟩⟩ := nilEq_sound hr hx hy
      · exact .pure (x := .bool (!r)) (by simp [eqGuard, binOp, h1]) (by simp [VRep])
      · exact .pure (x := .bool (!r)) (by simp [eqGuard, binOp, h1]) (by simp [VRep])
    · cases h

theorem binV_sound {P : Program} {op : BinOp} {t : TypeId} {x y : EV} {X Y : Value} {c : Prop} {v : AV} (h : binV P op t x y = some (c, v)) (hc : c) (xo yo : Operand)
    (hx : ERep w g lam x X) (hy : ERep w g lam y Y) : Gives P w g (do eqGuard op t xo yo X Y; binOp op t X Y) v := by
  unfold binV at h
  split at h
  · rename_i k a k' b
    simp only [ERep, VRep] at hx hy
    subst hx hy
    split at h
    · exact shI_sound h hc xo yo
    · exact shI_sound h hc xo yo
    · split at h
      · rename_i hk; subst hk; exact binI_sound h hc xo yo
      · simp at h
  · rename_i a b
    simp only [ERep, VRep] at hx hy
    subst hx hy
    split at h
    · rename_i hu
      simp only [Option.some.injEq, Prod.mk.injEq] at h; obtain ⟨rfl, rfl⟩ := h
      exact .pure (x := .bool (a == b)) (by simp [eqGuard, binOp, eqb_run P _ t a b hu]) (by simp [VRep])
    · rename_i hu
      simp only [Option.some.injEq, Prod.mk.injEq] at h; obtain ⟨rfl, rfl⟩ := h
      exact .pure (x := .bool (a != b)) (by simp [eqGuard, binOp, eqb_run P _ t a b hu]; cases a <;> cases b <;> rfl) (by simp [VRep])
    · simp at h
  · rename_i xv yv _ _
    split at h
    · rename_i p q hp hq
      simp only [ERep] at hx hy
      obtain ⟨b, rfl, h1, rfl⟩ := asF_rep hp hx
      obtain ⟨b', rfl, h2, rfl⟩ := asF_rep hq hy
      exact binF_sound h hc xo yo
    · simp only [ERep] at hx hy
      exact othV_sound h hc xo yo hx hy
  · simp at h

theorem sameAddr_one (P : Program) (w : World) (b o o' : Nat) : (sameAddr ⟨b, o, none⟩ ⟨b, o', none⟩).run P w = .ok (decide (o = o')) w := by
  have : ((⟨b, o, none⟩ : Addr) == ⟨b, o', none⟩) = decide (o = o') := by
    by_cases h : o = o'
    · subst h; simp
    · simp [h]
  simp only [sameAddr, beq_self_eq_true, if_true, Sem.run_pure, this]
theorem cells_of_cell {w : World} {b o : Nat} {v : Value} (h : w.cell? ⟨b, o, none⟩ = some v) : ∃ c e fr, w.heap[b]? = some (.cells c e fr) ∧ 0 < c.size := by
  unfold World.cell? at h
  split at h
  · rename_i c e fr hh
    refine ⟨c, e, fr, hh, ?_⟩
    simp only [Option.isSome_none, Bool.false_eq_true, if_false] at h
    have := (Array.getElem?_eq_some_iff.1 h).1
    omega
  · simp at h
theorem sameAddr_two (P : Program) (w : World) {b b' o o' : Nat} (hne : b ≠ b') {c c' : Array Value} {e e' : TypeId} {fr' : Nat × Nat} (h1 : w.heap[b]? = some (.cells c e (0, 0))) (h2 : w.heap[b']? = some (.cells c' e' fr')) (hz : fr' = (0, 0) ∨ 0 < c'.size) :
    (sameAddr ⟨b, o, none⟩ ⟨b', o', none⟩).run P w = .ok false w ∧ (sameAddr ⟨b', o', none⟩ ⟨b, o, none⟩).run P w = .ok false w := by
  have hf : ∀ x, w.frozen? ⟨b, x, none⟩ = false := fun x => by simp [World.frozen?, h1]
  have hs : w.shape? b = some (e, c.size) := by simp [World.shape?, h1]
  have hs' : w.shape? b' = some (e', c'.size) := by simp [World.shape?, h2]
  have hb : (b == b') = false := by simpa using hne
  have hb' : (b' == b) = false := by simpa using fun h => hne h.symm
  have f0 : ∀ x, (Go.frozen ⟨b, x, none⟩).run P w = .ok false w := fun x => by simp only [Go.frozen, Sem.run, hf]
  have f1 : ∀ x, (Go.frozen ⟨b', x, none⟩).run P w = .ok (w.frozen? ⟨b', x, none⟩) w := fun x => by simp only [Go.frozen, Sem.run]
  have s0 : (Go.shape b).run P w = .ok (some (e, c.size)) w := by simp only [Go.shape, Sem.run, hs]
  have s1 : (Go.shape b').run P w = .ok (some (e', c'.size)) w := by simp only [Go.shape, Sem.run, hs']
  have v0 : ∀ x, (noView ⟨b, x, none⟩).run P w = .ok () w := fun x => by simp [noView, viewAt, Sem.run_bind, s0]
  have v1 : ∀ x, (noView ⟨b', x, none⟩).run P w = .ok () w := fun x => by simp [noView, viewAt, Sem.run_bind, s1]
  have g0 : ∀ x, (stringish ⟨b, x, none⟩).run P w = .ok false w := fun x => by simp [stringish, Sem.run_bind, f0, s0, hs, hf]
  have g1 : ∀ x, ∃ r, (stringish ⟨b', x, none⟩).run P w = .ok r w ∧ (fr' = (0, 0) → r = false) := fun x => by
    cases hq : w.frozen? ⟨b', x, none⟩ with
    | true =>
      refine ⟨true, by simp [stringish, Sem.run_bind, f1, hq], fun hh => ?_⟩
      subst hh; simp [World.frozen?, h2] at hq
    | false =>
      refine ⟨w.frozen? ⟨b', c'.size, none⟩, by simp [stringish, Sem.run_bind, f1, hq, s1, hs'], fun hh => ?_⟩
      subst hh; simp [World.frozen?, h2]
  obtain ⟨r, hr, hr0⟩ := g1 o'
  have m0 : (r && (match some (e', c'.size) with | some (_, 0) => true | _ => false)) = false := by
    rcases hz with hz | hz
    · rw [hr0 hz]; rfl
    · cases hc : c'.size with
      | zero => omega
      | succ n => simp
  constructor
  · cases hq : w.frozen? ⟨b', o', none⟩ <;>
    · cases r
      · simp [sameAddr, hb, Sem.run_bind, f0, f1, hq, v0, v1, mayBeOne, g0, hr, s0, s1, hs, hs', hf]
      · have : c'.size ≠ 0 := by
          rcases hz with hz | hz
          · exact absurd (hr0 hz) (by simp)
          · omega
        simp [sameAddr, hb, Sem.run_bind, f0, f1, hq, v0, v1, mayBeOne, g0, hr, s0, s1, hs, hs', hf]
        (try (split <;> simp_all))
  · cases hq : w.frozen? ⟨b', o', none⟩ <;>
    · cases r
      · simp [sameAddr, hb', Sem.run_bind, f0, f1, hq, v0, v1, mayBeOne, g0, hr, s0, s1, hs, hs', hf]
      · have : c'.size ≠ 0 := by
          rcases hz with hz | hz
          · exact absurd (hr0 hz) (by simp)
          · omega
        simp [sameAddr, hb', Sem.run_bind, f0, f1, hq, v0, v1, mayBeOne, g0, hr, s0, s1, hs, hs', hf]
        (try (split <;> simp_all))
theorem curG_blk {H : List (List AV)} (hw : WRep w g H) {id gen b δ : Nat} (hc : curG H id gen = true) (hr : g.ρ id gen = some (b, δ)) : ∃ cs c e, H[id]? = some cs ∧ cs.length = gen ∧ w.heap[b]? = some (.cells c e (0, 0)) ∧ ¬ g.Fz b := by
  unfold curG at hc
  split at hc
  · rename_i cs hcs
    have hg : cs.length = gen := by simpa using hc
    obtain ⟨b', δ', c, e, h1, h2, h3, h4, h5, h6⟩ := hw.blk id cs hcs
    rw [hg, hr] at h1
    simp only [Option.some.injEq, Prod.mk.injEq] at h1
    obtain ⟨rfl, rfl⟩ := h1
    exact ⟨cs, c, e, hcs, hg, h2, h5⟩
  · cases hc
theorem ptrEq_sound {P : Program} {H : List (List AV)} (hw : WRep w g H) {s s' : AV} {o o' b b' a a' : Nat} {r : Bool} (h : ptrEq H s a s' a' = some r) (h1 : SBase w g s b o) (h2 : SBase w g s' b' o') :
    (sameAddr ⟨b, o + a, none⟩ ⟨b', o' + a', none⟩).run P w = .ok r w := by
  unfold ptrEq at h
  split at h
  · rename_i id gn of _ _ a id' gn' of' _ _ a'
    split at h
    · rename_i hc
      simp only [Bool.and_eq_true] at hc
      simp only [SBase] at h1 h2
      obtain ⟨δ, h1, rfl⟩ := h1
      obtain ⟨δ', h2, rfl⟩ := h2
      obtain ⟨cs, c, e, k1, k2, k3, k4⟩ := curG_blk hw hc.1 h1
      obtain ⟨cs', c', e', k1', k2', k3', k4'⟩ := curG_blk hw hc.2 h2
      split at h
      · rename_i hid
        subst hid
        rw [k1] at k1'; simp only [Option.some.injEq] at k1'; subst k1'
        subst k2; subst k2'
        rw [h1] at h2; simp only [Option.some.injEq, Prod.mk.injEq] at h2
        obtain ⟨rfl, rfl⟩ := h2
        simp only [Option.some.injEq] at h; subst h
        rw [sameAddr_one]
        congr 1
        exact decide_eq_decide.2 (by omega)
      · rename_i hid
        simp only [Option.some.injEq] at h; subst h
        refine (sameAddr_two P w (fun hb => hid ?_) k3 k3' (.inl rfl)).1
        subst hb k2 k2'
        exact hw.inj _ _ _ _ _ _ _ k1 k1' h1 h2
    · cases h
  · rename_i p of _ _ a q of' _ _ a'
    split at h
    · rename_i hpq
      subst hpq
      simp only [SBase] at h1 h2
      obtain ⟨h1, _⟩ := h1
      obtain ⟨h2, _⟩ := h2
      simp only [reduceCtorEq, Option.some.injEq, Prod.mk.injEq, false_or] at h1 h2
      obtain ⟨rfl, rfl⟩ := h1
      obtain ⟨rfl, rfl⟩ := h2
      simp only [Option.some.injEq] at h; subst h
      rw [sameAddr_one]
    · cases h
  · rename_i id gn of _ _ a tg _ x xs a'
    split at h
    · rename_i hc
      simp only [Option.some.injEq] at h; subst h
      simp only [SBase, CRep] at h1 h2
      obtain ⟨δ, h1, rfl⟩ := h1
      obtain ⟨_, hz, ⟨v, hv, _⟩, _⟩ := h2
      obtain ⟨cs, c, e, k1, k2, k3, k4⟩ := curG_blk hw hc h1
      obtain ⟨c', e', fr', j1, j2⟩ := cells_of_cell hv
      exact (sameAddr_two P w (fun hb => k4 (by rw [hb]; exact hz)) k3 j1 (.inr j2)).1
    · cases h
  · rename_i tg _ x xs a id gn of _ _ a'
    split at h
    · rename_i hc
      simp only [Option.some.injEq] at h; subst h
      simp only [SBase, CRep] at h1 h2
      obtain ⟨δ, h2, rfl⟩ := h2
      obtain ⟨_, hz, ⟨v, hv, _⟩, _⟩ := h1
      obtain ⟨cs, c, e, k1, k2, k3, k4⟩ := curG_blk hw hc h2
      obtain ⟨c', e', fr', j1, j2⟩ := cells_of_cell hv
      exact (sameAddr_two P w (fun hb => k4 (by rw [hb]; exact hz)) k3 j1 (.inr j2)).2
    · cases h
  · cases h
theorem ptrV_sound {P : Program} {H : List (List AV)} (hw : WRep w g H) {op : BinOp} {t : TypeId} {x y : EV} {X Y : Value} {v : AV} (h : ptrV P H op t x y = some v) (xo yo : Operand)
    (hx : ERep w g lam x X) (hy : ERep w g lam y Y) : Gives P w g (do eqGuard op t xo yo X Y; binOp op t X Y) v := by
  have key : ∀ {s s' : AV} {a a' : Nat} {r : Bool}, ptrTy P t = true → ptrEq H s a s' a' = some r → VRep w g (.eptr s a) X → VRep w g (.eptr s' a') Y →
      ∃ p q, X = .pointer (some p) ∧ Y = .pointer (some q) ∧ (Op.equal t (.pointer (some p)) (.pointer (some q))).run P w = .ok r w := by
    intro s s' a a' r ht hp hX hY
    simp only [VRep] at hX hY
    obtain ⟨b, o, rfl, hX⟩ := hX
    obtain ⟨b', o', rfl, hY⟩ := hY
    refine ⟨_, _, rfl, rfl, ?_⟩
    have hr := ptrEq_sound (P := P) hw hp hX hY
    unfold ptrTy at ht
    split at ht
    · rename_i e hu
      cases hz : tsz P e with
      | none => rw [hz] at ht; simp at ht
      | some n =>
        rw [hz] at ht
        simp only [Option.any_some, decide_eq_true_eq] at ht
        unfold tsz at hz
        simp only [Option.map_eq_some_iff] at hz
        obtain ⟨i, hi, rfl⟩ := hz
        have hs : (sizeOf e).run P w = .ok i.size w := by simp [sizeOf, typeInfo, hi, Sem.run_bind]
        show (Op.equalIn (9999 + 1) t _ _).run P w = _
        rw [Op.equalIn, Sem.run_bind, run_underlying hu]
        have h0 : i.size ≠ 0 := by omega
        simp only [Result.andThen_ok, Sem.run_bind, hs, ne_eq, h0, not_false_eq_true, if_true]
        exact hr
    · cases ht
  unfold ptrV at h
  split at h
  · split at h
    · rename_i ht
      simp only [Option.map_eq_some_iff] at h
      obtain ⟨r, hr, rfl⟩ := h
      obtain ⟨p, q, rfl, rfl, hrun⟩ := key ht hr hx hy
      exact .pure (x := .bool r) (by simp [eqGuard, binOp, hrun]) (by simp [VRep])
    · cases h
  · split at h
    · rename_i ht
      simp only [Option.map_eq_some_iff] at h
      obtain ⟨r, hr, rfl⟩ := h
      obtain ⟨p, q, rfl, rfl, hrun⟩ := key ht hr hx hy
      exact .pure (x := .bool (!r)) (by simp [eqGuard, binOp, hrun]) (by simp [VRep])
    · cases h
  · cases h

theorem negb (b : Nat) (hb : b < 2 ^ 64) : Op.negFloat .f64 b < 2 ^ 64 ∧ fneg (cn b) = cn (Op.negFloat .f64 b) := by
  have e : Op.negFloat .f64 b = b ^^^ 2 ^ 63 := rfl
  have hlt : b ^^^ 2 ^ 63 < 2 ^ 64 := Nat.xor_lt_two_pow hb (by decide)
  refine ⟨by rw [e]; exact hlt, ?_⟩
  unfold fneg
  rcases cn_cases b with ⟨h1, h2⟩ | ⟨_, h2⟩ <;> rw [h2]
  · have hn : isNaN (Op.negFloat .f64 b) = true := by
      have e1 : Ieee.double.signWeight = 2 ^ 63 := by decide
      have hm : (b ^^^ 2 ^ 63) % 2 ^ 63 = b % 2 ^ 63 := by
        rw [Nat.xor_mod_two_pow]; simp
      unfold isNaN Ieee.Format.read at h1 ⊢
      simp only [e1] at h1 ⊢
      rw [e, hm]
      revert h1
      split
      · intro h; simp [Ieee.Datum.isNaN] at h
      · split
        · intro h; simp [Ieee.Datum.isNaN] at h
        · split
          · intro h; simp [Ieee.Datum.isNaN] at h
          · intro _; rfl
    have : cn (Op.negFloat .f64 qn) = qn := by decide
    rw [this]; unfold cn; rw [if_pos hn]

theorem unV_sound {P : Program} {op : UnOp} {x : EV} {X : Value} {c : Prop} {v : AV} (h : unV op x = some (c, v)) (hc : c) (hx : ERep w g lam x X) : Gives P w g (Op.unary op X) v := by
  unfold unV at h
  split at h
  · simp only [ERep, VRep] at hx; subst hx
    simp only [Option.some.injEq, Prod.mk.injEq] at h; obtain ⟨rfl, rfl⟩ := h
    exact .pure (by simp [Op.unary]; rfl) (by simp [VRep])
  · simp only [ERep, VRep] at hx; subst hx
    simp only [Option.some.injEq, Prod.mk.injEq] at h; obtain ⟨rfl, rfl⟩ := h
    exact .pure (by simp [Op.unary, Op.intArith]; rfl) (by simp [VRep])
  · simp only [ERep, VRep] at hx; subst hx
    simp only [Option.some.injEq, Prod.mk.injEq] at h; obtain ⟨rfl, rfl⟩ := h
    exact .pure (x := .int _ (bitsI .xor _ _ _)) rfl (by simp [VRep])
  · simp only [Option.map_eq_some_iff, Prod.mk.injEq] at h
    obtain ⟨y, hy, rfl, rfl⟩ := h
    obtain ⟨b, rfl, hb, rfl⟩ := asF_rep hy hx
    refine .pure (x := .float .f64 (Op.negFloat .f64 b)) (by simp [Op.unary]) ?_
    simp only [VRep]
    exact ⟨_, rfl, (negb b hb).1, (negb b hb).2.symm⟩
  · simp at h

theorem cnvV_sound {P : Program} {src dst : TypeId} {x : EV} {X : Value} {c : Prop} {v : AV} (hs : (P.underlying src).isSome = true) (h : cnvV P dst x = some (c, v)) (hc : c) (hx : ERep w g lam x X) :
    Gives P w g (convert src dst X) v := by
  obtain ⟨us, hs⟩ := Option.isSome_iff_exists.1 hs
  unfold cnvV at h
  split at h
  · rename_i k k' n hd
    simp only [ERep, VRep] at hx; subst hx
    simp only [Option.some.injEq, Prod.mk.injEq] at h; obtain ⟨rfl, rfl⟩ := h
    refine .pure (x := .int k (k.wrap n)) ?_ (by simp [VRep])
    cases us <;> simp [convert, run_underlying hs, run_underlying hd, Conv.intToInt] <;> rfl
  · rename_i k' n hd
    simp only [ERep, VRep] at hx; subst hx
    simp only [Option.some.injEq, Prod.mk.injEq] at h; obtain ⟨rfl, rfl⟩ := h
    refine .pure (run_convert_int_float w src dst k' .f64 n (by simp [hs]) hd) ?_
    simp only [VRep, floatOfInt]
    refine ⟨_, rfl, ?_, rfl⟩
    have := floatOfInt_wf .f64 n
    exact of_decide_eq_true this
  · rename_i xv _ hd
    simp only [Option.map_eq_some_iff, Prod.mk.injEq] at h
    obtain ⟨y, hy, rfl, rfl⟩ := h
    obtain ⟨b, rfl, hb, rfl⟩ := asF_rep hy hx
    refine .pure (x := .float .f64 b) ?_ (by simp only [VRep]; exact ⟨b, rfl, hb, rfl⟩)
    refine run_convert_float_float w src dst .f64 .f64 b b (by simp [hs]) hd ?_
    simp [floatToFloatBits]
  · simp at h
end
end Go.Sx

set_option linter.unusedVariables false
set_option linter.unusedSimpArgs false
namespace Go.Sx
section
variable {C : Cx} {st : St} {a : Act} {w : World} {g : Gh} {lam : Nat → Nat}

theorem CRep_vals {w : World} {g : Gh} : ∀ {l : List AV} {b o : Nat}, CRep w g l b o → ∃ vs : List Value, w.rangeAt b o vs ∧ LRep w g l vs ∧ vs.length = l.length ∧ ∀ v ∈ vs, v.oneCell' = true
  | [], b, o, _ => ⟨[], fun j v h => by simp at h, by simp [LRep], rfl, by simp⟩
  | c :: l, b, o, h => by
    simp only [CRep] at h
    obtain ⟨⟨v, h1, h2, h3⟩, h4⟩ := h
    obtain ⟨vs, k1, k2, k3, k4⟩ := CRep_vals h4
    refine ⟨v :: vs, fun j x hj => ?_, by simp only [LRep]; exact ⟨v, vs, rfl, h3, k2⟩, by simp [k3], by simpa [h2] using k4⟩
    cases j with
    | zero => simp at hj; subst hj; simpa using h1
    | succ j => simp at hj; have := k1 j x hj; rwa [show o + 1 + j = o + (j + 1) from by omega] at this

theorem ld_run {P : Program} {t : TypeId} {l : List AV} {n b o : Nat} {v : AV} (hz : tsz P t = some n) (hl : l.length = n) (hc : CRep w g l b o) (hv : ldv P t l = some v) :
    Gives P w g (loadVar t ⟨b, o, none⟩) v := by
  unfold ldv at hv
  have hz' : (P.info? t).map (·.size) = some l.length := by rw [hl]; exact hz
  split at hv
  · rename_i hk
    simp only [Option.some.injEq] at hv; subst hv
    simp only [tkind, Option.map_eq_some_iff] at hk
    obtain ⟨d, hu, hd⟩ := hk
    obtain ⟨vs, k1, k2, k3, k4⟩ := CRep_vals hc
    refine .pure (run_loadVar_mid w b o t vs d k1 hu hd (by rw [k3]; exact hz')) ?_
    simp only [VRep]
    exact ⟨vs.toArray, rfl, by simpa using k4, by simpa using k2⟩
  · rename_i c hk
    simp only [Option.some.injEq] at hv; subst hv
    simp only [tkind, Option.map_eq_some_iff] at hk
    obtain ⟨d, hu, hd⟩ := hk
    simp only [CRep] at hc
    obtain ⟨⟨x, h1, h2, h3⟩, _⟩ := hc
    have hagg : (isAgg t).run P w = .ok false w := by
      unfold isAgg
      rw [Sem.run_bind, run_underlying hu w]
      cases d <;> simp_all
    refine .pure (x := x) ?_ h3
    simp [loadVar, Sem.run_bind, hagg, load, Sem.run, h1]
  · simp at hv

/-- a load turns nothing at all -/
theorem ld_same {P : Program} {t : TypeId} {l : List AV} {n b o : Nat} {v : AV} (hz : tsz P t = some n) (hl : l.length = n) (hc : CRep w g l b o) (hv : ldv P t l = some v) :
    ∃ x, (loadVar t ⟨b, o, none⟩).run P w = .ok x w ∧ VRep w g v x := by
  unfold ldv at hv
  have hz' : (P.info? t).map (·.size) = some l.length := by rw [hl]; exact hz
  split at hv
  · rename_i hk
    simp only [Option.some.injEq] at hv; subst hv
    simp only [tkind, Option.map_eq_some_iff] at hk
    obtain ⟨d, hu, hd⟩ := hk
    obtain ⟨vs, k1, k2, k3, k4⟩ := CRep_vals hc
    refine ⟨_, run_loadVar_mid w b o t vs d k1 hu hd (by rw [k3]; exact hz'), ?_⟩
    simp only [VRep]
    exact ⟨vs.toArray, rfl, by simpa using k4, by simpa using k2⟩
  · rename_i c hk
    simp only [Option.some.injEq] at hv; subst hv
    simp only [tkind, Option.map_eq_some_iff] at hk
    obtain ⟨d, hu, hd⟩ := hk
    simp only [CRep] at hc
    obtain ⟨⟨x, h1, h2, h3⟩, _⟩ := hc
    have hagg : (isAgg t).run P w = .ok false w := by
      unfold isAgg
      rw [Sem.run_bind, run_underlying hu w]
      cases d <;> simp_all
    refine ⟨x, ?_, h3⟩
    simp [loadVar, Sem.run_bind, hagg, load, Sem.run, h1]
  · simp at hv

theorem sread_rep {H : List (List AV)} (hw : WRep w g H) {s : AV} {off n b o : Nat} {l : List AV} (hs : SBase w g s b o) (hr : sread H s off n = some l) : CRep w g l b (o + off) ∧ l.length = n := by
  unfold sread at hr
  split at hr
  · simp only [SBase] at hs
    exact ⟨CRep_gc hs.2.2 hr, (gc_get hr).1⟩
  · rename_i id gen o' len sz
    simp only [Option.bind_eq_some_iff] at hr
    obtain ⟨cs, hc, hr⟩ := hr
    split at hr
    · rename_i hg
      simp only [SBase] at hs
      obtain ⟨δ, h1, rfl⟩ := hs
      obtain ⟨b₀, δ₀, c₀, e₀, k1, k2, k3, k4, k5⟩ := hw.blk id cs hc
      rw [hg, h1] at k1; simp only [Option.some.injEq, Prod.mk.injEq] at k1; obtain ⟨rfl, rfl⟩ := k1
      refine ⟨?_, (gc_get hr).1⟩
      have := CRep_gc k4 hr
      rwa [show δ + (o' + off) = δ + o' + off from by omega] at this
    · simp at hr
  · simp at hr

/-- a slice's value -/
theorem slice_form {s : AV} {len : Nat} {X : Value} (hl : slen s = some len) (hv : VRep w g s X) :
    ∃ ao cap, X = .slice ao len cap ∧ len ≤ cap ∧ (0 < len → ∃ b o, ao = some ⟨b, o, none⟩ ∧ SBase w g s b o) := by
  unfold slen at hl
  split at hl
  · simp only [Option.some.injEq] at hl; subst hl
    simp only [VRep] at hv
    exact ⟨none, 0, hv, Nat.le_refl _, by omega⟩
  · simp only [Option.some.injEq] at hl; subst hl
    simp only [VRep] at hv
    obtain ⟨cap, hc, ⟨_, h0, _, ao, h1⟩ | ⟨b, o, h1, h2, h3, h4⟩⟩ := hv
    · exact ⟨ao, cap, h1, hc, by omega⟩
    · exact ⟨_, cap, h1, hc, fun _ => ⟨b, o, rfl, by simp only [SBase]; exact ⟨h2, h3, h4⟩⟩⟩
  · simp only [Option.some.injEq] at hl; subst hl
    simp only [VRep] at hv
    obtain ⟨b, δ, cap, n, h1, h2, h3, h4⟩ := hv
    exact ⟨_, cap, h2, h3, fun _ => ⟨b, _, rfl, by simp only [SBase]; exact ⟨δ, h1, rfl⟩⟩⟩
  · simp at hl

theorem mapM_id {l : List (Option AV)} {vs : List AV} (h : l.mapM id = some vs) : l = vs.map some := by
  induction l generalizing vs with
  | nil => simp at h; subst h; rfl
  | cons x l ih =>
    simp only [List.mapM_cons, id_eq, Option.bind_eq_bind, Option.bind_eq_some_iff, Option.pure_def, Option.some.injEq] at h
    obtain ⟨v, rfl, r, hr, rfl⟩ := h
    simp [ih hr]
theorem args_rep (h : SRepG C st a w g lam) {xs : List Operand} {vs : List AV} (hx : argsX st.ev xs = some vs) : LRep w g vs (xs.map a.eval) := by
  have := mapM_id hx
  rw [LRep_iff]
  have hl : xs.length = vs.length := by simpa using congrArg List.length this
  refine ⟨by simp [hl], fun i c v h1 h2 => ?_⟩
  have h3 := congrArg (·[i]?) this
  simp only [List.getElem?_map, h1, Option.map_some] at h3 h2
  cases hxi : xs[i]? with
  | none => simp [hxi] at h2
  | some x =>
    simp [hxi] at h2 h3
    subst h2
    exact h.evV (asV_eq h3)

theorem getParts {w : World} {g : Gh} {cs : List AV} {vs : List Value} (h : LRep w g cs vs) {o n : Nat} {l : List AV} (hl : gc cs o n = some l) :
    LRep w g l ((vs.drop o).take n) := by
  rw [LRep_iff] at h ⊢
  obtain ⟨h1, h2⟩ := gc_get hl
  have hb : n = 0 ∨ o + n ≤ cs.length := by
    rcases Nat.eq_zero_or_pos n with h0 | h0
    · exact .inl h0
    · right
      have h3 := h2 (n - 1) (by omega)
      have h4 : (l[n - 1]?) = some (l[n-1]'(by omega)) := List.getElem?_eq_getElem _
      rw [h4] at h3
      have := (List.getElem?_eq_some_iff.1 h3.symm).1
      omega
  refine ⟨by simp [h.1, h1]; omega, fun i c v hc hv => ?_⟩
  have hi : i < n := by have := (List.getElem?_eq_some_iff.1 hc).1; omega
  rw [h2 i hi] at hc
  rw [List.getElem?_take, if_pos hi, List.getElem?_drop] at hv
  exact h.2 _ _ _ hc hv
end
end Go.Sx

set_option linter.unusedVariables false
set_option linter.unusedSimpArgs false
namespace Go.Sx
section
variable {C : Cx} {st : St} {a : Act} {w : World} {g : Gh} {lam : Nat → Nat}

def GivesE (P : Program) (w : World) (g : Gh) (lam : Nat → Nat) (s : Sem Next) (v : EV) : Prop :=
  ∃ x w', s.run P w = .ok (.value x) w' ∧ w'.heap = w.heap ∧ Sames w w' ∧ ERep w g lam v x
theorem Gives.e {P : Program} {s : Sem Value} {v : AV} (h : Gives P w g s v) : GivesE P w g lam (do Pure.pure (Next.value (← s))) (.val v) := by
  obtain ⟨x, w', h1, h2, h3, h4⟩ := h
  exact ⟨x, w', by simp [Sem.run_bind, h1], h2, h3, h4⟩
theorem GivesE.pure {P : Program} {s : Sem Next} {v : EV} {x : Value} (h : s.run P w = .ok (.value x) w) (hv : ERep w g lam v x) : GivesE P w g lam s v :=
  ⟨x, w, h, rfl, ⟨rfl, rfl, rfl⟩, hv⟩

theorem fieldPlace_run {P : Program} {b o n : Nat} {f : Field} (hz : tsz P f.type = some n) (hn : 0 < n) : (fieldPlace ⟨b, o, none⟩ f).run P w = .ok ⟨b, o + f.offset, none⟩ w := by
  unfold tsz at hz
  simp only [Option.map_eq_some_iff] at hz
  obtain ⟨i, hi, rfl⟩ := hz
  have hs : (sizeOf f.type).run P w = .ok i.size w := by simp [sizeOf, typeInfo, hi, Sem.run_bind]
  have : ¬ i.size = 0 := by omega
  simp [fieldPlace, Sem.run_bind, hs, this, Addr.add_mid]

theorem asAgg_get {vs : Array Value} : (asAgg (.agg vs)).run C.P w = .ok vs w := rfl

theorem part_run {P : Program} {t : TypeId} {cs : List AV} {vs : Array Value} {o n : Nat} {l : List AV} {v : AV} (h : LRep w g cs vs.toList) (hone : ∀ x ∈ vs.toList, x.oneCell' = true) (hz : tsz P t = some n) (hl : gc cs o n = some l) (hv : ldv P t l = some v) :
    Gives P w g (part t vs o) v := by
  have hp := getParts h hl
  have hn := (gc_get hl).1
  unfold tsz at hz
  simp only [Option.map_eq_some_iff] at hz
  obtain ⟨i, hi, rfl⟩ := hz
  have hs : (sizeOf t).run P w = .ok i.size w := by simp [sizeOf, typeInfo, hi, Sem.run_bind]
  unfold ldv at hv
  split at hv
  · rename_i hk
    simp only [Option.some.injEq] at hv; subst hv
    simp only [tkind, Option.map_eq_some_iff] at hk
    obtain ⟨d, hu, hd⟩ := hk
    have hagg : (isAgg t).run P w = .ok true w := by
      unfold isAgg
      rw [Sem.run_bind, run_underlying hu w]
      cases d <;> simp_all
    refine .pure (x := .agg (vs.extract o (o + i.size))) (by simp [part, Sem.run_bind, hagg, hs]) ?_
    simp only [VRep]
    refine ⟨_, rfl, fun x hx => hone x ?_, by simpa using hp⟩
    simp only [Array.toList_extract, List.extract_eq_take_drop] at hx
    exact List.mem_of_mem_drop (List.mem_of_mem_take hx)
  · rename_i c hk
    simp only [Option.some.injEq] at hv; subst hv
    simp only [tkind, Option.map_eq_some_iff] at hk
    obtain ⟨d, hu, hd⟩ := hk
    have hagg : (isAgg t).run P w = .ok false w := by
      unfold isAgg
      rw [Sem.run_bind, run_underlying hu w]
      cases d <;> simp_all
    simp only [LRep] at hp
    obtain ⟨x, rest, h1, h2, h3⟩ := hp
    have hx : vs[o]? = some x := by
      have h4 := congrArg (·[0]?) h1
      simp only [List.getElem?_take, List.getElem?_drop, List.getElem?_cons_zero, Nat.add_zero] at h4
      split at h4
      · simpa using h4
      · simp at h4
    exact .pure (x := x) (by simp [part, Sem.run_bind, hagg, hx]) h2
  · simp at hv

def scv (cs : List Value) (off : Nat) : List Value → List Value
  | [] => cs
  | v :: vs => scv (cs.set off v) (off + 1) vs
theorem LRep_set {w : World} {g : Gh} {cs : List AV} {vs : List Value} (h : LRep w g cs vs) {i : Nat} {c : AV} {v : Value} (hv : VRep w g c v) : LRep w g (cs.set i c) (vs.set i v) := by
  rw [LRep_iff] at h ⊢
  refine ⟨by simp [h.1], fun j d x h1 h2 => ?_⟩
  by_cases hij : i = j
  · subst hij
    rw [List.getElem?_set] at h1 h2
    simp only [if_true] at h1 h2
    split at h1
    · split at h2
      · simp only [Option.some.injEq] at h1 h2; subst h1 h2; exact hv
      · simp at h2
    · simp at h1
  · rw [List.getElem?_set_ne hij] at h1 h2
    exact h.2 j d x h1 h2
theorem LRep_sc {w : World} {g : Gh} : ∀ {vs : List AV} {xs : List Value} {cs : List AV} {cv : List Value} (off : Nat), LRep w g cs cv → LRep w g vs xs → LRep w g (sc cs off vs) (scv cv off xs)
  | [], xs, cs, cv, off, h, h2 => by simp only [LRep] at h2; subst h2; exact h
  | v :: vs, xs, cs, cv, off, h, h2 => by
    simp only [LRep] at h2
    obtain ⟨x, rest, rfl, h3, h4⟩ := h2
    simp only [sc, scv]
    exact LRep_sc (off + 1) (LRep_set h h3) h4
theorem fold_scv (off : Nat) : ∀ (xs : List Value) (k : Nat) (vc : Array Value),
    ((xs.zipIdx k).foldl (fun cs (p : Value × Nat) => cs.setIfInBounds (off + p.2) p.1) vc).toList = scv vc.toList (off + k) xs
  | [], k, vc => by simp [scv]
  | x :: xs, k, vc => by
    simp only [List.zipIdx_cons, List.foldl_cons, scv]
    rw [fold_scv off xs (k + 1)]
    simp [Nat.add_assoc]
theorem fold_rep {w : World} {g : Gh} {cells vs : List AV} {vc xs : Array Value} (h : LRep w g cells vc.toList) (h2 : LRep w g vs xs.toList) (off : Nat) :
    LRep w g (sc cells off vs) (xs.zipIdx.foldl (fun cs (p : Value × Nat) => cs.setIfInBounds (off + p.2) p.1) vc).toList := by
  have : (xs.zipIdx.foldl (fun cs (p : Value × Nat) => cs.setIfInBounds (off + p.2) p.1) vc).toList = scv vc.toList off xs.toList := by
    rw [← Array.foldl_toList, Array.toList_zipIdx]
    simpa using fold_scv off xs.toList 0 vc
  rw [this]
  exact LRep_sc off h h2

theorem scv_one : ∀ {xs cv : List Value} (off : Nat), (∀ y ∈ cv, y.oneCell' = true) → (∀ y ∈ xs, y.oneCell' = true) → ∀ y ∈ scv cv off xs, y.oneCell' = true
  | [], cv, off, h, h2 => h
  | x :: xs, cv, off, h, h2 => by
    simp only [scv]
    refine scv_one (off + 1) (fun y hy => ?_) (fun y hy => h2 y (by simp [hy]))
    rcases List.mem_or_eq_of_mem_set hy with hy | rfl
    · exact h y hy
    · exact h2 _ (by simp)
theorem fold_one {vc xs : Array Value} (h : ∀ y ∈ vc.toList, y.oneCell' = true) (h2 : ∀ y ∈ xs.toList, y.oneCell' = true) (off : Nat) :
    ∀ y ∈ (xs.zipIdx.foldl (fun cs (p : Value × Nat) => cs.setIfInBounds (off + p.2) p.1) vc).toList, y.oneCell' = true := by
  have : (xs.zipIdx.foldl (fun cs (p : Value × Nat) => cs.setIfInBounds (off + p.2) p.1) vc).toList = scv vc.toList off xs.toList := by
    rw [← Array.foldl_toList, Array.toList_zipIdx]
    simpa using fold_scv off xs.toList 0 vc
  rw [this]
  exact scv_one off h h2

theorem cells_rep {v : AV} {vs : List AV} {x : Value} (hcl : v.cells = some vs) (hx : VRep w g v x) : LRep w g vs x.cells.toList ∧ ∀ y ∈ x.cells.toList, y.oneCell' = true := by
  unfold AV.cells at hcl
  split at hcl
  · simp only [Option.some.injEq] at hcl; subst hcl
    simp only [VRep] at hx
    obtain ⟨ys, rfl, h1, hy⟩ := hx
    exact ⟨hy, h1⟩
  · simp at hcl
  · simp at hcl
  · rename_i y
    split at hcl
    · rename_i hone
      simp only [Option.some.injEq] at hcl; subst hcl
      simp only [VRep] at hx; subst hx
      have : x.cells = #[x] := by cases x <;> simp_all [Value.cells, Value.oneCell']
      rw [this]; simp [LRep, VRep, hone]
    · simp at hcl
  · rename_i n1 n2 n3 n4
    simp only [Option.some.injEq] at hcl; subst hcl
    have : x.cells = #[x] ∧ x.oneCell' = true := by
      cases v <;> simp only [VRep] at hx <;> first
        | (subst hx; exact ⟨rfl, rfl⟩)
        | (obtain ⟨_, rfl, _⟩ := hx; exact ⟨rfl, rfl⟩)
        | (obtain ⟨rfl, _⟩ := hx; exact ⟨rfl, rfl⟩)
        | (obtain ⟨_, _, ⟨_, _, _, _, rfl⟩ | ⟨_, _, rfl, _⟩⟩ := hx <;> exact ⟨rfl, rfl⟩)
        | (obtain ⟨_, _, _, _, _, rfl, _⟩ := hx; exact ⟨rfl, rfl⟩)
        | (obtain ⟨_, _, rfl, _⟩ := hx; exact ⟨rfl, rfl⟩)
        | exact absurd rfl (n1 _)
        | exact absurd rfl n2
        | exact absurd rfl (n3 _)
        | exact absurd rfl (n4 _)
    rw [this.1]; simpa [LRep, this.2] using hx
theorem fillA_rep {w : World} {g : Gh} {place : Nat → Option (Nat × Nat)} : ∀ {parts : List (Nat × Option AV)} {vparts : List (Nat × Value)} {cells out : List AV} {vc : Array Value},
    LRep w g cells vc.toList → (∀ y ∈ vc.toList, y.oneCell' = true) → fillA place cells parts = some out → vparts.map (·.1) = parts.map (·.1) →
    (∀ (i : Nat) p q v, parts[i]? = some p → vparts[i]? = some q → p.2 = some v → VRep w g v q.2) →
    ∃ vo, Instr.fill place vc vparts = some vo ∧ LRep w g out vo.toList ∧ ∀ y ∈ vo.toList, y.oneCell' = true
  | [], vparts, cells, out, vc, hr, ho, hf, hm, _ => by
    simp only [fillA, Option.some.injEq] at hf; subst hf
    have : vparts = [] := by simpa using hm
    subst this
    exact ⟨vc, rfl, hr, ho⟩
  | (i, p) :: parts, vparts, cells, out, vc, hr, ho, hf, hm, hp => by
    cases vparts with
    | nil => simp at hm
    | cons q vparts =>
      obtain ⟨j, x⟩ := q
      simp only [List.map_cons, List.cons.injEq] at hm
      obtain ⟨rfl, hm⟩ := hm
      simp only [fillA] at hf
      split at hf
      · rename_i off size vs hpl hcl
        simp only [Option.bind_eq_some_iff] at hcl
        obtain ⟨v, hv, hcl⟩ := hcl
        have hx := hp 0 (j, p) (j, x) v (by simp) (by simp) hv
        split at hf
        · simp at hf
        · rename_i hcond
          have hc1 : vs.length = size ∧ off + vs.length ≤ cells.length := by omega
          have hvl := LRep_length hr
          obtain ⟨hcells, hone⟩ := cells_rep hcl hx
          have hxl : x.cells.size = vs.length := by have := LRep_length hcells; simpa using this
          have hnew : LRep w g (sc cells off vs) (x.cells.zipIdx.foldl (fun cs (c, j) => cs.setIfInBounds (off + j) c) vc).toList := by
            exact fold_rep hr hcells off
          obtain ⟨vo, h1, h2⟩ := fillA_rep hnew (fold_one ho hone off) hf hm (fun i p q v h1 h2 h3 => hp (i + 1) p q v (by simpa using h1) (by simpa using h2) h3)
          refine ⟨vo, ?_, h2⟩
          have hvs : vc.size = cells.length := by simpa using hvl
          simp only [Instr.fill, hpl]
          rw [if_neg]
          · exact h1
          · simp [hxl, hc1.1, hvs]; omega
      · simp at hf
end
end Go.Sx

set_option linter.unusedVariables false
set_option linter.unusedSimpArgs false
namespace Go.Sx
section
variable {C : Cx} {st : St} {a : Act} {w : World} {g : Gh} {lam : Nat → Nat}

theorem Gives.ret {P : Program} {s : Sem Value} {v : AV} (h : Gives P w g s v) {f : Sem Next} (hf : f = (do Pure.pure (Next.value (← s)))) : GivesE P w g lam f (.val v) := hf ▸ h.e

theorem min2_int (P : Program) (w : World) (k : IntKind) (x y : Int) : (Builtin.min2 (.int k x) (.int k y)).run P w = .ok (.int k (min x y)) w := by
  have : (if y < x then y else x) = min x y := by omega
  simp only [Builtin.min2, this]; rfl
theorem max2_int (P : Program) (w : World) (k : IntKind) (x y : Int) : (Builtin.max2 (.int k x) (.int k y)).run P w = .ok (.int k (max x y)) w := by
  have : (if y > x then y else x) = max x y := by omega
  simp only [Builtin.max2, this]; rfl

theorem args1 {args : Array Operand} {x : Operand} (h : args.toList = [x]) : args = #[x] := by
  cases args; simp_all

theorem places_run (fs : Array Field) (hall : fs.all (fun f => (tsz C.P f.type).isSome) = true) :
    (fs.mapM fun f => (do Pure.pure (f.offset, ← sizeOf f.type) : Sem (Nat × Nat))).run C.P w = .ok (fs.map fun f => (f.offset, (tsz C.P f.type).getD 0)) w := by
  have key : ∀ (l : List Field), (∀ f ∈ l, (tsz C.P f.type).isSome = true) →
      (l.mapM fun f => (do Pure.pure (f.offset, ← sizeOf f.type) : Sem (Nat × Nat))).run C.P w = .ok (l.map fun f => (f.offset, (tsz C.P f.type).getD 0)) w := by
    intro l
    induction l with
    | nil => intro _; rfl
    | cons f l ih =>
      intro hl
      have h1 := hl f (by simp)
      obtain ⟨n, hn⟩ := Option.isSome_iff_exists.1 h1
      have hn' := hn
      unfold tsz at hn
      simp only [Option.map_eq_some_iff] at hn
      obtain ⟨i, hi, rfl⟩ := hn
      have hs : (sizeOf f.type).run C.P w = .ok i.size w := by simp [sizeOf, typeInfo, hi, Sem.run_bind]
      simp only [List.mapM_cons, Sem.run_bind, hs, Result.andThen_ok, Sem.run_pure, ih (fun f hf => hl f (by simp [hf])), List.map_cons, hn', Option.getD_some]
  rw [Array.mapM_eq_mapM_toList, map_eq_pure_bind, Sem.run_bind, key fs.toList (fun f hf => (Array.all_eq_true_iff_forall_mem.1 hall) f (by simpa using hf))]
  simp only [Result.andThen_ok, Sem.run_pure, Result.ok.injEq, and_true]
  apply Array.ext'
  simp
theorem bnd_run {ρ : Operand → Value} (h : SRepG C st a w g lam) {lo : Option Operand} {d l : Int} (hl : bndI st.ev d lo = some l) : (lo = none ∧ l = d) ∨ ∃ k o, lo = some o ∧ lo.map a.eval = some (.int k l) := by
  cases lo with
  | none => simp only [bndI, Option.some.injEq] at hl; exact .inl ⟨rfl, hl.symm⟩
  | some o =>
    simp only [bndI] at hl
    obtain ⟨k, hk⟩ := tailI_eq hl
    have := h.evV hk
    simp only [VRep] at this
    exact .inr ⟨k, o, rfl, by simp [this]⟩
theorem bounds_run (h : SRepG C st a w g lam) (sl : Bool) {lo hi : Option Operand} {n cap : Nat} {l q : Int} (hl : bndI st.ev 0 lo = some l) (hq : bndI st.ev n hi = some q) (h0 : 0 ≤ l) (h1 : l ≤ q) (h2 : q ≤ n) (hc : n ≤ cap) :
    (Instr.sliceBounds sl n cap (lo.map a.eval) (hi.map a.eval) none).run C.P w = .ok (l.toNat, q.toNat, cap) w := by
  have e2 : ((q.toNat : Nat) : Int) = q := Int.toNat_of_nonneg (by omega)
  rcases bnd_run (ρ := a.eval) h hl with ⟨rfl, rfl⟩ | ⟨k, o, rfl, hk⟩ <;> rcases bnd_run (ρ := a.eval) h hq with ⟨rfl, rfl⟩ | ⟨k', o', rfl, hk'⟩
  · simp [Instr.sliceBounds, Sem.run_bind]
  · rw [hk']
    have hb : ∀ c, (Instr.sliceBound (.int k' q) cap c).run C.P w = .ok q.toNat w := fun c => run_sliceBound (P := C.P) (w := w) k' q cap c (by omega) (by omega)
    simp [Instr.sliceBounds, Sem.run_bind, hb]
  · rw [hk]
    have hb : ∀ c, (Instr.sliceBound (.int k l) n c).run C.P w = .ok l.toNat w := fun c => run_sliceBound (P := C.P) (w := w) k l n c (by omega) (by omega)
    simp [Instr.sliceBounds, Sem.run_bind, hb]
  · rw [hk, hk']
    have hb : ∀ c, (Instr.sliceBound (.int k' q) cap c).run C.P w = .ok q.toNat w := fun c => run_sliceBound (P := C.P) (w := w) k' q cap c (by omega) (by omega)
    have hb' : ∀ c, (Instr.sliceBound (.int k l) q.toNat c).run C.P w = .ok l.toNat w := fun c => run_sliceBound (P := C.P) (w := w) k l q.toNat c (by omega) (by omega)
    simp [Instr.sliceBounds, Sem.run_bind, hb, hb']
theorem slc_rep {z l q n : Nat} {v v' : AV} {X : Value} (hn : slen v = some n) (hv : VRep w g v X) (hs : slcV z l q v = some v') (h1 : l ≤ q) (h2 : q ≤ n) :
    ∃ ao len cap, X = .slice ao len cap ∧ len = n ∧ n ≤ cap ∧ VRep w g v' (.slice (if cap = l then ao else ao.map (·.add (l * z))) (q - l) (cap - l)) := by
  have nil : ∀ (ao : Option Addr) cap, n ≤ cap → l = q → VRep w g (.sl none 0 []) (.slice (if cap = l then ao else ao.map (·.add (l * z))) (q - l) (cap - l)) := by
    intro ao cap hc hlq
    simp only [VRep]
    refine ⟨cap - l, by omega, .inl ?_⟩
    simp [hlq]
  cases v <;> simp only [slcV, slen, Option.some.injEq, reduceCtorEq] at hs hn
  · simp only [VRep] at hv
    subst hn hs
    exact ⟨none, 0, 0, hv, rfl, Nat.le_refl _, nil _ _ (Nat.le_refl _) (by omega)⟩
  · rename_i tag len cells
    subst hn
    simp only [VRep] at hv
    obtain ⟨cap, hc, hx⟩ := hv
    split at hs
    · rename_i hlq
      simp only [Option.some.injEq] at hs; subst hs
      rcases hx with ⟨_, h0, _⟩ | ⟨b, o, rfl, ht, hf, hr⟩
      · omega
      · refine ⟨_, len, cap, rfl, rfl, hc, ?_⟩
        rw [if_neg (by omega)]
        simp only [VRep, Option.map_some, Addr.add_mid]
        refine ⟨cap - l, by omega, .inr ⟨b, o + l * z, rfl, ?_, hf, ?_⟩⟩
        · rcases ht with rfl | rfl
          · exact .inl rfl
          · exact .inr rfl
        · rw [CRep_iff] at hr ⊢
          intro i c hi
          rw [List.getElem?_take] at hi
          split at hi
          · rw [List.getElem?_drop] at hi
            have := hr (l * z + i) c hi
            rwa [show o + (l * z + i) = o + l * z + i from by omega] at this
          · simp at hi
    · rename_i hlq
      simp only [Option.some.injEq] at hs; subst hs
      rcases hx with ⟨_, h0, _, ao, rfl⟩ | ⟨b, o, rfl, ht, hf, hr⟩
      · exact ⟨ao, len, cap, rfl, rfl, hc, nil _ _ hc (by omega)⟩
      · exact ⟨_, len, cap, rfl, rfl, hc, nil _ _ hc (by omega)⟩
  · rename_i id gen off len sz
    subst hn
    simp only [VRep] at hv
    obtain ⟨b, δ, cap, m, k1, rfl, k3, k4, k5, k6⟩ := hv
    split at hs
    case isFalse => simp at hs
    rename_i hz; subst hz
    split at hs
    · rename_i hlq
      simp only [Option.some.injEq] at hs; subst hs
      refine ⟨_, len, cap, rfl, rfl, k3, ?_⟩
      rw [if_neg (by omega)]
      simp only [VRep, Option.map_some, Addr.add_mid]
      have e1 : l * sz + (q - l) * sz = q * sz := by rw [← Nat.add_mul]; congr 1; omega
      have e2 : q * sz ≤ len * sz := Nat.mul_le_mul_right _ h2
      have e3 : l * sz + (cap - l) * sz = cap * sz := by rw [← Nat.add_mul]; congr 1; omega
      exact ⟨b, δ, cap - l, m, k1, by rw [Nat.add_assoc], by omega, by omega, k5, by omega⟩
    · simp only [Option.some.injEq] at hs; subst hs
      exact ⟨_, len, cap, rfl, rfl, k3, nil _ _ k3 (by omega)⟩
theorem sliceV_sound (h : SRepG C st a w g lam) {t : TypeId} {x : Operand} {lo hi : Option Operand} {c : Prop} {v : AV} (hp : sliceV C.P t (st.ev x) (bndI st.ev 0 lo) (fun n => bndI st.ev n hi) = some (c, v)) (hc : c) :
    ∃ X, (Instr.sliceAt t (a.eval x) (lo.map a.eval) (hi.map a.eval) none).run C.P w = .ok X w ∧ VRep w g v X := by
  unfold sliceV at hp
  split at hp
  · rename_i s l he hlo
    split at hp
    case h_2 => simp at hp
    rename_i hu
    simp only [Option.map_eq_some_iff, Prod.mk.injEq] at hp
    obtain ⟨q, hq, rfl, rfl⟩ := hp
    obtain ⟨h0, h1, h2⟩ := hc
    have hX := h.evV he
    simp only [VRep] at hX
    have hb := bounds_run h false hlo hq h0 h1 h2 (Nat.le_refl _)
    refine ⟨.string (s.extract l.toNat q.toNat), ?_, by simp [VRep]⟩
    rw [run_sliceAt_string (P := C.P) (w := w) t _ _ _ _ hu, hX]
    simp [Instr.slice, Sem.run_bind, run_underlying hu, hb]
  · rename_i v₀ l hne he hlo
    simp only [Option.bind_eq_some_iff, Option.map_eq_some_iff, Prod.mk.injEq] at hp
    obtain ⟨e, ht, z, hz, n, hn, q, hq, v', hs, rfl, rfl⟩ := hp
    obtain ⟨h0, h1, h2⟩ := hc
    unfold telem at ht
    split at ht
    case h_2 => simp at ht
    rename_i e' hu
    simp only [Option.some.injEq] at ht; subst ht
    obtain ⟨ao, len, cap, hX, rfl, hcap, hv'⟩ := slc_rep hn (h.evV he) hs (by omega) (by omega)
    have hb := bounds_run h true hlo hq h0 h1 h2 hcap
    unfold tsz at hz
    simp only [Option.map_eq_some_iff] at hz
    obtain ⟨inf, hinf, rfl⟩ := hz
    refine ⟨_, ?_, hv'⟩
    rw [run_sliceAt_slice (P := C.P) (w := w) t _ _ _ _ (by simp [Program.elem, hu]), hX]
    simp [Instr.slice, Sem.run_bind, run_underlying hu, hb, sizeOf, typeInfo, hinf]
  · simp at hp
theorem pureV_sound (h : SRepG C st a w g lam) {o : Oper} {c : Prop} {v : EV} (hp : pureV C.P st.ev (lk st.L) st.H o.op = some (c, v)) (hc : c) :
    GivesE C.P w g lam (execOp a.eval o) v := by
  unfold pureV at hp
  split at hp
  -- move
  · rename_i x ho
    simp only [Option.some.injEq, Prod.mk.injEq] at hp; obtain ⟨rfl, rfl⟩ := hp
    exact .pure (by simp only [execOp, ho]; rfl) (h.ev x)
  · rename_i x ho
    simp only [Option.some.injEq, Prod.mk.injEq] at hp; obtain ⟨rfl, rfl⟩ := hp
    exact .pure (by simp only [execOp, ho]; rfl) (h.ev x)
  -- pick
  · rename_i x y z ho
    simp only [Option.map_eq_some_iff, Prod.mk.injEq] at hp
    obtain ⟨b, hb, rfl, rfl⟩ := hp
    have hx := h.evB hb
    refine .pure (x := if b then a.eval y else a.eval z) (by simp only [execOp, ho, hx]; cases b <;> rfl) ?_
    cases b
    · exact h.ev z
    · exact h.ev y
  -- load
  · rename_i t x ho
    split at hp
    · rename_i key off he
      simp only [Option.bind_eq_some_iff, Option.map_eq_some_iff, Prod.mk.injEq] at hp
      obtain ⟨cs, h1, n, h2, l, h3, v', h4, rfl, rfl⟩ := hp
      obtain ⟨c', e', k1, k2, k3, k4⟩ := h.lr.box key cs h1
      have hl := CRep_gc k3 h3
      rw [Nat.zero_add] at hl
      refine (ld_run h2 (gc_get h3).1 hl h4).ret ?_
      simp only [execOp, ho, h.evL he, Instr.loadAt, Instr.sureAddr]; rfl
    · rename_i s off he
      simp only [Option.bind_eq_some_iff, Option.map_eq_some_iff, Prod.mk.injEq] at hp
      obtain ⟨n, h2, l, h3, v', h4, rfl, rfl⟩ := hp
      have hx := h.evV he
      simp only [VRep] at hx
      obtain ⟨b, o', hx, hs⟩ := hx
      obtain ⟨k1, k2⟩ := sread_rep h.wr hs h3
      refine (ld_run h2 k2 k1 h4).ret ?_
      simp only [execOp, ho, hx, Instr.loadAt, Instr.sureAddr]; rfl
    · simp at hp
  -- nilCheck
  · rename_i x ho
    split at hp
    · rename_i key off he
      simp only [Option.some.injEq, Prod.mk.injEq] at hp; obtain ⟨rfl, rfl⟩ := hp
      exact .pure (x := .pointer (some ⟨lam key, off, none⟩)) (by simp only [execOp, ho, h.evL he]; rfl) rfl
    · rename_i s off he
      simp only [Option.some.injEq, Prod.mk.injEq] at hp; obtain ⟨rfl, rfl⟩ := hp
      have hx := h.evV he
      have hx' := hx
      simp only [VRep] at hx
      obtain ⟨b, o', hx, hs⟩ := hx
      exact .pure (x := .pointer (some ⟨b, o' + off, none⟩)) (by simp only [execOp, ho, hx]; rfl) (by rw [hx] at hx'; exact hx')
    · rename_i f p q he
      simp only [Option.some.injEq, Prod.mk.injEq] at hp; obtain ⟨rfl, rfl⟩ := hp
      have hx := h.evV he
      have hx' := hx
      simp only [VRep] at hx
      obtain ⟨fs, cs, hx, _⟩ := hx
      exact .pure (x := .func (.func f) fs cs) (by simp only [execOp, ho, hx]; rfl) (by rw [hx] at hx'; exact hx')
    · simp at hp
  -- binOp
  · rename_i op t x y yt ho
    split at hp
    · rename_i c' v' h1
      simp only [Option.some.injEq, Prod.mk.injEq] at hp; obtain ⟨rfl, rfl⟩ := hp
      refine (binV_sound h1 hc x y (h.ev x) (h.ev y)).ret ?_
      simp only [execOp, ho]
    · simp only [Option.map_eq_some_iff, Prod.mk.injEq] at hp
      obtain ⟨v', h1, rfl, rfl⟩ := hp
      refine (ptrV_sound h.wr h1 x y (h.ev x) (h.ev y)).ret ?_
      simp only [execOp, ho]
  -- unOp
  · rename_i op t x ho
    simp only [Option.map_eq_some_iff, Prod.mk.injEq] at hp
    obtain ⟨⟨c', v'⟩, h1, h2, h3⟩ := hp
    simp only at h2 h3; subst h2 h3
    refine (unV_sound h1 hc (h.ev x)).ret ?_
    simp only [execOp, ho]
  -- convert
  · rename_i src dst x ho
    split at hp
    · rename_i hs
      simp only [Option.map_eq_some_iff, Prod.mk.injEq] at hp
      obtain ⟨⟨c', v'⟩, h1, h2, h3⟩ := hp
      simp only at h2 h3; subst h2 h3
      refine (cnvV_sound hs h1 hc (h.ev x)).ret ?_
      simp only [execOp, ho]
    · simp at hp
  -- fieldAddr
  · rename_i t x i ho
    simp only [Option.bind_eq_some_iff] at hp
    obtain ⟨⟨off, ft⟩, h1, hp⟩ := hp
    simp only at hp
    unfold fieldOff at h1
    split at h1
    case h_2 => simp at h1
    rename_i fs hu
    simp only [Option.map_eq_some_iff, Prod.mk.injEq] at h1
    obtain ⟨f, hf, rfl, rfl⟩ := h1
    split at hp
    case isFalse => simp at hp
    rename_i hz
    obtain ⟨n, hz, hn⟩ : ∃ n, tsz C.P f.type = some n ∧ 0 < n := by
      cases hq : tsz C.P f.type with
      | none => simp [hq] at hz
      | some n => exact ⟨n, rfl, by simpa [hq] using hz⟩
    split at hp
    · rename_i key off' he
      simp only [Option.some.injEq, Prod.mk.injEq] at hp; obtain ⟨rfl, rfl⟩ := hp
      refine .pure (x := .pointer (some ⟨lam key, off' + f.offset, none⟩)) ?_ rfl
      simp [execOp, ho, h.evL he, Instr.fieldAt, Sem.run_bind, run_underlying hu, hf, Instr.sureAddr, fieldPlace_run hz hn]
    · rename_i s off' he
      simp only [Option.some.injEq, Prod.mk.injEq] at hp; obtain ⟨rfl, rfl⟩ := hp
      have hx := h.evV he
      simp only [VRep] at hx
      obtain ⟨b, o', hx, hs⟩ := hx
      refine .pure (x := .pointer (some ⟨b, o' + (off' + f.offset), none⟩)) ?_ (by simp only [ERep, VRep]; exact ⟨b, o', rfl, hs⟩)
      simp [execOp, ho, hx, Instr.fieldAt, Sem.run_bind, run_underlying hu, hf, Instr.sureAddr, fieldPlace_run hz hn, Nat.add_assoc]
    · simp at hp
  -- field
  · rename_i t x i ho
    simp only [Option.bind_eq_some_iff] at hp
    obtain ⟨⟨off, ft⟩, h1, hp⟩ := hp
    simp only at hp
    unfold fieldOff at h1
    split at h1
    case h_2 => simp at h1
    rename_i fs hu
    simp only [Option.map_eq_some_iff, Prod.mk.injEq] at h1
    obtain ⟨f, hf, rfl, rfl⟩ := h1
    split at hp
    · rename_i cs he
      simp only [Option.bind_eq_some_iff, Option.map_eq_some_iff, Prod.mk.injEq] at hp
      obtain ⟨n, h2, l, h3, v', h4, rfl, rfl⟩ := hp
      have hx := h.evV he
      simp only [VRep] at hx
      obtain ⟨vs, hx, hone, hr⟩ := hx
      obtain ⟨y, w', k1, k2, k3, k4⟩ := part_run hr hone h2 h3 h4
      exact ⟨y, w', by simp [execOp, ho, hx, Instr.field, Sem.run_bind, run_underlying hu, hf, asAgg, k1], k2, k3, k4⟩
    · simp at hp
  -- indexAddr
  · rename_i t x i ho
    split at hp
    · rename_i e s n ht hs hi
      simp only [Option.bind_eq_some_iff, Option.map_eq_some_iff, Prod.mk.injEq] at hp
      obtain ⟨len, h1, z, h2, rfl, rfl⟩ := hp
      obtain ⟨k, hi⟩ := tailI_eq hi
      have hI : a.eval i = .int k n := by have := h.evV hi; simpa [VRep] using this
      unfold telem at ht
      split at ht
      case h_2 => simp at ht
      rename_i e' hu
      simp only [Option.some.injEq] at ht; subst ht
      obtain ⟨ao, cap, hX, hcap, hb⟩ := slice_form h1 (h.evV hs)
      obtain ⟨b, o', rfl, hbase⟩ := hb (by omega)
      unfold tsz at h2
      simp only [Option.map_eq_some_iff] at h2
      obtain ⟨inf, hinf, rfl⟩ := h2
      refine .pure (x := .pointer (some ⟨b, o' + n.toNat * inf.size, none⟩)) ?_ (by simp only [ERep, VRep]; exact ⟨b, o', rfl, hbase⟩)
      simp [execOp, ho, hX, hI, Instr.indexAt, asIntOf, Sem.run_bind, run_underlying hu, hc, sizeOf, typeInfo, hinf, Addr.add_mid]
    · rename_i x2 x3 n ht hi
      simp only [Option.bind_eq_some_iff] at hp
      obtain ⟨⟨len, e⟩, ht, z, h2, hp⟩ := hp
      obtain ⟨k, hi⟩ := tailI_eq hi
      have hI : a.eval i = .int k n := by have := h.evV hi; simpa [VRep] using this
      unfold tarr at ht
      split at ht
      case h_2 => simp at ht
      rename_i n' e' hu
      simp only [Option.some.injEq, Prod.mk.injEq] at ht; obtain ⟨rfl, rfl⟩ := ht
      unfold tsz at h2
      simp only [Option.map_eq_some_iff] at h2
      obtain ⟨inf, hinf, rfl⟩ := h2
      split at hp
      · rename_i key off hx
        simp only [Option.some.injEq, Prod.mk.injEq] at hp; obtain ⟨rfl, rfl⟩ := hp
        refine .pure (x := .pointer (some ⟨lam key, off + n.toNat * inf.size, none⟩)) ?_ rfl
        simp [execOp, ho, h.evL hx, hI, Instr.indexAt, Instr.sureAddr, asIntOf, Sem.run_bind, run_underlying hu, hc, sizeOf, typeInfo, hinf, Addr.add_mid]
      · rename_i s off hx
        simp only [Option.some.injEq, Prod.mk.injEq] at hp; obtain ⟨rfl, rfl⟩ := hp
        have hX := h.evV hx
        simp only [VRep] at hX
        obtain ⟨b, o', hX, hbase⟩ := hX
        refine .pure (x := .pointer (some ⟨b, o' + (off + n.toNat * inf.size), none⟩)) ?_ (by simp only [ERep, VRep]; exact ⟨b, o', rfl, hbase⟩)
        simp [execOp, ho, hX, hI, Instr.indexAt, Instr.sureAddr, asIntOf, Sem.run_bind, run_underlying hu, hc, sizeOf, typeInfo, hinf, Addr.add_mid, Nat.add_assoc]
      · simp at hp
    · simp at hp
  -- extract
  · rename_i x i ho
    split at hp
    · rename_i vs he
      simp only [Option.map_eq_some_iff, Prod.mk.injEq] at hp
      obtain ⟨v', h1, rfl, rfl⟩ := hp
      have hx := h.evV he
      simp only [VRep] at hx
      obtain ⟨xs, hx, hr⟩ := hx
      rw [LRep_iff] at hr
      have hlt : i < xs.size := by have := (List.getElem?_eq_some_iff.1 h1).1; have := hr.1; simp at this; omega
      refine .pure (x := xs[i]) ?_ (hr.2 i v' xs[i] h1 (by simp [hlt]))
      simp [execOp, ho, hx, Instr.extract, hlt]
    · simp at hp
  -- slice
  · rename_i t x lo hi ho
    simp only [Option.map_eq_some_iff, Prod.mk.injEq] at hp
    obtain ⟨⟨c', v'⟩, h1, h2, h3⟩ := hp
    simp only at h2 h3; subst h2 h3
    obtain ⟨X, hX, hv⟩ := sliceV_sound h h1 hc
    exact .pure (x := X) (by simp [execOp, ho, Sem.run_bind, hX]) hv
  -- index
  · rename_i t x i ho
    simp only [Option.map_eq_some_iff, Prod.mk.injEq] at hp
    obtain ⟨⟨c', v'⟩, h1, h2, h3⟩ := hp
    simp only at h2 h3; subst h2 h3
    unfold indexV at h1
    split at h1
    · rename_i s n hu hx hi
      simp only [Option.some.injEq, Prod.mk.injEq] at h1; obtain ⟨rfl, rfl⟩ := h1
      obtain ⟨k, hi⟩ := tailI_eq hi
      have hI : a.eval i = .int k n := by have := h.evV hi; simpa [VRep] using this
      have hX := h.evV hx
      simp only [VRep] at hX
      have hlt : n.toNat < s.size := by omega
      refine .pure (x := .int .u8 (strAt s n.toNat)) ?_ (by simp [ERep, VRep])
      have : strAt s n.toNat = ((s[n.toNat]'hlt).toNat : Int) := by simp [strAt, hlt]
      simp [execOp, ho, hX, hI, Sem.run_bind, run_index_string (P := C.P) (w := w) t s k n hu, hc, this]
    · simp at h1
  -- build
  · rename_i t parts ho
    simp only [Option.map_eq_some_iff, Prod.mk.injEq] at hp
    obtain ⟨v', h1, rfl, rfl⟩ := hp
    unfold buildV at h1
    split at h1
    · rename_i z fs hz hu
      split at h1
      case isFalse => simp at h1
      rename_i hall
      simp only [Option.bind_eq_some_iff, Option.map_eq_some_iff] at h1
      obtain ⟨zc, hzc, out, hfl, rfl⟩ := h1
      unfold tzero at hz
      simp only [Option.map_eq_some_iff, Option.bind_eq_some_iff] at hz
      obtain ⟨zv, ⟨inf, hinf, hzv⟩, rfl⟩ := hz
      obtain ⟨hzr, hzo⟩ := cells_rep (w := w) (g := g) hzc (aOf_rep w g zv)
      obtain ⟨vo, k1, k2, k3⟩ := fillA_rep (vparts := (parts.map fun (p : Nat × Operand) => (p.1, a.eval p.2)).toList) hzr hzo hfl (by simp [List.map_map, Function.comp_def]) (by
        intro i p q v h1 h2 h3
        simp only [Array.toList_map, List.getElem?_map, Option.map_eq_some_iff] at h1 h2
        obtain ⟨r, hr, rfl⟩ := h1
        obtain ⟨r', hr', rfl⟩ := h2
        rw [hr] at hr'; simp only [Option.some.injEq] at hr'; subst hr'
        exact h.evV (asV_eq h3))
      have hzrun : (zeroValue t).run C.P w = .ok zv w := by simp [zeroValue, typeInfo, hinf, Sem.run_bind, hzv]
      refine .pure (x := .agg vo) ?_ (by simp only [ERep, VRep]; exact ⟨vo, rfl, k3, k2⟩)
      have hpl : (fs.mapM fun f => (do Pure.pure (f.offset, ← sizeOf f.type) : Sem (Nat × Nat))).run C.P w = .ok (fs.map fun f => (f.offset, (tsz C.P f.type).getD 0)) w := places_run fs hall
      have hfp : (fun i => (fs.map fun f => (f.offset, (tsz C.P f.type).getD 0))[i]?) = fieldPl C.P fs := by
        funext i
        simp only [fieldPl, Array.getElem?_map]
        cases hq : fs[i]? with
        | none => rfl
        | some f =>
          have := (Array.all_eq_true_iff_forall_mem.1 hall) f (Array.mem_of_getElem? hq)
          obtain ⟨n, hn⟩ := Option.isSome_iff_exists.1 this
          simp [hn]
      have hpt : (parts.map fun x => match x with | (i, x) => (i, a.eval x)) = parts.map fun (p : Nat × Operand) => (p.1, a.eval p.2) := rfl
      simp only [execOp, ho, Instr.build, Sem.run_bind, hzrun, Result.andThen_ok, run_underlying hu, hpl, hfp]
      rw [hpt, k1]
      rfl
    · rename_i z n e hz hu
      simp only [Option.bind_eq_some_iff, Option.map_eq_some_iff] at h1
      obtain ⟨sz, hsz, zc, hzc, out, hfl, rfl⟩ := h1
      unfold tzero at hz
      simp only [Option.map_eq_some_iff, Option.bind_eq_some_iff] at hz
      obtain ⟨zv, ⟨inf, hinf, hzv⟩, rfl⟩ := hz
      obtain ⟨hzr, hzo⟩ := cells_rep (w := w) (g := g) hzc (aOf_rep w g zv)
      obtain ⟨vo, k1, k2, k3⟩ := fillA_rep (vparts := (parts.map fun (p : Nat × Operand) => (p.1, a.eval p.2)).toList) hzr hzo hfl (by simp [List.map_map, Function.comp_def]) (by
        intro i p q v h1 h2 h3
        simp only [Array.toList_map, List.getElem?_map, Option.map_eq_some_iff] at h1 h2
        obtain ⟨r, hr, rfl⟩ := h1
        obtain ⟨r', hr', rfl⟩ := h2
        rw [hr] at hr'; simp only [Option.some.injEq] at hr'; subst hr'
        exact h.evV (asV_eq h3))
      have hzrun : (zeroValue t).run C.P w = .ok zv w := by simp [zeroValue, typeInfo, hinf, Sem.run_bind, hzv]
      unfold tsz at hsz
      simp only [Option.map_eq_some_iff] at hsz
      obtain ⟨i2, hi2, rfl⟩ := hsz
      have hs : (sizeOf e).run C.P w = .ok i2.size w := by simp [sizeOf, typeInfo, hi2, Sem.run_bind]
      refine .pure (x := .agg vo) ?_ (by simp only [ERep, VRep]; exact ⟨vo, rfl, k3, k2⟩)
      have hpt : (parts.map fun x => match x with | (i, x) => (i, a.eval x)) = parts.map fun (p : Nat × Operand) => (p.1, a.eval p.2) := rfl
      simp only [execOp, ho, Instr.build, Sem.run_bind, hzrun, Result.andThen_ok, run_underlying hu, hs]
      rw [hpt, k1]
      rfl
    · simp at h1
  -- makeFunc
  · rename_i f first caps ho
    split at hp
    · rename_i p q h1 h2
      simp only [Option.some.injEq, Prod.mk.injEq] at hp; obtain ⟨rfl, rfl⟩ := hp
      refine .pure (x := .func (.func f) (first.map a.eval) (caps.map a.eval)) ?_ ?_
      · simp only [execOp, ho, Instr.makeFunc]; rfl
      · simp only [ERep, VRep]
        exact ⟨_, _, rfl, by simpa using args_rep h (xs := first.toList) h1, by simpa using args_rep h (xs := caps.toList) h2⟩
    · simp at hp
  -- len
  · rename_i args ts ho
    split at hp
    · rename_i x e ha hu
      simp only [Option.map_eq_some_iff, Option.bind_eq_some_iff, Prod.mk.injEq] at hp
      obtain ⟨n, ⟨s, hs, hn⟩, rfl, rfl⟩ := hp
      simp only [Option.bind_eq_some_iff] at hu
      obtain ⟨t, ht, hu⟩ := hu
      obtain ⟨ao, cap, hX, _⟩ := slice_form hn (h.evV (asV_eq hs))
      refine .pure (x := goInt n) ?_ (by simp [ERep, VRep, goInt])
      have := args1 ha; subst this
      simp [execOp, ho, resolve, invoke, builtin, Builtin.len_, ht, Sem.run_bind, run_underlying hu, hX]
    · rename_i x ha hu
      split at hp
      · rename_i s hs
        simp only [Option.some.injEq, Prod.mk.injEq] at hp; obtain ⟨rfl, rfl⟩ := hp
        simp only [Option.bind_eq_some_iff] at hu
        obtain ⟨t, ht, hu⟩ := hu
        have hX := h.evV hs
        simp only [VRep] at hX
        refine .pure (x := goInt s.size) ?_ (by simp [ERep, VRep, goInt])
        have := args1 ha; subst this
        simp [execOp, ho, resolve, invoke, builtin, Builtin.len_, ht, Sem.run_bind, run_underlying hu, hX]
      · simp at hp
    · simp at hp
  -- min
  · rename_i args ts ho
    have hm : ∀ {x : Operand} {k : IntKind} {n : Int}, (st.ev x).asI = some (k, n) → a.eval x = .int k n := fun hx => h.evI hx
    split at hp
    · rename_i k x k' y ha
      split at hp
      case isFalse => simp at hp
      rename_i hk; subst hk
      simp only [Option.some.injEq, Prod.mk.injEq] at hp; obtain ⟨rfl, rfl⟩ := hp
      obtain ⟨p, q, rfl, h1, h2⟩ : ∃ p q, args = #[p, q] ∧ (st.ev p).asI = some (k, x) ∧ (st.ev q).asI = some (k, y) := by
        rcases args with ⟨l⟩
        simp only [List.map_eq_cons_iff, List.map_eq_nil_iff] at ha
        obtain ⟨p, _, rfl, h1, q, _, rfl, h2, rfl⟩ := ha
        exact ⟨p, q, rfl, h1, h2⟩
      refine .pure (x := .int k (min x y)) ?_ (by simp [ERep, VRep])
      simp [execOp, ho, resolve, invoke, builtin, Builtin.min_, Sem.run_bind, hm h1, hm h2, min2_int]
    · rename_i k x k' y k'' z ha
      split at hp
      case isFalse => simp at hp
      rename_i hk; obtain ⟨rfl, rfl⟩ := hk
      simp only [Option.some.injEq, Prod.mk.injEq] at hp; obtain ⟨rfl, rfl⟩ := hp
      obtain ⟨p, q, r, rfl, h1, h2, h3⟩ : ∃ p q r, args = #[p, q, r] ∧ (st.ev p).asI = some (k, x) ∧ (st.ev q).asI = some (k, y) ∧ (st.ev r).asI = some (k, z) := by
        rcases args with ⟨l⟩
        simp only [List.map_eq_cons_iff, List.map_eq_nil_iff] at ha
        obtain ⟨p, _, rfl, h1, q, _, rfl, h2, r, _, rfl, h3, rfl⟩ := ha
        exact ⟨p, q, r, rfl, h1, h2, h3⟩
      refine .pure (x := .int k (min (min x y) z)) ?_ (by simp [ERep, VRep])
      simp [execOp, ho, resolve, invoke, builtin, Builtin.min_, Sem.run_bind, hm h1, hm h2, hm h3, min2_int]
    · simp at hp
  · rename_i args ts ho
    have hm : ∀ {x : Operand} {k : IntKind} {n : Int}, (st.ev x).asI = some (k, n) → a.eval x = .int k n := fun hx => h.evI hx
    split at hp
    · rename_i k x k' y ha
      split at hp
      case isFalse => simp at hp
      rename_i hk; subst hk
      simp only [Option.some.injEq, Prod.mk.injEq] at hp; obtain ⟨rfl, rfl⟩ := hp
      obtain ⟨p, q, rfl, h1, h2⟩ : ∃ p q, args = #[p, q] ∧ (st.ev p).asI = some (k, x) ∧ (st.ev q).asI = some (k, y) := by
        rcases args with ⟨l⟩
        simp only [List.map_eq_cons_iff, List.map_eq_nil_iff] at ha
        obtain ⟨p, _, rfl, h1, q, _, rfl, h2, rfl⟩ := ha
        exact ⟨p, q, rfl, h1, h2⟩
      refine .pure (x := .int k (max x y)) ?_ (by simp [ERep, VRep])
      simp [execOp, ho, resolve, invoke, builtin, Builtin.max_, Sem.run_bind, hm h1, hm h2, max2_int]
    · rename_i k x k' y k'' z ha
      split at hp
      case isFalse => simp at hp
      rename_i hk; obtain ⟨rfl, rfl⟩ := hk
      simp only [Option.some.injEq, Prod.mk.injEq] at hp; obtain ⟨rfl, rfl⟩ := hp
      obtain ⟨p, q, r, rfl, h1, h2, h3⟩ : ∃ p q r, args = #[p, q, r] ∧ (st.ev p).asI = some (k, x) ∧ (st.ev q).asI = some (k, y) ∧ (st.ev r).asI = some (k, z) := by
        rcases args with ⟨l⟩
        simp only [List.map_eq_cons_iff, List.map_eq_nil_iff] at ha
        obtain ⟨p, _, rfl, h1, q, _, rfl, h2, r, _, rfl, h3, rfl⟩ := ha
        exact ⟨p, q, r, rfl, h1, h2, h3⟩
      refine .pure (x := .int k (max (max x y) z)) ?_ (by simp [ERep, VRep])
      simp [execOp, ho, resolve, invoke, builtin, Builtin.max_, Sem.run_bind, hm h1, hm h2, hm h3, max2_int]
    · simp at hp
  · simp at hp
end
end Go.Sx
