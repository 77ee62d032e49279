/- A part of the proofs of this seat: RA. No condition is set. -/
import Derived.Test.YtchhjighipjnnaaSxX
set_option linter.unusedVariables false
set_option linter.unusedSimpArgs false
namespace Go.Sx

/-! ### a run by the kernel: the predicate transformer, made a function -/

def condB (op : BinOp) (b : Int) : Bool :=
  match op with
  | .quo | .rem => !(b == 0)
  | .shl | .shr => decide (0 ≤ b)
  | _ => true
def strB (op : BinOp) (x y : AV) : Bool :=
  match op, x, y with
  | .add, .str a, .str b => decide (a.size + b.size ≤ 9223372036854775807)
  | _, _, _ => true
def condBV (op : BinOp) (x y : EV) : Bool :=
  match x, y with
  | .val (.int _ _), .val (.int _ b) => condB op b
  | .val x, .val y => strB op x y
  | _, _ => true
def condS (P : Program) (n : Nat) (l : Int) (h : Option Int) : Bool :=
  match h with
  | some h => decide (0 ≤ l) && decide (l ≤ h) && decide (h ≤ (n : Int))
  | none => false
/-- what an operation asks, as a truth value -/
def condP (P : Program) (ρ : Operand → EV) : Op → Bool
  | .binOp op t x y _ => condBV op (ρ x) (ρ y)
  | .indexAddr t x i =>
    match ρ x, tailI (ρ i) with
    | .val s, some n => match slen s with
      | some len => decide (0 ≤ n) && decide (n < (len : Int))
      | none => false
    | _, _ => false
  | .slice t x lo hi none =>
    match ρ x, bndI ρ 0 lo with
    | .val v, some l => (match v with
      | .str s => condS P s.size l (bndI ρ s.size hi)
      | v => match slen v with
        | some n => condS P n l (bndI ρ n hi)
        | none => false)
    | _, _ => false
  | .index t x i =>
    match ρ x, tailI (ρ i) with
    | .val (.str s), some n => decide (0 ≤ n) && decide (n < s.size)
    | _, _ => false
  | _ => true

theorem binI_cond {op : BinOp} {k : IntKind} {a b : Int} {c : Prop} {v : AV} (h : binI op k a b = some (c, v)) (hc : condB op b = true) : c := by
  cases op <;> simp only [binI, Option.some.injEq, Prod.mk.injEq, reduceCtorEq] at h <;> (try exact h.elim) <;> obtain ⟨rfl, _⟩ := h <;> first | trivial | (simpa [condB] using hc)
theorem shI_cond {op : BinOp} {k : IntKind} {a b : Int} {c : Prop} {v : AV} (h : shI op k a b = some (c, v)) (hc : condB op b = true) : c := by
  cases op <;> simp only [shI, Option.some.injEq, Prod.mk.injEq, reduceCtorEq] at h <;> (try exact h.elim) <;> obtain ⟨rfl, _⟩ := h <;> first | trivial | (simpa [condB] using hc)
theorem binF_cond {op : BinOp} {a b : Nat} {c : Prop} {v : AV} (h : binF op a b = some (c, v)) : c := by
  cases op <;> simp only [binF, Option.some.injEq, Prod.mk.injEq, reduceCtorEq] at h <;> (try exact h.elim) <;> obtain ⟨rfl, _⟩ := h <;> trivial
theorem othV_cond {P : Program} {op : BinOp} {t : TypeId} {x y : AV} {c : Prop} {v : AV} (h : othV P op t x y = some (c, v)) (hc : strB op x y = true) : c := by
  unfold othV at h
  split at h
  · cases op <;> simp only [strV, Option.some.injEq, Prod.mk.injEq, reduceCtorEq] at h <;> (try exact h.elim) <;> obtain ⟨rfl, _⟩ := h <;> first | trivial | (simpa [strB] using hc)
  · split at h
    · simp only [Option.map_eq_some_iff, Prod.mk.injEq] at h
      obtain ⟨_, _, rfl, _⟩ := h; trivial
    · simp only [Option.map_eq_some_iff, Prod.mk.injEq] at h
      obtain ⟨_, _, rfl, _⟩ := h; trivial
    · cases h
theorem binV_cond {P : Program} {op : BinOp} {t : TypeId} {x y : EV} {c : Prop} {v : AV} (h : binV P op t x y = some (c, v)) (hc : condBV op x y = true) : c := by
  unfold binV at h
  split at h
  · rename_i k a k' b
    have hc' : condB op b = true := hc
    cases op <;> first
      | exact shI_cond h hc'
      | (dsimp only at h; split at h; · exact binI_cond h hc'
         · cases h)
  · split at h <;> first | (cases h; trivial) | cases h
  · rename_i x y hi _
    split at h
    · exact binF_cond h
    · refine othV_cond h ?_
      unfold condBV at hc
      split at hc
      · rename_i he1 he2; cases he1; cases he2; exact (hi _ _ _ _ rfl rfl).elim
      · rename_i he1 he2; cases he1; cases he2; exact hc
      · rename_i hne; exact (hne _ _ rfl rfl).elim
  · cases h
theorem unV_cond {op : UnOp} {x : EV} {c : Prop} {v : AV} (h : unV op x = some (c, v)) : c := by
  unfold unV at h
  split at h
  · cases h; trivial
  · cases h; trivial
  · cases h; trivial
  · simp only [Option.map_eq_some_iff, Prod.mk.injEq] at h
    obtain ⟨_, _, rfl, _⟩ := h; trivial
  · cases h
theorem cnvV_cond {P : Program} {t : TypeId} {x : EV} {c : Prop} {v : AV} (h : cnvV P t x = some (c, v)) : c := by
  unfold cnvV at h
  split at h
  · cases h; trivial
  · cases h; trivial
  · simp only [Option.map_eq_some_iff, Prod.mk.injEq] at h
    obtain ⟨_, _, rfl, _⟩ := h; trivial
  · cases h

theorem mapC {α β : Type} {o : Option (α)} {f : α → Prop × β} {c : Prop} {v : β} (h : o.map f = some (c, v)) : ∃ a, o = some a ∧ f a = (c, v) := by
  simpa [Option.map_eq_some_iff] using h

theorem pureV_cond {P : Program} {ρ : Operand → EV} {lL : Nat → Option (List AV)} {H : List (List AV)} {op : Op} {c : Prop} {v : EV} (h : pureV P ρ lL H op = some (c, v)) (hc : condP P ρ op = true) : c := by
  cases op
  case binOp op t x y t' =>
    simp only [pureV] at h
    simp only [condP] at hc
    split at h
    · rename_i he
      cases h
      exact binV_cond he hc
    · obtain ⟨a, _, hh⟩ := mapC h
      cases hh; trivial
  case unOp op t x =>
    simp only [pureV] at h
    obtain ⟨⟨c', v'⟩, h1, hh⟩ := mapC h
    cases hh
    exact unV_cond h1
  case convert s d x =>
    simp only [pureV] at h
    split at h
    · obtain ⟨⟨c', v'⟩, h1, hh⟩ := mapC h
      cases hh
      exact cnvV_cond h1
    · cases h
  case indexAddr t x i =>
    simp only [pureV] at h
    simp only [condP] at hc
    split at h
    · rename_i h1 h2 h3
      rw [h2, h3] at hc
      dsimp only at hc
      cases hs : slen _ with
      | none => rw [hs] at h; cases h
      | some len =>
        rw [hs] at h hc
        simp only [Option.bind_some, Option.map_eq_some_iff, Prod.mk.injEq] at h
        obtain ⟨_, _, rfl, _⟩ := h
        simpa using hc
    · cases h
  case slice t x lo hi m =>
    cases m with
    | some m => simp [pureV] at h
    | none =>
      simp only [pureV] at h
      simp only [condP] at hc
      obtain ⟨⟨c', v'⟩, h1, hh⟩ := mapC h
      cases hh
      unfold sliceV at h1
      split at h1
      · rename_i s l hx hl
        rw [hx, hl] at hc
        split at h1
        · obtain ⟨a, h2, hh⟩ := mapC h1
          cases hh
          have h2' : bndI ρ s.size hi = some a := h2
          have hc' : condS P s.size l (bndI ρ s.size hi) = true := hc
          rw [h2'] at hc'
          simp only [condS, Bool.and_eq_true, decide_eq_true_eq] at hc'
          exact ⟨hc'.1.1, hc'.1.2, hc'.2⟩
        · cases h1
      · rename_i v₂ l hne hx hl
        rw [hx, hl] at hc
        simp only [Option.bind_eq_some_iff, Option.map_eq_some_iff, Prod.mk.injEq] at h1
        obtain ⟨e, h2, z, h3, n, h4, hh, h5, a, h6, rfl, _⟩ := h1
        have hc' : condS P n l (bndI ρ n hi) = true := by
          cases v₂ <;> first
            | (simp only [slen] at h4; cases h4; done)
            | (simp only [slen, Option.some.injEq] at h4; subst h4; exact hc)
            | skip
        rw [h5] at hc'
        simp only [condS, Bool.and_eq_true, decide_eq_true_eq] at hc'
        exact ⟨hc'.1.1, hc'.1.2, hc'.2⟩
      · cases h1
  case index t x i =>
    simp only [pureV] at h
    simp only [condP] at hc
    obtain ⟨⟨c', v'⟩, h1, hh⟩ := mapC h
    cases hh
    unfold indexV at h1
    split at h1
    · rename_i s n h2 h3 h4
      rw [h3, h4] at hc
      simp only [Bool.and_eq_true, decide_eq_true_eq] at hc
      cases h1
      exact hc
    · cases h1
  case move => cases h; trivial
  case assign => cases h; trivial
  case pick a b d =>
    simp only [pureV] at h
    obtain ⟨_, _, hh⟩ := mapC h
    cases hh; trivial
  case call c' =>
    obtain ⟨callee, args, ts⟩ := c'
    cases callee with
    | value f => simp [pureV] at h
    | invoke r m => simp [pureV] at h
    | builtin b =>
      cases b <;> simp only [pureV, reduceCtorEq] at h
      all_goals (repeat' split at h) <;> first
        | (cases h; done)
        | (cases h; trivial)
        | (simp only [Option.map_eq_some_iff, Prod.mk.injEq] at h; obtain ⟨_, _, rfl, _⟩ := h; trivial)
  case makeFunc f first caps =>
    cases f <;> simp only [pureV, reduceCtorEq] at h
    split at h <;> first
      | (cases h; done)
      | (cases h; trivial)
  all_goals first
    | (simp [pureV] at h; done)
    | skip
  all_goals
    simp only [pureV, Option.bind_eq_some_iff, Option.map_eq_some_iff, Prod.mk.injEq] at h
    first
    | (obtain ⟨_, _, rfl, _⟩ := h; trivial)
    | (repeat' split at h
       all_goals first
        | (cases h; done)
        | (cases h; trivial)
        | (simp only [Option.bind_eq_some_iff, Option.map_eq_some_iff, Prod.mk.injEq] at h; obtain ⟨_, _, _, _, rfl, _⟩ := h; trivial)
        | (simp only [Option.bind_eq_some_iff, Option.map_eq_some_iff, Prod.mk.injEq] at h; obtain ⟨_, _, _, _, _, _, rfl, _⟩ := h; trivial)
        | (simp only [Option.bind_eq_some_iff, Option.map_eq_some_iff, Prod.mk.injEq] at h; obtain ⟨_, _, _, _, _, _, _, _, rfl, _⟩ := h; trivial)
        | (simp only [Option.bind_eq_some_iff, Option.map_eq_some_iff, Prod.mk.injEq] at h; obtain ⟨_, _, rfl, _⟩ := h; trivial)
        | skip)
    | skip
  all_goals
    obtain ⟨_, _, h⟩ := h
    first
    | (cases h; done)
    | (split at h <;> first | (cases h; done) | (cases h; trivial))

end Go.Sx
