/- A part of the proofs of this seat: Sx7. No condition is set. -/
import Derived.Test.YtchhjighipjnnaaSx6
set_option linter.unusedVariables false
set_option linter.unusedSimpArgs false
namespace Go.Sx
section
variable {C : Cx} {st : St} {a : Act} {w : World} {g : Gh} {lam : Nat → Nat}

/-- it runs to a value that stands for v; no block turns -/
def Gives (P : Program) (w : World) (g : Gh) (s : Sem Value) (v : AV) : Prop :=
  ∃ x w', s.run P w = .ok x w' ∧ w'.heap = w.heap ∧ Sames w w' ∧ VRep w g v x
theorem Gives.pure {P : Program} {w : World} {g : Gh} {s : Sem Value} {v : AV} {x : Value} (h : s.run P w = .ok x w) (hv : VRep w g v x) : Gives P w g s v :=
  ⟨x, w, h, rfl, ⟨rfl, rfl, rfl⟩, hv⟩

theorem binI_sound {P : Program} {op : BinOp} {t : TypeId} {k : IntKind} {x y : Int} {c : Prop} {v : AV} (h : binI op k x y = some (c, v)) (hc : c) (xo yo : Operand) :
    Gives P w g (do eqGuard op t xo yo (.int k x) (.int k y); binOp op t (.int k x) (.int k y)) v := by
  cases op <;> simp only [binI, Option.some.injEq, Prod.mk.injEq, reduceCtorEq] at h
  case quo =>
    obtain ⟨rfl, rfl⟩ := h
    exact .pure (by simp [eqGuard, binOp, Op.intDiv, hc]; rfl) (by simp [VRep])
  case rem =>
    obtain ⟨rfl, rfl⟩ := h
    exact .pure (by simp [eqGuard, binOp, Op.intDiv, hc]; rfl) (by simp [VRep])
  case and => obtain ⟨rfl, rfl⟩ := h; exact .pure (x := .int k (bitsI .and k x y)) (by cases k <;> rfl) (by simp [VRep])
  case or => obtain ⟨rfl, rfl⟩ := h; exact .pure (x := .int k (bitsI .or k x y)) (by cases k <;> rfl) (by simp [VRep])
  case xor => obtain ⟨rfl, rfl⟩ := h; exact .pure (x := .int k (bitsI .xor k x y)) (by cases k <;> rfl) (by simp [VRep])
  case andNot => obtain ⟨rfl, rfl⟩ := h; exact .pure (x := .int k (bitsI .andNot k x y)) (by cases k <;> rfl) (by simp [VRep])
  all_goals
    obtain ⟨rfl, rfl⟩ := h
    exact .pure (by simp [eqGuard, binOp, Op.intArith, Op.intCmp]; rfl) (by simp [VRep])
theorem shI_sound {P : Program} {op : BinOp} {t : TypeId} {k k' : IntKind} {x y : Int} {c : Prop} {v : AV} (h : shI op k x y = some (c, v)) (hc : c) (xo yo : Operand) :
    Gives P w g (do eqGuard op t xo yo (.int k x) (.int k' y); binOp op t (.int k x) (.int k' y)) v := by
  cases op <;> simp only [shI, Option.some.injEq, Prod.mk.injEq, reduceCtorEq] at h
  all_goals
    obtain ⟨rfl, rfl⟩ := h
    have hn : ¬ y < 0 := by omega
    exact .pure (by simp [eqGuard, binOp, Op.shift, hn]; rfl) (by simp [VRep])
theorem binF_sound {P : Program} {op : BinOp} {t : TypeId} {x y : Nat} {c : Prop} {v : AV} (h : binF op (cn x) (cn y) = some (c, v)) (hc : c) (xo yo : Operand) :
    Gives P w g (do eqGuard op t xo yo (.float .f64 x) (.float .f64 y); binOp op t (.float .f64 x) (.float .f64 y)) v := by
  have hg : ∀ w : World, (eqGuard op t xo yo (.float .f64 x) (.float .f64 y)).run P w = .ok () w := by
    intro w; cases op <;> simp [eqGuard] <;> rfl
  have hf : FloatKind.f64.format = Ieee.double := rfl
  cases op <;> simp only [binF, Option.some.injEq, Prod.mk.injEq, reduceCtorEq] at h
  case add =>
    obtain ⟨rfl, rfl⟩ := h
    obtain ⟨r, w', h1, h2, h3, h4, h5⟩ := fa_run P w .add Ieee.double.add x y (fun _ _ => rfl) (add_cn _ _) (by simp) t
    exact ⟨.float .f64 r, w', by simp [Sem.run_bind, hg, h1], h2, h3, by simp only [VRep]; exact ⟨r, rfl, h4, h5⟩⟩
  case sub =>
    obtain ⟨rfl, rfl⟩ := h
    obtain ⟨r, w', h1, h2, h3, h4, h5⟩ := fa_run P w .sub Ieee.double.sub x y (fun _ _ => rfl) (sub_cn _ _) (by simp) t
    exact ⟨.float .f64 r, w', by simp [Sem.run_bind, hg, h1], h2, h3, by simp only [VRep]; exact ⟨r, rfl, h4, h5⟩⟩
  case mul =>
    obtain ⟨rfl, rfl⟩ := h
    obtain ⟨r, w', h1, h2, h3, h4, h5⟩ := fa_run P w .mul Ieee.double.mul x y (fun _ _ => rfl) (mul_cn _ _) (by simp) t
    exact ⟨.float .f64 r, w', by simp [Sem.run_bind, hg, h1], h2, h3, by simp only [VRep]; exact ⟨r, rfl, h4, h5⟩⟩
  case quo =>
    obtain ⟨rfl, rfl⟩ := h
    obtain ⟨r, w', h1, h2, h3, h4, h5⟩ := fa_run P w .quo Ieee.double.div x y (fun _ _ => rfl) (div_cn _ _) (by simp) t
    exact ⟨.float .f64 r, w', by simp [Sem.run_bind, hg, h1], h2, h3, by simp only [VRep]; exact ⟨r, rfl, h4, h5⟩⟩
  case gtr =>
    obtain ⟨rfl, rfl⟩ := h
    exact .pure (by simp only [Sem.run_bind, hg]; simp [binOp, Op.floatCmp, hf]; rfl) (by simp [VRep, flt, feq, order_cn, lt_swap])
  case geq =>
    obtain ⟨rfl, rfl⟩ := h
    exact .pure (by simp only [Sem.run_bind, hg]; simp [binOp, Op.floatCmp, hf]; rfl) (by simp [VRep, flt, feq, order_cn, lt_swap])
  all_goals
    obtain ⟨rfl, rfl⟩ := h
    exact .pure (by simp only [Sem.run_bind, hg]; simp [binOp, Op.floatCmp, hf]; rfl) (by simp [VRep, flt, feq, order_cn, bne])
theorem eqb_run (P : Program) (w : World) (t : TypeId) (p q : Bool) (hu : P.underlying t = some .bool) : (Op.equal t (.bool p) (.bool q)).run P w = .ok (p == q) w := by
  show (Op.equalIn (9999 + 1) t (.bool p) (.bool q)).run P w = _
  rw [Op.equalIn, Sem.run_bind, run_underlying hu]
  rfl
theorem nilEq_sound {P : Program} {t : TypeId} {x y : AV} {X Y : Value} {r : Bool} (h : nilEq P t x y = some r) (hx : VRep w g x X) (hy : VRep w g y Y) : (Op.equal t X Y).run P w = .ok r w ∧
    ((∃ p q, X = .pointer p ∧ Y = .pointer q) ∨ (∃ p q a b c d, X = .slice p a b ∧ Y = .slice q c d)) := by
  have pt : isPtr P t = true → ∃ e, P.underlying t = some (.pointer e) := by
    intro h; unfold isPtr at h; split at h
    · rename_i e he; exact ⟨e, he⟩
    · cases h
  have sl : isSl P t = true → ∃ e, P.underlying t = some (.slice e) := by
    intro h; unfold isSl at h; split at h
    · rename_i e he; exact ⟨e, he⟩
    · cases h
  have goP : ∀ (p q : Option Addr) (b : Bool), isPtr P t = true → (p = none ∧ b = q.isNone ∨ p ≠ none ∧ q = none ∧ b = false) → (Op.equal t (.pointer p) (.pointer q)).run P w = .ok b w := by
    intro p q b ht hb
    obtain ⟨e, he⟩ := pt ht
    show (Op.equalIn (9999 + 1) t _ _).run P w = _
    rw [Op.equalIn, Sem.run_bind, run_underlying he]
    simp only [Result.andThen_ok]
    rcases hb with ⟨rfl, rfl⟩ | ⟨hp, rfl, rfl⟩
    · rfl
    · cases p with
      | none => exact (hp rfl).elim
      | some p => rfl
  have goS : ∀ (p q : Option Addr) (b : Bool) (l c l' c' : Nat), isSl P t = true → (p = none ∧ b = q.isNone ∨ p ≠ none ∧ q = none ∧ b = false) → (Op.equal t (.slice p l c) (.slice q l' c')).run P w = .ok b w := by
    intro p q b l c l' c' ht hb
    obtain ⟨e, he⟩ := sl ht
    show (Op.equalIn (9999 + 1) t _ _).run P w = _
    rw [Op.equalIn, Sem.run_bind, run_underlying he]
    simp only [Result.andThen_ok]
    rcases hb with ⟨rfl, rfl⟩ | ⟨hp, rfl, rfl⟩
    · rfl
    · cases p with
      | none => exact (hp rfl).elim
      | some p => rfl
  unfold nilEq at h
  split at h <;> (try cases h) <;> split at h <;> (try cases h)
  · rename_i ht
    simp only [VRep] at hx hy
    obtain ⟨b, o, rfl, _⟩ := hx
    subst hy
    exact ⟨goP _ _ _ ht (.inr ⟨by simp, rfl, rfl⟩), .inl ⟨_, _, rfl, rfl⟩⟩
  · rename_i ht
    simp only [VRep] at hx hy
    obtain ⟨b, o, rfl, _⟩ := hy
    subst hx
    exact ⟨goP _ _ _ ht (.inl ⟨rfl, rfl⟩), .inl ⟨_, _, rfl, rfl⟩⟩
  · rename_i ht
    simp only [VRep] at hx hy
    subst hx hy
    exact ⟨goP _ _ _ ht (.inl ⟨rfl, rfl⟩), .inl ⟨_, _, rfl, rfl⟩⟩
  · rename_i ht
    simp only [VRep] at hx hy
    subst hx hy
    exact ⟨goS _ _ _ _ _ _ _ ht (.inl ⟨rfl, rfl⟩), .inr ⟨_, _, _, _, _, _, rfl, rfl⟩⟩
  · rename_i ht
    simp only [VRep] at hx hy
    obtain ⟨b, δ, cap, n, _, rfl, _⟩ := hx
    subst hy
    exact ⟨goS _ _ _ _ _ _ _ ht (.inr ⟨by simp, rfl, rfl⟩), .inr ⟨_, _, _, _, _, _, rfl, rfl⟩⟩
  · rename_i ht
    simp only [VRep] at hx hy
    obtain ⟨cap, _, h1 | ⟨b, o, rfl, _⟩⟩ := hx
    · simp at h1
    · subst hy
      exact ⟨goS _ _ _ _ _ _ _ ht (.inr ⟨by simp, rfl, rfl⟩), .inr ⟨_, _, _, _, _, _, rfl, rfl⟩⟩
theorem othV_sound {P : Program} {op : BinOp} {t : TypeId} {x y : AV} {X Y : Value} {c : Prop} {v : AV} (h : othV P op t x y = some (c, v)) (hc : c) (xo yo : Operand)
    (hx : VRep w g x X) (hy : VRep w g y Y) : Gives P w g (do eqGuard op t xo yo X Y; binOp op t X Y) v := by
  unfold othV at h
  split at h
  · rename_i a b
    simp only [VRep] at hx hy
    subst hx hy
    cases op <;> simp only [strV, Option.some.injEq, Prod.mk.injEq, reduceCtorEq] at h <;> obtain ⟨rfl, rfl⟩ := h
    · refine .pure (x := .string (a ++ b)) ?_ (by simp [VRep])
      have : ¬ (((a.size + b.size : Nat) : Int) > IntKind.i64.max) := by
        have : IntKind.i64.max = 9223372036854775807 := by decide
        omega
      simp only [eqGuard, binOp, Op.stringOp, Sem.run_bind, Sem.run_pure, Result.andThen_ok, this, if_false]
      rfl
    · exact .pure (x := .bool (a.toList == b.toList)) (by simp [eqGuard, binOp, Op.stringOp]) (by simp [VRep])
    · exact .pure (x := .bool (!(a.toList == b.toList))) (by simp [eqGuard, binOp, Op.stringOp]) (by simp [VRep])
  · split at h
    · simp only [Option.map_eq_some_iff, Prod.mk.injEq] at h
      obtain ⟨r, hr, _, rfl⟩ := h
      obtain ⟨h1, ⟨p, q, rfl, rfl⟩ | ⟨p, q, a, b, c, d, rfl, rfl⟩⟩ := nilEq_sound hr hx hy
      · exact .pure (x := .bool r) (by simp [eqGuard, binOp, h1]) (by simp [VRep])
      · exact .pure (x := .bool r) (by simp [eqGuard, binOp, h1]) (by simp [VRep])
    · simp only [Option.map_eq_some_iff, Prod.mk.injEq] at h
      obtain ⟨r, hr, _, rfl⟩ := h
      obtain ⟨h1, ⟨p, q, rfl, rfl⟩ | ⟨p, q, a, b, c, d, rfl, rfl⟩⟩ := nilEq_sound hr hx hy
      · exact .pure (x := .bool (!r)) (by simp [eqGuard, binOp, h1]) (by simp [VRep])
      · exact .pure (x := .bool (!r)) (by simp [eqGuard, binOp, h1]) (by simp [VRep])
    · cases h

theorem binV_sound {P : Program} {op : BinOp} {t : TypeId} {x y : EV} {X Y : Value} {c : Prop} {v : AV} (h : binV P op t x y = some (c, v)) (hc : c) (xo yo : Operand)
    (hx : ERep w g lam x X) (hy : ERep w g lam y Y) : Gives P w g (do eqGuard op t xo yo X Y; binOp op t X Y) v := by
  unfold binV at h
  split at h
  · rename_i k a k' b
    simp only [ERep, VRep] at hx hy
    subst hx hy
    split at h
    · exact shI_sound h hc xo yo
    · exact shI_sound h hc xo yo
    · split at h
      · rename_i hk; subst hk; exact binI_sound h hc xo yo
      · simp at h
  · rename_i a b
    simp only [ERep, VRep] at hx hy
    subst hx hy
    split at h
    · rename_i hu
      simp only [Option.some.injEq, Prod.mk.injEq] at h; obtain ⟨rfl, rfl⟩ := h
      exact .pure (x := .bool (a == b)) (by simp [eqGuard, binOp, eqb_run P _ t a b hu]) (by simp [VRep])
    · rename_i hu
      simp only [Option.some.injEq, Prod.mk.injEq] at h; obtain ⟨rfl, rfl⟩ := h
      exact .pure (x := .bool (a != b)) (by simp [eqGuard, binOp, eqb_run P _ t a b hu]; cases a <;> cases b <;> rfl) (by simp [VRep])
    · simp at h
  · rename_i xv yv _ _
    split at h
    · rename_i p q hp hq
      simp only [ERep] at hx hy
      obtain ⟨b, rfl, h1, rfl⟩ := asF_rep hp hx
      obtain ⟨b', rfl, h2, rfl⟩ := asF_rep hq hy
      exact binF_sound h hc xo yo
    · simp only [ERep] at hx hy
      exact othV_sound h hc xo yo hx hy
  · simp at h

theorem sameAddr_one (P : Program) (w : World) (b o o' : Nat) : (sameAddr ⟨b, o, none⟩ ⟨b, o', none⟩).run P w = .ok (decide (o = o')) w := by
  have : ((⟨b, o, none⟩ : Addr) == ⟨b, o', none⟩) = decide (o = o') := by
    by_cases h : o = o'
    · subst h; simp
    · simp [h]
  simp only [sameAddr, beq_self_eq_true, if_true, Sem.run_pure, this]
theorem cells_of_cell {w : World} {b o : Nat} {v : Value} (h : w.cell? ⟨b, o, none⟩ = some v) : ∃ c e fr, w.heap[b]? = some (.cells c e fr) ∧ 0 < c.size := by
  unfold World.cell? at h
  split at h
  · rename_i c e fr hh
    refine ⟨c, e, fr, hh, ?_⟩
    simp only [Option.isSome_none, Bool.false_eq_true, if_false] at h
    have := (Array.getElem?_eq_some_iff.1 h).1
    omega
  · simp at h
theorem sameAddr_two (P : Program) (w : World) {b b' o o' : Nat} (hne : b ≠ b') {c c' : Array Value} {e e' : TypeId} {fr' : Nat × Nat} (h1 : w.heap[b]? = some (.cells c e (0, 0))) (h2 : w.heap[b']? = some (.cells c' e' fr')) (hz : fr' = (0, 0) ∨ 0 < c'.size) :
    (sameAddr ⟨b, o, none⟩ ⟨b', o', none⟩).run P w = .ok false w ∧ (sameAddr ⟨b', o', none⟩ ⟨b, o, none⟩).run P w = .ok false w := by
  have hf : ∀ x, w.frozen? ⟨b, x, none⟩ = false := fun x => by simp [World.frozen?, h1]
  have hs : w.shape? b = some (e, c.size) := by simp [World.shape?, h1]
  have hs' : w.shape? b' = some (e', c'.size) := by simp [World.shape?, h2]
  have hb : (b == b') = false := by simpa using hne
  have hb' : (b' == b) = false := by simpa using fun h => hne h.symm
  have f0 : ∀ x, (Go.frozen ⟨b, x, none⟩).run P w = .ok false w := fun x => by simp only [Go.frozen, Sem.run, hf]
  have f1 : ∀ x, (Go.frozen ⟨b', x, none⟩).run P w = .ok (w.frozen? ⟨b', x, none⟩) w := fun x => by simp only [Go.frozen, Sem.run]
  have s0 : (Go.shape b).run P w = .ok (some (e, c.size)) w := by simp only [Go.shape, Sem.run, hs]
  have s1 : (Go.shape b').run P w = .ok (some (e', c'.size)) w := by simp only [Go.shape, Sem.run, hs']
  have v0 : ∀ x, (noView ⟨b, x, none⟩).run P w = .ok () w := fun x => by simp [noView, viewAt, Sem.run_bind, s0]
  have v1 : ∀ x, (noView ⟨b', x, none⟩).run P w = .ok () w := fun x => by simp [noView, viewAt, Sem.run_bind, s1]
  have g0 : ∀ x, (stringish ⟨b, x, none⟩).run P w = .ok false w := fun x => by simp [stringish, Sem.run_bind, f0, s0, hs, hf]
  have g1 : ∀ x, ∃ r, (stringish ⟨b', x, none⟩).run P w = .ok r w ∧ (fr' = (0, 0) → r = false) := fun x => by
    cases hq : w.frozen? ⟨b', x, none⟩ with
    | true =>
      refine ⟨true, by simp [stringish, Sem.run_bind, f1, hq], fun hh => ?_⟩
      subst hh; simp [World.frozen?, h2] at hq
    | false =>
      refine ⟨w.frozen? ⟨b', c'.size, none⟩, by simp [stringish, Sem.run_bind, f1, hq, s1, hs'], fun hh => ?_⟩
      subst hh; simp [World.frozen?, h2]
  obtain ⟨r, hr, hr0⟩ := g1 o'
  have m0 : (r && (match some (e', c'.size) with | some (_, 0) => true | _ => false)) = false := by
    rcases hz with hz | hz
    · rw [hr0 hz]; rfl
    · cases hc : c'.size with
      | zero => omega
      | succ n => simp
  constructor
  · cases hq : w.frozen? ⟨b', o', none⟩ <;>
    · cases r
      · simp [sameAddr, hb, Sem.run_bind, f0, f1, hq, v0, v1, mayBeOne, g0, hr, s0, s1, hs, hs', hf]
      · have : c'.size ≠ 0 := by
          rcases hz with hz | hz
          · exact absurd (hr0 hz) (by simp)
          · omega
        simp [sameAddr, hb, Sem.run_bind, f0, f1, hq, v0, v1, mayBeOne, g0, hr, s0, s1, hs, hs', hf]
        (try (split <;> simp_all))
  · cases hq : w.frozen? ⟨b', o', none⟩ <;>
    · cases r
      · simp [sameAddr, hb', Sem.run_bind, f0, f1, hq, v0, v1, mayBeOne, g0, hr, s0, s1, hs, hs', hf]
      · have : c'.size ≠ 0 := by
          rcases hz with hz | hz
          · exact absurd (hr0 hz) (by simp)
          · omega
        simp [sameAddr, hb', Sem.run_bind, f0, f1, hq, v0, v1, mayBeOne, g0, hr, s0, s1, hs, hs', hf]
        (try (split <;> simp_all))
theorem curG_blk {H : List (List AV)} (hw : WRep w g H) {id gen b δ : Nat} (hc : curG H id gen = true) (hr : g.ρ id gen = some (b, δ)) : ∃ cs c e, H[id]? = some cs ∧ cs.length = gen ∧ w.heap[b]? = some (.cells c e (0, 0)) ∧ ¬ g.Fz b := by
  unfold curG at hc
  split at hc
  · rename_i cs hcs
    have hg : cs.length = gen := by simpa using hc
    obtain ⟨b', δ', c, e, h1, h2, h3, h4, h5, h6⟩ := hw.blk id cs hcs
    rw [hg, hr] at h1
    simp only [Option.some.injEq, Prod.mk.injEq] at h1
    obtain ⟨rfl, rfl⟩ := h1
    exact ⟨cs, c, e, hcs, hg, h2, h5⟩
  · cases hc
theorem ptrEq_sound {P : Program} {H : List (List AV)} (hw : WRep w g H) {s s' : AV} {o o' b b' a a' : Nat} {r : Bool} (h : ptrEq H s a s' a' = some r) (h1 : SBase w g s b o) (h2 : SBase w g s' b' o') :
    (sameAddr ⟨b, o + a, none⟩ ⟨b', o' + a', none⟩).run P w = .ok r w := by
  unfold ptrEq at h
  split at h
  · rename_i id gn of _ _ a id' gn' of' _ _ a'
    split at h
    · rename_i hc
      simp only [Bool.and_eq_true] at hc
      simp only [SBase] at h1 h2
      obtain ⟨δ, h1, rfl⟩ := h1
      obtain ⟨δ', h2, rfl⟩ := h2
      obtain ⟨cs, c, e, k1, k2, k3, k4⟩ := curG_blk hw hc.1 h1
      obtain ⟨cs', c', e', k1', k2', k3', k4'⟩ := curG_blk hw hc.2 h2
      split at h
      · rename_i hid
        subst hid
        rw [k1] at k1'; simp only [Option.some.injEq] at k1'; subst k1'
        subst k2; subst k2'
        rw [h1] at h2; simp only [Option.some.injEq, Prod.mk.injEq] at h2
        obtain ⟨rfl, rfl⟩ := h2
        simp only [Option.some.injEq] at h; subst h
        rw [sameAddr_one]
        congr 1
        exact decide_eq_decide.2 (by omega)
      · rename_i hid
        simp only [Option.some.injEq] at h; subst h
        refine (sameAddr_two P w (fun hb => hid ?_) k3 k3' (.inl rfl)).1
        subst hb k2 k2'
        exact hw.inj _ _ _ _ _ _ _ k1 k1' h1 h2
    · cases h
  · rename_i p of _ _ a q of' _ _ a'
    split at h
    · rename_i hpq
      subst hpq
      simp only [SBase] at h1 h2
      obtain ⟨h1, _⟩ := h1
      obtain ⟨h2, _⟩ := h2
      simp only [reduceCtorEq, Option.some.injEq, Prod.mk.injEq, false_or] at h1 h2
      obtain ⟨rfl, rfl⟩ := h1
      obtain ⟨rfl, rfl⟩ := h2
      simp only [Option.some.injEq] at h; subst h
      rw [sameAddr_one]
    · cases h
  · rename_i id gn of _ _ a tg _ x xs a'
    split at h
    · rename_i hc
      simp only [Option.some.injEq] at h; subst h
      simp only [SBase, CRep] at h1 h2
      obtain ⟨δ, h1, rfl⟩ := h1
      obtain ⟨_, hz, ⟨v, hv, _⟩, _⟩ := h2
      obtain ⟨cs, c, e, k1, k2, k3, k4⟩ := curG_blk hw hc h1
      obtain ⟨c', e', fr', j1, j2⟩ := cells_of_cell hv
      exact (sameAddr_two P w (fun hb => k4 (by rw [hb]; exact hz)) k3 j1 (.inr j2)).1
    · cases h
  · rename_i tg _ x xs a id gn of _ _ a'
    split at h
    · rename_i hc
      simp only [Option.some.injEq] at h; subst h
      simp only [SBase, CRep] at h1 h2
      obtain ⟨δ, h2, rfl⟩ := h2
      obtain ⟨_, hz, ⟨v, hv, _⟩, _⟩ := h1
      obtain ⟨cs, c, e, k1, k2, k3, k4⟩ := curG_blk hw hc h2
      obtain ⟨c', e', fr', j1, j2⟩ := cells_of_cell hv
      exact (sameAddr_two P w (fun hb => k4 (by rw [hb]; exact hz)) k3 j1 (.inr j2)).2
    · cases h
  · cases h
theorem ptrV_sound {P : Program} {H : List (List AV)} (hw : WRep w g H) {op : BinOp} {t : TypeId} {x y : EV} {X Y : Value} {v : AV} (h : ptrV P H op t x y = some v) (xo yo : Operand)
    (hx : ERep w g lam x X) (hy : ERep w g lam y Y) : Gives P w g (do eqGuard op t xo yo X Y; binOp op t X Y) v := by
  have key : ∀ {s s' : AV} {a a' : Nat} {r : Bool}, ptrTy P t = true → ptrEq H s a s' a' = some r → VRep w g (.eptr s a) X → VRep w g (.eptr s' a') Y →
      ∃ p q, X = .pointer (some p) ∧ Y = .pointer (some q) ∧ (Op.equal t (.pointer (some p)) (.pointer (some q))).run P w = .ok r w := by
    intro s s' a a' r ht hp hX hY
    simp only [VRep] at hX hY
    obtain ⟨b, o, rfl, hX⟩ := hX
    obtain ⟨b', o', rfl, hY⟩ := hY
    refine ⟨_, _, rfl, rfl, ?_⟩
    have hr := ptrEq_sound (P := P) hw hp hX hY
    unfold ptrTy at ht
    split at ht
    · rename_i e hu
      cases hz : tsz P e with
      | none => rw [hz] at ht; simp at ht
      | some n =>
        rw [hz] at ht
        simp only [Option.any_some, decide_eq_true_eq] at ht
        unfold tsz at hz
        simp only [Option.map_eq_some_iff] at hz
        obtain ⟨i, hi, rfl⟩ := hz
        have hs : (sizeOf e).run P w = .ok i.size w := by simp [sizeOf, typeInfo, hi, Sem.run_bind]
        show (Op.equalIn (9999 + 1) t _ _).run P w = _
        rw [Op.equalIn, Sem.run_bind, run_underlying hu]
        have h0 : i.size ≠ 0 := by omega
        simp only [Result.andThen_ok, Sem.run_bind, hs, ne_eq, h0, not_false_eq_true, if_true]
        exact hr
    · cases ht
  unfold ptrV at h
  split at h
  · split at h
    · rename_i ht
      simp only [Option.map_eq_some_iff] at h
      obtain ⟨r, hr, rfl⟩ := h
      obtain ⟨p, q, rfl, rfl, hrun⟩ := key ht hr hx hy
      exact .pure (x := .bool r) (by simp [eqGuard, binOp, hrun]) (by simp [VRep])
    · cases h
  · split at h
    · rename_i ht
      simp only [Option.map_eq_some_iff] at h
      obtain ⟨r, hr, rfl⟩ := h
      obtain ⟨p, q, rfl, rfl, hrun⟩ := key ht hr hx hy
      exact .pure (x := .bool (!r)) (by simp [eqGuard, binOp, hrun]) (by simp [VRep])
    · cases h
  · cases h

theorem negb (b : Nat) (hb : b < 2 ^ 64) : Op.negFloat .f64 b < 2 ^ 64 ∧ fneg (cn b) = cn (Op.negFloat .f64 b) := by
  have e : Op.negFloat .f64 b = b ^^^ 2 ^ 63 := rfl
  have hlt : b ^^^ 2 ^ 63 < 2 ^ 64 := Nat.xor_lt_two_pow hb (by decide)
  refine ⟨by rw [e]; exact hlt, ?_⟩
  unfold fneg
  rcases cn_cases b with ⟨h1, h2⟩ | ⟨_, h2⟩ <;> rw [h2]
  · have hn : isNaN (Op.negFloat .f64 b) = true := by
      have e1 : Ieee.double.signWeight = 2 ^ 63 := by decide
      have hm : (b ^^^ 2 ^ 63) % 2 ^ 63 = b % 2 ^ 63 := by
        rw [Nat.xor_mod_two_pow]; simp
      unfold isNaN Ieee.Format.read at h1 ⊢
      simp only [e1] at h1 ⊢
      rw [e, hm]
      revert h1
      split
      · intro h; simp [Ieee.Datum.isNaN] at h
      · split
        · intro h; simp [Ieee.Datum.isNaN] at h
        · split
          · intro h; simp [Ieee.Datum.isNaN] at h
          · intro _; rfl
    have : cn (Op.negFloat .f64 qn) = qn := by decide
    rw [this]; unfold cn; rw [if_pos hn]

theorem unV_sound {P : Program} {op : UnOp} {x : EV} {X : Value} {c : Prop} {v : AV} (h : unV op x = some (c, v)) (hc : c) (hx : ERep w g lam x X) : Gives P w g (Op.unary op X) v := by
  unfold unV at h
  split at h
  · simp only [ERep, VRep] at hx; subst hx
    simp only [Option.some.injEq, Prod.mk.injEq] at h; obtain ⟨rfl, rfl⟩ := h
    exact .pure (by simp [Op.unary]; rfl) (by simp [VRep])
  · simp only [ERep, VRep] at hx; subst hx
    simp only [Option.some.injEq, Prod.mk.injEq] at h; obtain ⟨rfl, rfl⟩ := h
    exact .pure (by simp [Op.unary, Op.intArith]; rfl) (by simp [VRep])
  · simp only [ERep, VRep] at hx; subst hx
    simp only [Option.some.injEq, Prod.mk.injEq] at h; obtain ⟨rfl, rfl⟩ := h
    exact .pure (x := .int _ (bitsI .xor _ _ _)) rfl (by simp [VRep])
  · simp only [Option.map_eq_some_iff, Prod.mk.injEq] at h
    obtain ⟨y, hy, rfl, rfl⟩ := h
    obtain ⟨b, rfl, hb, rfl⟩ := asF_rep hy hx
    refine .pure (x := .float .f64 (Op.negFloat .f64 b)) (by simp [Op.unary]) ?_
    simp only [VRep]
    exact ⟨_, rfl, (negb b hb).1, (negb b hb).2.symm⟩
  · simp at h

theorem cnvV_sound {P : Program} {src dst : TypeId} {x : EV} {X : Value} {c : Prop} {v : AV} (hs : (P.underlying src).isSome = true) (h : cnvV P dst x = some (c, v)) (hc : c) (hx : ERep w g lam x X) :
    Gives P w g (convert src dst X) v := by
  obtain ⟨us, hs⟩ := Option.isSome_iff_exists.1 hs
  unfold cnvV at h
  split at h
  · rename_i k k' n hd
    simp only [ERep, VRep] at hx; subst hx
    simp only [Option.some.injEq, Prod.mk.injEq] at h; obtain ⟨rfl, rfl⟩ := h
    refine .pure (x := .int k (k.wrap n)) ?_ (by simp [VRep])
    cases us <;> simp [convert, run_underlying hs, run_underlying hd, Conv.intToInt] <;> rfl
  · rename_i k' n hd
    simp only [ERep, VRep] at hx; subst hx
    simp only [Option.some.injEq, Prod.mk.injEq] at h; obtain ⟨rfl, rfl⟩ := h
    refine .pure (run_convert_int_float w src dst k' .f64 n (by simp [hs]) hd) ?_
    simp only [VRep, floatOfInt]
    refine ⟨_, rfl, ?_, rfl⟩
    have := floatOfInt_wf .f64 n
    exact of_decide_eq_true this
  · rename_i xv _ hd
    simp only [Option.map_eq_some_iff, Prod.mk.injEq] at h
    obtain ⟨y, hy, rfl, rfl⟩ := h
    obtain ⟨b, rfl, hb, rfl⟩ := asF_rep hy hx
    refine .pure (x := .float .f64 b) ?_ (by simp only [VRep]; exact ⟨b, rfl, hb, rfl⟩)
    refine run_convert_float_float w src dst .f64 .f64 b b (by simp [hs]) hd ?_
    simp [floatToFloatBits]
  · simp at h
end
end Go.Sx
