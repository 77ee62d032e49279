/- A part of the proofs of this seat: SxA. No condition is set. -/
import Derived.Test.YtchhjighipjnnaaSx9
set_option linter.unusedVariables false
set_option linter.unusedSimpArgs false
namespace Go.Sx
section
variable {C : Cx} {st : St} {a : Act} {w : World} {g : Gh} {lam : Nat → Nat}

theorem Gives.ret {P : Program} {s : Sem Value} {v : AV} (h : Gives P w g s v) {f : Sem Next} (hf : f = (do Pure.pure (Next.value (← s)))) : GivesE P w g lam f (.val v) := hf ▸ h.e

theorem min2_int (P : Program) (w : World) (k : IntKind) (x y : Int) : (Builtin.min2 (.int k x) (.int k y)).run P w = .ok (.int k (min x y)) w := by
  have : (if y < x then y else x) = min x y := by omega
  simp only [Builtin.min2, this]; rfl
theorem max2_int (P : Program) (w : World) (k : IntKind) (x y : Int) : (Builtin.max2 (.int k x) (.int k y)).run P w = .ok (.int k (max x y)) w := by
  have : (if y > x then y else x) = max x y := by omega
  simp only [Builtin.max2, this]; rfl

theorem args1 {args : Array Operand} {x : Operand} (h : args.toList = [x]) : args = #[x] := by
  cases args; simp_all

theorem places_run (fs : Array Field) (hall : fs.all (fun f => (tsz C.P f.type).isSome) = true) :
    (fs.mapM fun f => (do Pure.pure (f.offset, ← sizeOf f.type) : Sem (Nat × Nat))).run C.P w = .ok (fs.map fun f => (f.offset, (tsz C.P f.type).getD 0)) w := by
  have key : ∀ (l : List Field), (∀ f ∈ l, (tsz C.P f.type).isSome = true) →
      (l.mapM fun f => (do Pure.pure (f.offset, ← sizeOf f.type) : Sem (Nat × Nat))).run C.P w = .ok (l.map fun f => (f.offset, (tsz C.P f.type).getD 0)) w := by
    intro l
    induction l with
    | nil => intro _; rfl
    | cons f l ih =>
      intro hl
      have h1 := hl f (by simp)
      obtain ⟨n, hn⟩ := Option.isSome_iff_exists.1 h1
      have hn' := hn
      unfold tsz at hn
      simp only [Option.map_eq_some_iff] at hn
      obtain ⟨i, hi, rfl⟩ := hn
      have hs : (sizeOf f.type).run C.P w = .ok i.size w := by simp [sizeOf, typeInfo, hi, Sem.run_bind]
      simp only [List.mapM_cons, Sem.run_bind, hs, Result.andThen_ok, Sem.run_pure, ih (fun f hf => hl f (by simp [hf])), List.map_cons, hn', Option.getD_some]
  rw [Array.mapM_eq_mapM_toList, map_eq_pure_bind, Sem.run_bind, key fs.toList (fun f hf => (Array.all_eq_true_iff_forall_mem.1 hall) f (by simpa using hf))]
  simp only [Result.andThen_ok, Sem.run_pure, Result.ok.injEq, and_true]
  apply Array.ext'
  simp
theorem bnd_run {ρ : Operand → Value} (h : SRepG C st a w g lam) {lo : Option Operand} {d l : Int} (hl : bndI st.ev d lo = some l) : (lo = none ∧ l = d) ∨ ∃ k o, lo = some o ∧ lo.map a.eval = some (.int k l) := by
  cases lo with
  | none => simp only [bndI, Option.some.injEq] at hl; exact .inl ⟨rfl, hl.symm⟩
  | some o =>
    simp only [bndI] at hl
    obtain ⟨k, hk⟩ := tailI_eq hl
    have := h.evV hk
    simp only [VRep] at this
    exact .inr ⟨k, o, rfl, by simp [this]⟩
theorem bounds_run (h : SRepG C st a w g lam) (sl : Bool) {lo hi : Option Operand} {n cap : Nat} {l q : Int} (hl : bndI st.ev 0 lo = some l) (hq : bndI st.ev n hi = some q) (h0 : 0 ≤ l) (h1 : l ≤ q) (h2 : q ≤ n) (hc : n ≤ cap) :
    (Instr.sliceBounds sl n cap (lo.map a.eval) (hi.map a.eval) none).run C.P w = .ok (l.toNat, q.toNat, cap) w := by
  have e2 : ((q.toNat : Nat) : Int) = q := Int.toNat_of_nonneg (by omega)
  rcases bnd_run (ρ := a.eval) h hl with ⟨rfl, rfl⟩ | ⟨k, o, rfl, hk⟩ <;> rcases bnd_run (ρ := a.eval) h hq with ⟨rfl, rfl⟩ | ⟨k', o', rfl, hk'⟩
  · simp [Instr.sliceBounds, Sem.run_bind]
  · rw [hk']
    have hb : ∀ c, (Instr.sliceBound (.int k' q) cap c).run C.P w = .ok q.toNat w := fun c => run_sliceBound (P := C.P) (w := w) k' q cap c (by omega) (by omega)
    simp [Instr.sliceBounds, Sem.run_bind, hb]
  · rw [hk]
    have hb : ∀ c, (Instr.sliceBound (.int k l) n c).run C.P w = .ok l.toNat w := fun c => run_sliceBound (P := C.P) (w := w) k l n c (by omega) (by omega)
    simp [Instr.sliceBounds, Sem.run_bind, hb]
  · rw [hk, hk']
    have hb : ∀ c, (Instr.sliceBound (.int k' q) cap c).run C.P w = .ok q.toNat w := fun c => run_sliceBound (P := C.P) (w := w) k' q cap c (by omega) (by omega)
    have hb' : ∀ c, (Instr.sliceBound (.int k l) q.toNat c).run C.P w = .ok l.toNat w := fun c => run_sliceBound (P := C.P) (w := w) k l q.toNat c (by omega) (by omega)
    simp [Instr.sliceBounds, Sem.run_bind, hb, hb']
theorem slc_rep {z l q n : Nat} {v v' : AV} {X : Value} (hn : slen v = some n) (hv : VRep w g v X) (hs : slcV z l q v = some v') (h1 : l ≤ q) (h2 : q ≤ n) :
    ∃ ao len cap, X = .slice ao len cap ∧ len = n ∧ n ≤ cap ∧ VRep w g v' (.slice (if cap = l then ao else ao.map (·.add (l * z))) (q - l) (cap - l)) := by
  have nil : ∀ (ao : Option Addr) cap, n ≤ cap → l = q → VRep w g (.sl none 0 []) (.slice (if cap = l then ao else ao.map (·.add (l * z))) (q - l) (cap - l)) := by
    intro ao cap hc hlq
    simp only [VRep]
    refine ⟨cap - l, by omega, .inl ?_⟩
    simp [hlq]
  cases v <;> simp only [slcV, slen, Option.some.injEq, reduceCtorEq] at hs hn
  · simp only [VRep] at hv
    subst hn hs
    exact ⟨none, 0, 0, hv, rfl, Nat.le_refl _, nil _ _ (Nat.le_refl _) (by omega)⟩
  · rename_i tag len cells
    subst hn
    simp only [VRep] at hv
    obtain ⟨cap, hc, hx⟩ := hv
    split at hs
    · rename_i hlq
      simp only [Option.some.injEq] at hs; subst hs
      rcases hx with ⟨_, h0, _⟩ | ⟨b, o, rfl, ht, hf, hr⟩
      · omega
      · refine ⟨_, len, cap, rfl, rfl, hc, ?_⟩
        rw [if_neg (by omega)]
        simp only [VRep, Option.map_some, Addr.add_mid]
        refine ⟨cap - l, by omega, .inr ⟨b, o + l * z, rfl, ?_, hf, ?_⟩⟩
        · rcases ht with rfl | rfl
          · exact .inl rfl
          · exact .inr rfl
        · rw [CRep_iff] at hr ⊢
          intro i c hi
          rw [List.getElem?_take] at hi
          split at hi
          · rw [List.getElem?_drop] at hi
            have := hr (l * z + i) c hi
            rwa [show o + (l * z + i) = o + l * z + i from by omega] at this
          · simp at hi
    · rename_i hlq
      simp only [Option.some.injEq] at hs; subst hs
      rcases hx with ⟨_, h0, _, ao, rfl⟩ | ⟨b, o, rfl, ht, hf, hr⟩
      · exact ⟨ao, len, cap, rfl, rfl, hc, nil _ _ hc (by omega)⟩
      · exact ⟨_, len, cap, rfl, rfl, hc, nil _ _ hc (by omega)⟩
  · rename_i id gen off len sz
    subst hn
    simp only [VRep] at hv
    obtain ⟨b, δ, cap, m, k1, rfl, k3, k4, k5, k6⟩ := hv
    split at hs
    case isFalse => simp at hs
    rename_i hz; subst hz
    split at hs
    · rename_i hlq
      simp only [Option.some.injEq] at hs; subst hs
      refine ⟨_, len, cap, rfl, rfl, k3, ?_⟩
      rw [if_neg (by omega)]
      simp only [VRep, Option.map_some, Addr.add_mid]
      have e1 : l * sz + (q - l) * sz = q * sz := by rw [← Nat.add_mul]; congr 1; omega
      have e2 : q * sz ≤ len * sz := Nat.mul_le_mul_right _ h2
      have e3 : l * sz + (cap - l) * sz = cap * sz := by rw [← Nat.add_mul]; congr 1; omega
      exact ⟨b, δ, cap - l, m, k1, by rw [Nat.add_assoc], by omega, by omega, k5, by omega⟩
    · simp only [Option.some.injEq] at hs; subst hs
      exact ⟨_, len, cap, rfl, rfl, k3, nil _ _ k3 (by omega)⟩
theorem sliceV_sound (h : SRepG C st a w g lam) {t : TypeId} {x : Operand} {lo hi : Option Operand} {c : Prop} {v : AV} (hp : sliceV C.P t (st.ev x) (bndI st.ev 0 lo) (fun n => bndI st.ev n hi) = some (c, v)) (hc : c) :
    ∃ X, (Instr.sliceAt t (a.eval x) (lo.map a.eval) (hi.map a.eval) none).run C.P w = .ok X w ∧ VRep w g v X := by
  unfold sliceV at hp
  split at hp
  · rename_i s l he hlo
    split at hp
    case h_2 => simp at hp
    rename_i hu
    simp only [Option.map_eq_some_iff, Prod.mk.injEq] at hp
    obtain ⟨q, hq, rfl, rfl⟩ := hp
    obtain ⟨h0, h1, h2⟩ := hc
    have hX := h.evV he
    simp only [VRep] at hX
    have hb := bounds_run h false hlo hq h0 h1 h2 (Nat.le_refl _)
    refine ⟨.string (s.extract l.toNat q.toNat), ?_, by simp [VRep]⟩
    rw [run_sliceAt_string (P := C.P) (w := w) t _ _ _ _ hu, hX]
    simp [Instr.slice, Sem.run_bind, run_underlying hu, hb]
  · rename_i v₀ l hne he hlo
    simp only [Option.bind_eq_some_iff, Option.map_eq_some_iff, Prod.mk.injEq] at hp
    obtain ⟨e, ht, z, hz, n, hn, q, hq, v', hs, rfl, rfl⟩ := hp
    obtain ⟨h0, h1, h2⟩ := hc
    unfold telem at ht
    split at ht
    case h_2 => simp at ht
    rename_i e' hu
    simp only [Option.some.injEq] at ht; subst ht
    obtain ⟨ao, len, cap, hX, rfl, hcap, hv'⟩ := slc_rep hn (h.evV he) hs (by omega) (by omega)
    have hb := bounds_run h true hlo hq h0 h1 h2 hcap
    unfold tsz at hz
    simp only [Option.map_eq_some_iff] at hz
    obtain ⟨inf, hinf, rfl⟩ := hz
    refine ⟨_, ?_, hv'⟩
    rw [run_sliceAt_slice (P := C.P) (w := w) t _ _ _ _ (by simp [Program.elem, hu]), hX]
    simp [Instr.slice, Sem.run_bind, run_underlying hu, hb, sizeOf, typeInfo, hinf]
  · simp at hp
theorem pureV_sound (h : SRepG C st a w g lam) {o : Oper} {c : Prop} {v : EV} (hp : pureV C.P st.ev (lk st.L) st.H o.op = some (c, v)) (hc : c) :
    GivesE C.P w g lam (execOp a.eval o) v := by
  unfold pureV at hp
  split at hp
  -- move
  · rename_i x ho
    simp only [Option.some.injEq, Prod.mk.injEq] at hp; obtain ⟨rfl, rfl⟩ := hp
    exact .pure (by simp only [execOp, ho]; rfl) (h.ev x)
  · rename_i x ho
    simp only [Option.some.injEq, Prod.mk.injEq] at hp; obtain ⟨rfl, rfl⟩ := hp
    exact .pure (by simp only [execOp, ho]; rfl) (h.ev x)
  -- pick
  · rename_i x y z ho
    simp only [Option.map_eq_some_iff, Prod.mk.injEq] at hp
    obtain ⟨b, hb, rfl, rfl⟩ := hp
    have hx := h.evB hb
    refine .pure (x := if b then a.eval y else a.eval z) (by simp only [execOp, ho, hx]; cases b <;> rfl) ?_
    cases b
    · exact h.ev z
    · exact h.ev y
  -- load
  · rename_i t x ho
    split at hp
    · rename_i key off he
      simp only [Option.bind_eq_some_iff, Option.map_eq_some_iff, Prod.mk.injEq] at hp
      obtain ⟨cs, h1, n, h2, l, h3, v', h4, rfl, rfl⟩ := hp
      obtain ⟨c', e', k1, k2, k3, k4⟩ := h.lr.box key cs h1
      have hl := CRep_gc k3 h3
      rw [Nat.zero_add] at hl
      refine (ld_run h2 (gc_get h3).1 hl h4).ret ?_
      simp only [execOp, ho, h.evL he, Instr.loadAt, Instr.sureAddr]; rfl
    · rename_i s off he
      simp only [Option.bind_eq_some_iff, Option.map_eq_some_iff, Prod.mk.injEq] at hp
      obtain ⟨n, h2, l, h3, v', h4, rfl, rfl⟩ := hp
      have hx := h.evV he
      simp only [VRep] at hx
      obtain ⟨b, o', hx, hs⟩ := hx
      obtain ⟨k1, k2⟩ := sread_rep h.wr hs h3
      refine (ld_run h2 k2 k1 h4).ret ?_
      simp only [execOp, ho, hx, Instr.loadAt, Instr.sureAddr]; rfl
    · simp at hp
  -- nilCheck
  · rename_i x ho
    split at hp
    · rename_i key off he
      simp only [Option.some.injEq, Prod.mk.injEq] at hp; obtain ⟨rfl, rfl⟩ := hp
      exact .pure (x := .pointer (some ⟨lam key, off, none⟩)) (by simp only [execOp, ho, h.evL he]; rfl) rfl
    · rename_i s off he
      simp only [Option.some.injEq, Prod.mk.injEq] at hp; obtain ⟨rfl, rfl⟩ := hp
      have hx := h.evV he
      have hx' := hx
      simp only [VRep] at hx
      obtain ⟨b, o', hx, hs⟩ := hx
      exact .pure (x := .pointer (some ⟨b, o' + off, none⟩)) (by simp only [execOp, ho, hx]; rfl) (by rw [hx] at hx'; exact hx')
    · rename_i f p q he
      simp only [Option.some.injEq, Prod.mk.injEq] at hp; obtain ⟨rfl, rfl⟩ := hp
      have hx := h.evV he
      have hx' := hx
      simp only [VRep] at hx
      obtain ⟨fs, cs, hx, _⟩ := hx
      exact .pure (x := .func (.func f) fs cs) (by simp only [execOp, ho, hx]; rfl) (by rw [hx] at hx'; exact hx')
    · simp at hp
  -- binOp
  · rename_i op t x y yt ho
    split at hp
    · rename_i c' v' h1
      simp only [Option.some.injEq, Prod.mk.injEq] at hp; obtain ⟨rfl, rfl⟩ := hp
      refine (binV_sound h1 hc x y (h.ev x) (h.ev y)).ret ?_
      simp only [execOp, ho]
    · simp only [Option.map_eq_some_iff, Prod.mk.injEq] at hp
      obtain ⟨v', h1, rfl, rfl⟩ := hp
      refine (ptrV_sound h.wr h1 x y (h.ev x) (h.ev y)).ret ?_
      simp only [execOp, ho]
  -- unOp
  · rename_i op t x ho
    simp only [Option.map_eq_some_iff, Prod.mk.injEq] at hp
    obtain ⟨⟨c', v'⟩, h1, h2, h3⟩ := hp
    simp only at h2 h3; subst h2 h3
    refine (unV_sound h1 hc (h.ev x)).ret ?_
    simp only [execOp, ho]
  -- convert
  · rename_i src dst x ho
    split at hp
    · rename_i hs
      simp only [Option.map_eq_some_iff, Prod.mk.injEq] at hp
      obtain ⟨⟨c', v'⟩, h1, h2, h3⟩ := hp
      simp only at h2 h3; subst h2 h3
      refine (cnvV_sound hs h1 hc (h.ev x)).ret ?_
      simp only [execOp, ho]
    · simp at hp
  -- fieldAddr
  · rename_i t x i ho
    simp only [Option.bind_eq_some_iff] at hp
    obtain ⟨⟨off, ft⟩, h1, hp⟩ := hp
    simp only at hp
    unfold fieldOff at h1
    split at h1
    case h_2 => simp at h1
    rename_i fs hu
    simp only [Option.map_eq_some_iff, Prod.mk.injEq] at h1
    obtain ⟨f, hf, rfl, rfl⟩ := h1
    split at hp
    case isFalse => simp at hp
    rename_i hz
    obtain ⟨n, hz, hn⟩ : ∃ n, tsz C.P f.type = some n ∧ 0 < n := by
      cases hq : tsz C.P f.type with
      | none => simp [hq] at hz
      | some n => exact ⟨n, rfl, by simpa [hq] using hz⟩
    split at hp
    · rename_i key off' he
      simp only [Option.some.injEq, Prod.mk.injEq] at hp; obtain ⟨rfl, rfl⟩ := hp
      refine .pure (x := .pointer (some ⟨lam key, off' + f.offset, none⟩)) ?_ rfl
      simp [execOp, ho, h.evL he, Instr.fieldAt, Sem.run_bind, run_underlying hu, hf, Instr.sureAddr, fieldPlace_run hz hn]
    · rename_i s off' he
      simp only [Option.some.injEq, Prod.mk.injEq] at hp; obtain ⟨rfl, rfl⟩ := hp
      have hx := h.evV he
      simp only [VRep] at hx
      obtain ⟨b, o', hx, hs⟩ := hx
      refine .pure (x := .pointer (some ⟨b, o' + (off' + f.offset), none⟩)) ?_ (by simp only [ERep, VRep]; exact ⟨b, o', rfl, hs⟩)
      simp [execOp, ho, hx, Instr.fieldAt, Sem.run_bind, run_underlying hu, hf, Instr.sureAddr, fieldPlace_run hz hn, Nat.add_assoc]
    · simp at hp
  -- field
  · rename_i t x i ho
    simp only [Option.bind_eq_some_iff] at hp
    obtain ⟨⟨off, ft⟩, h1, hp⟩ := hp
    simp only at hp
    unfold fieldOff at h1
    split at h1
    case h_2 => simp at h1
    rename_i fs hu
    simp only [Option.map_eq_some_iff, Prod.mk.injEq] at h1
    obtain ⟨f, hf, rfl, rfl⟩ := h1
    split at hp
    · rename_i cs he
      simp only [Option.bind_eq_some_iff, Option.map_eq_some_iff, Prod.mk.injEq] at hp
      obtain ⟨n, h2, l, h3, v', h4, rfl, rfl⟩ := hp
      have hx := h.evV he
      simp only [VRep] at hx
      obtain ⟨vs, hx, hone, hr⟩ := hx
      obtain ⟨y, w', k1, k2, k3, k4⟩ := part_run hr hone h2 h3 h4
      exact ⟨y, w', by simp [execOp, ho, hx, Instr.field, Sem.run_bind, run_underlying hu, hf, asAgg, k1], k2, k3, k4⟩
    · simp at hp
  -- indexAddr
  · rename_i t x i ho
    split at hp
    · rename_i e s n ht hs hi
      simp only [Option.bind_eq_some_iff, Option.map_eq_some_iff, Prod.mk.injEq] at hp
      obtain ⟨len, h1, z, h2, rfl, rfl⟩ := hp
      obtain ⟨k, hi⟩ := tailI_eq hi
      have hI : a.eval i = .int k n := by have := h.evV hi; simpa [VRep] using this
      unfold telem at ht
      split at ht
      case h_2 => simp at ht
      rename_i e' hu
      simp only [Option.some.injEq] at ht; subst ht
      obtain ⟨ao, cap, hX, hcap, hb⟩ := slice_form h1 (h.evV hs)
      obtain ⟨b, o', rfl, hbase⟩ := hb (by omega)
      unfold tsz at h2
      simp only [Option.map_eq_some_iff] at h2
      obtain ⟨inf, hinf, rfl⟩ := h2
      refine .pure (x := .pointer (some ⟨b, o' + n.toNat * inf.size, none⟩)) ?_ (by simp only [ERep, VRep]; exact ⟨b, o', rfl, hbase⟩)
      simp [execOp, ho, hX, hI, Instr.indexAt, asIntOf, Sem.run_bind, run_underlying hu, hc, sizeOf, typeInfo, hinf, Addr.add_mid]
    · simp at hp
  -- extract
  · rename_i x i ho
    split at hp
    · rename_i vs he
      simp only [Option.map_eq_some_iff, Prod.mk.injEq] at hp
      obtain ⟨v', h1, rfl, rfl⟩ := hp
      have hx := h.evV he
      simp only [VRep] at hx
      obtain ⟨xs, hx, hr⟩ := hx
      rw [LRep_iff] at hr
      have hlt : i < xs.size := by have := (List.getElem?_eq_some_iff.1 h1).1; have := hr.1; simp at this; omega
      refine .pure (x := xs[i]) ?_ (hr.2 i v' xs[i] h1 (by simp [hlt]))
      simp [execOp, ho, hx, Instr.extract, hlt]
    · simp at hp
  -- slice
  · rename_i t x lo hi ho
    simp only [Option.map_eq_some_iff, Prod.mk.injEq] at hp
    obtain ⟨⟨c', v'⟩, h1, h2, h3⟩ := hp
    simp only at h2 h3; subst h2 h3
    obtain ⟨X, hX, hv⟩ := sliceV_sound h h1 hc
    exact .pure (x := X) (by simp [execOp, ho, Sem.run_bind, hX]) hv
  -- index
  · rename_i t x i ho
    simp only [Option.map_eq_some_iff, Prod.mk.injEq] at hp
    obtain ⟨⟨c', v'⟩, h1, h2, h3⟩ := hp
    simp only at h2 h3; subst h2 h3
    unfold indexV at h1
    split at h1
    · rename_i s n hu hx hi
      simp only [Option.some.injEq, Prod.mk.injEq] at h1; obtain ⟨rfl, rfl⟩ := h1
      obtain ⟨k, hi⟩ := tailI_eq hi
      have hI : a.eval i = .int k n := by have := h.evV hi; simpa [VRep] using this
      have hX := h.evV hx
      simp only [VRep] at hX
      have hlt : n.toNat < s.size := by omega
      refine .pure (x := .int .u8 (strAt s n.toNat)) ?_ (by simp [ERep, VRep])
      have : strAt s n.toNat = ((s[n.toNat]'hlt).toNat : Int) := by simp [strAt, hlt]
      simp [execOp, ho, hX, hI, Sem.run_bind, run_index_string (P := C.P) (w := w) t s k n hu, hc, this]
    · simp at h1
  -- build
  · rename_i t parts ho
    simp only [Option.map_eq_some_iff, Prod.mk.injEq] at hp
    obtain ⟨v', h1, rfl, rfl⟩ := hp
    unfold buildV at h1
    split at h1
    · rename_i z fs hz hu
      split at h1
      case isFalse => simp at h1
      rename_i hall
      simp only [Option.bind_eq_some_iff, Option.map_eq_some_iff] at h1
      obtain ⟨zc, hzc, out, hfl, rfl⟩ := h1
      unfold tzero at hz
      simp only [Option.map_eq_some_iff, Option.bind_eq_some_iff] at hz
      obtain ⟨zv, ⟨inf, hinf, hzv⟩, rfl⟩ := hz
      obtain ⟨hzr, hzo⟩ := cells_rep (w := w) (g := g) hzc (aOf_rep w g zv)
      obtain ⟨vo, k1, k2, k3⟩ := fillA_rep (vparts := (parts.map fun (p : Nat × Operand) => (p.1, a.eval p.2)).toList) hzr hzo hfl (by simp [List.map_map, Function.comp_def]) (by
        intro i p q v h1 h2 h3
        simp only [Array.toList_map, List.getElem?_map, Option.map_eq_some_iff] at h1 h2
        obtain ⟨r, hr, rfl⟩ := h1
        obtain ⟨r', hr', rfl⟩ := h2
        rw [hr] at hr'; simp only [Option.some.injEq] at hr'; subst hr'
        exact h.evV (asV_eq h3))
      have hzrun : (zeroValue t).run C.P w = .ok zv w := by simp [zeroValue, typeInfo, hinf, Sem.run_bind, hzv]
      refine .pure (x := .agg vo) ?_ (by simp only [ERep, VRep]; exact ⟨vo, rfl, k3, k2⟩)
      have hpl : (fs.mapM fun f => (do Pure.pure (f.offset, ← sizeOf f.type) : Sem (Nat × Nat))).run C.P w = .ok (fs.map fun f => (f.offset, (tsz C.P f.type).getD 0)) w := places_run fs hall
      have hfp : (fun i => (fs.map fun f => (f.offset, (tsz C.P f.type).getD 0))[i]?) = fieldPl C.P fs := by
        funext i
        simp only [fieldPl, Array.getElem?_map]
        cases hq : fs[i]? with
        | none => rfl
        | some f =>
          have := (Array.all_eq_true_iff_forall_mem.1 hall) f (Array.mem_of_getElem? hq)
          obtain ⟨n, hn⟩ := Option.isSome_iff_exists.1 this
          simp [hn]
      have hpt : (parts.map fun x => match x with | (i, x) => (i, a.eval x)) = parts.map fun (p : Nat × Operand) => (p.1, a.eval p.2) := rfl
      simp only [execOp, ho, Instr.build, Sem.run_bind, hzrun, Result.andThen_ok, run_underlying hu, hpl, hfp]
      rw [hpt, k1]
      rfl
    · simp at h1
  -- makeFunc
  · rename_i f first caps ho
    split at hp
    · rename_i p q h1 h2
      simp only [Option.some.injEq, Prod.mk.injEq] at hp; obtain ⟨rfl, rfl⟩ := hp
      refine .pure (x := .func (.func f) (first.map a.eval) (caps.map a.eval)) ?_ ?_
      · simp only [execOp, ho, Instr.makeFunc]; rfl
      · simp only [ERep, VRep]
        exact ⟨_, _, rfl, by simpa using args_rep h (xs := first.toList) h1, by simpa using args_rep h (xs := caps.toList) h2⟩
    · simp at hp
  -- len
  · rename_i args ts ho
    split at hp
    · rename_i x e ha hu
      simp only [Option.map_eq_some_iff, Option.bind_eq_some_iff, Prod.mk.injEq] at hp
      obtain ⟨n, ⟨s, hs, hn⟩, rfl, rfl⟩ := hp
      simp only [Option.bind_eq_some_iff] at hu
      obtain ⟨t, ht, hu⟩ := hu
      obtain ⟨ao, cap, hX, _⟩ := slice_form hn (h.evV (asV_eq hs))
      refine .pure (x := goInt n) ?_ (by simp [ERep, VRep, goInt])
      have := args1 ha; subst this
      simp [execOp, ho, resolve, invoke, builtin, Builtin.len_, ht, Sem.run_bind, run_underlying hu, hX]
    · rename_i x ha hu
      split at hp
      · rename_i s hs
        simp only [Option.some.injEq, Prod.mk.injEq] at hp; obtain ⟨rfl, rfl⟩ := hp
        simp only [Option.bind_eq_some_iff] at hu
        obtain ⟨t, ht, hu⟩ := hu
        have hX := h.evV hs
        simp only [VRep] at hX
        refine .pure (x := goInt s.size) ?_ (by simp [ERep, VRep, goInt])
        have := args1 ha; subst this
        simp [execOp, ho, resolve, invoke, builtin, Builtin.len_, ht, Sem.run_bind, run_underlying hu, hX]
      · simp at hp
    · simp at hp
  -- min
  · rename_i args ts ho
    have hm : ∀ {x : Operand} {k : IntKind} {n : Int}, (st.ev x).asI = some (k, n) → a.eval x = .int k n := fun hx => h.evI hx
    split at hp
    · rename_i k x k' y ha
      split at hp
      case isFalse => simp at hp
      rename_i hk; subst hk
      simp only [Option.some.injEq, Prod.mk.injEq] at hp; obtain ⟨rfl, rfl⟩ := hp
      obtain ⟨p, q, rfl, h1, h2⟩ : ∃ p q, args = #[p, q] ∧ (st.ev p).asI = some (k, x) ∧ (st.ev q).asI = some (k, y) := by
        rcases args with ⟨l⟩
        simp only [List.map_eq_cons_iff, List.map_eq_nil_iff] at ha
        obtain ⟨p, _, rfl, h1, q, _, rfl, h2, rfl⟩ := ha
        exact ⟨p, q, rfl, h1, h2⟩
      refine .pure (x := .int k (min x y)) ?_ (by simp [ERep, VRep])
      simp [execOp, ho, resolve, invoke, builtin, Builtin.min_, Sem.run_bind, hm h1, hm h2, min2_int]
    · rename_i k x k' y k'' z ha
      split at hp
      case isFalse => simp at hp
      rename_i hk; obtain ⟨rfl, rfl⟩ := hk
      simp only [Option.some.injEq, Prod.mk.injEq] at hp; obtain ⟨rfl, rfl⟩ := hp
      obtain ⟨p, q, r, rfl, h1, h2, h3⟩ : ∃ p q r, args = #[p, q, r] ∧ (st.ev p).asI = some (k, x) ∧ (st.ev q).asI = some (k, y) ∧ (st.ev r).asI = some (k, z) := by
        rcases args with ⟨l⟩
        simp only [List.map_eq_cons_iff, List.map_eq_nil_iff] at ha
        obtain ⟨p, _, rfl, h1, q, _, rfl, h2, r, _, rfl, h3, rfl⟩ := ha
        exact ⟨p, q, r, rfl, h1, h2, h3⟩
      refine .pure (x := .int k (min (min x y) z)) ?_ (by simp [ERep, VRep])
      simp [execOp, ho, resolve, invoke, builtin, Builtin.min_, Sem.run_bind, hm h1, hm h2, hm h3, min2_int]
    · simp at hp
  · rename_i args ts ho
    have hm : ∀ {x : Operand} {k : IntKind} {n : Int}, (st.ev x).asI = some (k, n) → a.eval x = .int k n := fun hx => h.evI hx
    split at hp
    · rename_i k x k' y ha
      split at hp
      case isFalse => simp at hp
      rename_i hk; subst hk
      simp only [Option.some.injEq, Prod.mk.injEq] at hp; obtain ⟨rfl, rfl⟩ := hp
      obtain ⟨p, q, rfl, h1, h2⟩ : ∃ p q, args = #[p, q] ∧ (st.ev p).asI = some (k, x) ∧ (st.ev q).asI = some (k, y) := by
        rcases args with ⟨l⟩
        simp only [List.map_eq_cons_iff, List.map_eq_nil_iff] at ha
        obtain ⟨p, _, rfl, h1, q, _, rfl, h2, rfl⟩ := ha
        exact ⟨p, q, rfl, h1, h2⟩
      refine .pure (x := .int k (max x y)) ?_ (by simp [ERep, VRep])
      simp [execOp, ho, resolve, invoke, builtin, Builtin.max_, Sem.run_bind, hm h1, hm h2, max2_int]
    · rename_i k x k' y k'' z ha
      split at hp
      case isFalse => simp at hp
      rename_i hk; obtain ⟨rfl, rfl⟩ := hk
      simp only [Option.some.injEq, Prod.mk.injEq] at hp; obtain ⟨rfl, rfl⟩ := hp
      obtain ⟨p, q, r, rfl, h1, h2, h3⟩ : ∃ p q r, args = #[p, q, r] ∧ (st.ev p).asI = some (k, x) ∧ (st.ev q).asI = some (k, y) ∧ (st.ev r).asI = some (k, z) := by
        rcases args with ⟨l⟩
        simp only [List.map_eq_cons_iff, List.map_eq_nil_iff] at ha
        obtain ⟨p, _, rfl, h1, q, _, rfl, h2, r, _, rfl, h3, rfl⟩ := ha
        exact ⟨p, q, r, rfl, h1, h2, h3⟩
      refine .pure (x := .int k (max (max x y) z)) ?_ (by simp [ERep, VRep])
      simp [execOp, ho, resolve, invoke, builtin, Builtin.max_, Sem.run_bind, hm h1, hm h2, hm h3, max2_int]
    · simp at hp
  · simp at hp
end
end Go.Sx
