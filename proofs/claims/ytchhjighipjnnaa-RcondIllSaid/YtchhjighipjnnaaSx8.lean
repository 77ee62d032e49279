/- A part of the proofs of this seat: Sx8. No condition is set. -/
import Derived.Test.YtchhjighipjnnaaSx7
set_option linter.unusedVariables false
set_option linter.unusedSimpArgs false
namespace Go.Sx
section
variable {C : Cx} {st : St} {a : Act} {w : World} {g : Gh} {lam : Nat → Nat}

theorem CRep_vals {w : World} {g : Gh} : ∀ {l : List AV} {b o : Nat}, CRep w g l b o → ∃ vs : List Value, w.rangeAt b o vs ∧ LRep w g l vs ∧ vs.length = l.length ∧ ∀ v ∈ vs, v.oneCell' = true
  | [], b, o, _ => ⟨[], fun j v h => by simp at h, by simp [LRep], rfl, by simp⟩
  | c :: l, b, o, h => by
    simp only [CRep] at h
    obtain ⟨⟨v, h1, h2, h3⟩, h4⟩ := h
    obtain ⟨vs, k1, k2, k3, k4⟩ := CRep_vals h4
    refine ⟨v :: vs, fun j x hj => ?_, by simp only [LRep]; exact ⟨v, vs, rfl, h3, k2⟩, by simp [k3], by simpa [h2] using k4⟩
    cases j with
    | zero => simp at hj; subst hj; simpa using h1
    | succ j => simp at hj; have := k1 j x hj; rwa [show o + 1 + j = o + (j + 1) from by omega] at this

theorem ld_run {P : Program} {t : TypeId} {l : List AV} {n b o : Nat} {v : AV} (hz : tsz P t = some n) (hl : l.length = n) (hc : CRep w g l b o) (hv : ldv P t l = some v) :
    Gives P w g (loadVar t ⟨b, o, none⟩) v := by
  unfold ldv at hv
  have hz' : (P.info? t).map (·.size) = some l.length := by rw [hl]; exact hz
  split at hv
  · rename_i hk
    simp only [Option.some.injEq] at hv; subst hv
    simp only [tkind, Option.map_eq_some_iff] at hk
    obtain ⟨d, hu, hd⟩ := hk
    obtain ⟨vs, k1, k2, k3, k4⟩ := CRep_vals hc
    refine .pure (run_loadVar_mid w b o t vs d k1 hu hd (by rw [k3]; exact hz')) ?_
    simp only [VRep]
    exact ⟨vs.toArray, rfl, by simpa using k4, by simpa using k2⟩
  · rename_i c hk
    simp only [Option.some.injEq] at hv; subst hv
    simp only [tkind, Option.map_eq_some_iff] at hk
    obtain ⟨d, hu, hd⟩ := hk
    simp only [CRep] at hc
    obtain ⟨⟨x, h1, h2, h3⟩, _⟩ := hc
    have hagg : (isAgg t).run P w = .ok false w := by
      unfold isAgg
      rw [Sem.run_bind, run_underlying hu w]
      cases d <;> simp_all
    refine .pure (x := x) ?_ h3
    simp [loadVar, Sem.run_bind, hagg, load, Sem.run, h1]
  · simp at hv

/-- a load turns nothing at all -/
theorem ld_same {P : Program} {t : TypeId} {l : List AV} {n b o : Nat} {v : AV} (hz : tsz P t = some n) (hl : l.length = n) (hc : CRep w g l b o) (hv : ldv P t l = some v) :
    ∃ x, (loadVar t ⟨b, o, none⟩).run P w = .ok x w ∧ VRep w g v x := by
  unfold ldv at hv
  have hz' : (P.info? t).map (·.size) = some l.length := by rw [hl]; exact hz
  split at hv
  · rename_i hk
    simp only [Option.some.injEq] at hv; subst hv
    simp only [tkind, Option.map_eq_some_iff] at hk
    obtain ⟨d, hu, hd⟩ := hk
    obtain ⟨vs, k1, k2, k3, k4⟩ := CRep_vals hc
    refine ⟨_, run_loadVar_mid w b o t vs d k1 hu hd (by rw [k3]; exact hz'), ?_⟩
    simp only [VRep]
    exact ⟨vs.toArray, rfl, by simpa using k4, by simpa using k2⟩
  · rename_i c hk
    simp only [Option.some.injEq] at hv; subst hv
    simp only [tkind, Option.map_eq_some_iff] at hk
    obtain ⟨d, hu, hd⟩ := hk
    simp only [CRep] at hc
    obtain ⟨⟨x, h1, h2, h3⟩, _⟩ := hc
    have hagg : (isAgg t).run P w = .ok false w := by
      unfold isAgg
      rw [Sem.run_bind, run_underlying hu w]
      cases d <;> simp_all
    refine ⟨x, ?_, h3⟩
    simp [loadVar, Sem.run_bind, hagg, load, Sem.run, h1]
  · simp at hv

theorem sread_rep {H : List (List AV)} (hw : WRep w g H) {s : AV} {off n b o : Nat} {l : List AV} (hs : SBase w g s b o) (hr : sread H s off n = some l) : CRep w g l b (o + off) ∧ l.length = n := by
  unfold sread at hr
  split at hr
  · simp only [SBase] at hs
    exact ⟨CRep_gc hs.2.2 hr, (gc_get hr).1⟩
  · rename_i id gen o' len sz
    simp only [Option.bind_eq_some_iff] at hr
    obtain ⟨cs, hc, hr⟩ := hr
    split at hr
    · rename_i hg
      simp only [SBase] at hs
      obtain ⟨δ, h1, rfl⟩ := hs
      obtain ⟨b₀, δ₀, c₀, e₀, k1, k2, k3, k4, k5⟩ := hw.blk id cs hc
      rw [hg, h1] at k1; simp only [Option.some.injEq, Prod.mk.injEq] at k1; obtain ⟨rfl, rfl⟩ := k1
      refine ⟨?_, (gc_get hr).1⟩
      have := CRep_gc k4 hr
      rwa [show δ + (o' + off) = δ + o' + off from by omega] at this
    · simp at hr
  · simp at hr

/-- a slice's value -/
theorem slice_form {s : AV} {len : Nat} {X : Value} (hl : slen s = some len) (hv : VRep w g s X) :
    ∃ ao cap, X = .slice ao len cap ∧ len ≤ cap ∧ (0 < len → ∃ b o, ao = some ⟨b, o, none⟩ ∧ SBase w g s b o) := by
  unfold slen at hl
  split at hl
  · simp only [Option.some.injEq] at hl; subst hl
    simp only [VRep] at hv
    exact ⟨none, 0, hv, Nat.le_refl _, by omega⟩
  · simp only [Option.some.injEq] at hl; subst hl
    simp only [VRep] at hv
    obtain ⟨cap, hc, ⟨_, h0, _, ao, h1⟩ | ⟨b, o, h1, h2, h3, h4⟩⟩ := hv
    · exact ⟨ao, cap, h1, hc, by omega⟩
    · exact ⟨_, cap, h1, hc, fun _ => ⟨b, o, rfl, by simp only [SBase]; exact ⟨h2, h3, h4⟩⟩⟩
  · simp only [Option.some.injEq] at hl; subst hl
    simp only [VRep] at hv
    obtain ⟨b, δ, cap, n, h1, h2, h3, h4⟩ := hv
    exact ⟨_, cap, h2, h3, fun _ => ⟨b, _, rfl, by simp only [SBase]; exact ⟨δ, h1, rfl⟩⟩⟩
  · simp at hl

theorem mapM_id {l : List (Option AV)} {vs : List AV} (h : l.mapM id = some vs) : l = vs.map some := by
  induction l generalizing vs with
  | nil => simp at h; subst h; rfl
  | cons x l ih =>
    simp only [List.mapM_cons, id_eq, Option.bind_eq_bind, Option.bind_eq_some_iff, Option.pure_def, Option.some.injEq] at h
    obtain ⟨v, rfl, r, hr, rfl⟩ := h
    simp [ih hr]
theorem args_rep (h : SRepG C st a w g lam) {xs : List Operand} {vs : List AV} (hx : argsX st.ev xs = some vs) : LRep w g vs (xs.map a.eval) := by
  have := mapM_id hx
  rw [LRep_iff]
  have hl : xs.length = vs.length := by simpa using congrArg List.length this
  refine ⟨by simp [hl], fun i c v h1 h2 => ?_⟩
  have h3 := congrArg (·[i]?) this
  simp only [List.getElem?_map, h1, Option.map_some] at h3 h2
  cases hxi : xs[i]? with
  | none => simp [hxi] at h2
  | some x =>
    simp [hxi] at h2 h3
    subst h2
    exact h.evV (asV_eq h3)

theorem getParts {w : World} {g : Gh} {cs : List AV} {vs : List Value} (h : LRep w g cs vs) {o n : Nat} {l : List AV} (hl : gc cs o n = some l) :
    LRep w g l ((vs.drop o).take n) := by
  rw [LRep_iff] at h ⊢
  obtain ⟨h1, h2⟩ := gc_get hl
  have hb : n = 0 ∨ o + n ≤ cs.length := by
    rcases Nat.eq_zero_or_pos n with h0 | h0
    · exact .inl h0
    · right
      have h3 := h2 (n - 1) (by omega)
      have h4 : (l[n - 1]?) = some (l[n-1]'(by omega)) := List.getElem?_eq_getElem _
      rw [h4] at h3
      have := (List.getElem?_eq_some_iff.1 h3.symm).1
      omega
  refine ⟨by simp [h.1, h1]; omega, fun i c v hc hv => ?_⟩
  have hi : i < n := by have := (List.getElem?_eq_some_iff.1 hc).1; omega
  rw [h2 i hi] at hc
  rw [List.getElem?_take, if_pos hi, List.getElem?_drop] at hv
  exact h.2 _ _ _ hc hv
end
end Go.Sx
