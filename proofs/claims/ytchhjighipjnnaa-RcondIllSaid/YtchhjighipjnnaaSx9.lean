/- A part of the proofs of this seat: Sx9. No condition is set. -/
import Derived.Test.YtchhjighipjnnaaSx8
set_option linter.unusedVariables false
set_option linter.unusedSimpArgs false
namespace Go.Sx
section
variable {C : Cx} {st : St} {a : Act} {w : World} {g : Gh} {lam : Nat → Nat}

def GivesE (P : Program) (w : World) (g : Gh) (lam : Nat → Nat) (s : Sem Next) (v : EV) : Prop :=
  ∃ x w', s.run P w = .ok (.value x) w' ∧ w'.heap = w.heap ∧ Sames w w' ∧ ERep w g lam v x
theorem Gives.e {P : Program} {s : Sem Value} {v : AV} (h : Gives P w g s v) : GivesE P w g lam (do Pure.pure (Next.value (← s))) (.val v) := by
  obtain ⟨x, w', h1, h2, h3, h4⟩ := h
  exact ⟨x, w', by simp [Sem.run_bind, h1], h2, h3, h4⟩
theorem GivesE.pure {P : Program} {s : Sem Next} {v : EV} {x : Value} (h : s.run P w = .ok (.value x) w) (hv : ERep w g lam v x) : GivesE P w g lam s v :=
  ⟨x, w, h, rfl, ⟨rfl, rfl, rfl⟩, hv⟩

theorem fieldPlace_run {P : Program} {b o n : Nat} {f : Field} (hz : tsz P f.type = some n) (hn : 0 < n) : (fieldPlace ⟨b, o, none⟩ f).run P w = .ok ⟨b, o + f.offset, none⟩ w := by
  unfold tsz at hz
  simp only [Option.map_eq_some_iff] at hz
  obtain ⟨i, hi, rfl⟩ := hz
  have hs : (sizeOf f.type).run P w = .ok i.size w := by simp [sizeOf, typeInfo, hi, Sem.run_bind]
  have : ¬ i.size = 0 := by omega
  simp [fieldPlace, Sem.run_bind, hs, this, Addr.add_mid]

theorem asAgg_get {vs : Array Value} : (asAgg (.agg vs)).run C.P w = .ok vs w := rfl

theorem part_run {P : Program} {t : TypeId} {cs : List AV} {vs : Array Value} {o n : Nat} {l : List AV} {v : AV} (h : LRep w g cs vs.toList) (hone : ∀ x ∈ vs.toList, x.oneCell' = true) (hz : tsz P t = some n) (hl : gc cs o n = some l) (hv : ldv P t l = some v) :
    Gives P w g (part t vs o) v := by
  have hp := getParts h hl
  have hn := (gc_get hl).1
  unfold tsz at hz
  simp only [Option.map_eq_some_iff] at hz
  obtain ⟨i, hi, rfl⟩ := hz
  have hs : (sizeOf t).run P w = .ok i.size w := by simp [sizeOf, typeInfo, hi, Sem.run_bind]
  unfold ldv at hv
  split at hv
  · rename_i hk
    simp only [Option.some.injEq] at hv; subst hv
    simp only [tkind, Option.map_eq_some_iff] at hk
    obtain ⟨d, hu, hd⟩ := hk
    have hagg : (isAgg t).run P w = .ok true w := by
      unfold isAgg
      rw [Sem.run_bind, run_underlying hu w]
      cases d <;> simp_all
    refine .pure (x := .agg (vs.extract o (o + i.size))) (by simp [part, Sem.run_bind, hagg, hs]) ?_
    simp only [VRep]
    refine ⟨_, rfl, fun x hx => hone x ?_, by simpa using hp⟩
    simp only [Array.toList_extract, List.extract_eq_take_drop] at hx
    exact List.mem_of_mem_drop (List.mem_of_mem_take hx)
  · rename_i c hk
    simp only [Option.some.injEq] at hv; subst hv
    simp only [tkind, Option.map_eq_some_iff] at hk
    obtain ⟨d, hu, hd⟩ := hk
    have hagg : (isAgg t).run P w = .ok false w := by
      unfold isAgg
      rw [Sem.run_bind, run_underlying hu w]
      cases d <;> simp_all
    simp only [LRep] at hp
    obtain ⟨x, rest, h1, h2, h3⟩ := hp
    have hx : vs[o]? = some x := by
      have h4 := congrArg (·[0]?) h1
      simp only [List.getElem?_take, List.getElem?_drop, List.getElem?_cons_zero, Nat.add_zero] at h4
      split at h4
      · simpa using h4
      · simp at h4
    exact .pure (x := x) (by simp [part, Sem.run_bind, hagg, hx]) h2
  · simp at hv

def scv (cs : List Value) (off : Nat) : List Value → List Value
  | [] => cs
  | v :: vs => scv (cs.set off v) (off + 1) vs
theorem LRep_set {w : World} {g : Gh} {cs : List AV} {vs : List Value} (h : LRep w g cs vs) {i : Nat} {c : AV} {v : Value} (hv : VRep w g c v) : LRep w g (cs.set i c) (vs.set i v) := by
  rw [LRep_iff] at h ⊢
  refine ⟨by simp [h.1], fun j d x h1 h2 => ?_⟩
  by_cases hij : i = j
  · subst hij
    rw [List.getElem?_set] at h1 h2
    simp only [if_true] at h1 h2
    split at h1
    · split at h2
      · simp only [Option.some.injEq] at h1 h2; subst h1 h2; exact hv
      · simp at h2
    · simp at h1
  · rw [List.getElem?_set_ne hij] at h1 h2
    exact h.2 j d x h1 h2
theorem LRep_sc {w : World} {g : Gh} : ∀ {vs : List AV} {xs : List Value} {cs : List AV} {cv : List Value} (off : Nat), LRep w g cs cv → LRep w g vs xs → LRep w g (sc cs off vs) (scv cv off xs)
  | [], xs, cs, cv, off, h, h2 => by simp only [LRep] at h2; subst h2; exact h
  | v :: vs, xs, cs, cv, off, h, h2 => by
    simp only [LRep] at h2
    obtain ⟨x, rest, rfl, h3, h4⟩ := h2
    simp only [sc, scv]
    exact LRep_sc (off + 1) (LRep_set h h3) h4
theorem fold_scv (off : Nat) : ∀ (xs : List Value) (k : Nat) (vc : Array Value),
    ((xs.zipIdx k).foldl (fun cs (p : Value × Nat) => cs.setIfInBounds (off + p.2) p.1) vc).toList = scv vc.toList (off + k) xs
  | [], k, vc => by simp [scv]
  | x :: xs, k, vc => by
    simp only [List.zipIdx_cons, List.foldl_cons, scv]
    rw [fold_scv off xs (k + 1)]
    simp [Nat.add_assoc]
theorem fold_rep {w : World} {g : Gh} {cells vs : List AV} {vc xs : Array Value} (h : LRep w g cells vc.toList) (h2 : LRep w g vs xs.toList) (off : Nat) :
    LRep w g (sc cells off vs) (xs.zipIdx.foldl (fun cs (p : Value × Nat) => cs.setIfInBounds (off + p.2) p.1) vc).toList := by
  have : (xs.zipIdx.foldl (fun cs (p : Value × Nat) => cs.setIfInBounds (off + p.2) p.1) vc).toList = scv vc.toList off xs.toList := by
    rw [← Array.foldl_toList, Array.toList_zipIdx]
    simpa using fold_scv off xs.toList 0 vc
  rw [this]
  exact LRep_sc off h h2

theorem scv_one : ∀ {xs cv : List Value} (off : Nat), (∀ y ∈ cv, y.oneCell' = true) → (∀ y ∈ xs, y.oneCell' = true) → ∀ y ∈ scv cv off xs, y.oneCell' = true
  | [], cv, off, h, h2 => h
  | x :: xs, cv, off, h, h2 => by
    simp only [scv]
    refine scv_one (off + 1) (fun y hy => ?_) (fun y hy => h2 y (by simp [hy]))
    rcases List.mem_or_eq_of_mem_set hy with hy | rfl
    · exact h y hy
    · exact h2 _ (by simp)
theorem fold_one {vc xs : Array Value} (h : ∀ y ∈ vc.toList, y.oneCell' = true) (h2 : ∀ y ∈ xs.toList, y.oneCell' = true) (off : Nat) :
    ∀ y ∈ (xs.zipIdx.foldl (fun cs (p : Value × Nat) => cs.setIfInBounds (off + p.2) p.1) vc).toList, y.oneCell' = true := by
  have : (xs.zipIdx.foldl (fun cs (p : Value × Nat) => cs.setIfInBounds (off + p.2) p.1) vc).toList = scv vc.toList off xs.toList := by
    rw [← Array.foldl_toList, Array.toList_zipIdx]
    simpa using fold_scv off xs.toList 0 vc
  rw [this]
  exact scv_one off h h2

theorem cells_rep {v : AV} {vs : List AV} {x : Value} (hcl : v.cells = some vs) (hx : VRep w g v x) : LRep w g vs x.cells.toList ∧ ∀ y ∈ x.cells.toList, y.oneCell' = true := by
  unfold AV.cells at hcl
  split at hcl
  · simp only [Option.some.injEq] at hcl; subst hcl
    simp only [VRep] at hx
    obtain ⟨ys, rfl, h1, hy⟩ := hx
    exact ⟨hy, h1⟩
  · simp at hcl
  · simp at hcl
  · rename_i y
    split at hcl
    · rename_i hone
      simp only [Option.some.injEq] at hcl; subst hcl
      simp only [VRep] at hx; subst hx
      have : x.cells = #[x] := by cases x <;> simp_all [Value.cells, Value.oneCell']
      rw [this]; simp [LRep, VRep, hone]
    · simp at hcl
  · rename_i n1 n2 n3 n4
    simp only [Option.some.injEq] at hcl; subst hcl
    have : x.cells = #[x] ∧ x.oneCell' = true := by
      cases v <;> simp only [VRep] at hx <;> first
        | (subst hx; exact ⟨rfl, rfl⟩)
        | (obtain ⟨_, rfl, _⟩ := hx; exact ⟨rfl, rfl⟩)
        | (obtain ⟨rfl, _⟩ := hx; exact ⟨rfl, rfl⟩)
        | (obtain ⟨_, _, ⟨_, _, _, _, rfl⟩ | ⟨_, _, rfl, _⟩⟩ := hx <;> exact ⟨rfl, rfl⟩)
        | (obtain ⟨_, _, _, _, _, rfl, _⟩ := hx; exact ⟨rfl, rfl⟩)
        | (obtain ⟨_, _, rfl, _⟩ := hx; exact ⟨rfl, rfl⟩)
        | exact absurd rfl (n1 _)
        | exact absurd rfl n2
        | exact absurd rfl (n3 _)
        | exact absurd rfl (n4 _)
    rw [this.1]; simpa [LRep, this.2] using hx
theorem fillA_rep {w : World} {g : Gh} {place : Nat → Option (Nat × Nat)} : ∀ {parts : List (Nat × Option AV)} {vparts : List (Nat × Value)} {cells out : List AV} {vc : Array Value},
    LRep w g cells vc.toList → (∀ y ∈ vc.toList, y.oneCell' = true) → fillA place cells parts = some out → vparts.map (·.1) = parts.map (·.1) →
    (∀ (i : Nat) p q v, parts[i]? = some p → vparts[i]? = some q → p.2 = some v → VRep w g v q.2) →
    ∃ vo, Instr.fill place vc vparts = some vo ∧ LRep w g out vo.toList ∧ ∀ y ∈ vo.toList, y.oneCell' = true
  | [], vparts, cells, out, vc, hr, ho, hf, hm, _ => by
    simp only [fillA, Option.some.injEq] at hf; subst hf
    have : vparts = [] := by simpa using hm
    subst this
    exact ⟨vc, rfl, hr, ho⟩
  | (i, p) :: parts, vparts, cells, out, vc, hr, ho, hf, hm, hp => by
    cases vparts with
    | nil => simp at hm
    | cons q vparts =>
      obtain ⟨j, x⟩ := q
      simp only [List.map_cons, List.cons.injEq] at hm
      obtain ⟨rfl, hm⟩ := hm
      simp only [fillA] at hf
      split at hf
      · rename_i off size vs hpl hcl
        simp only [Option.bind_eq_some_iff] at hcl
        obtain ⟨v, hv, hcl⟩ := hcl
        have hx := hp 0 (j, p) (j, x) v (by simp) (by simp) hv
        split at hf
        · simp at hf
        · rename_i hcond
          have hc1 : vs.length = size ∧ off + vs.length ≤ cells.length := by omega
          have hvl := LRep_length hr
          obtain ⟨hcells, hone⟩ := cells_rep hcl hx
          have hxl : x.cells.size = vs.length := by have := LRep_length hcells; simpa using this
          have hnew : LRep w g (sc cells off vs) (x.cells.zipIdx.foldl (fun cs (c, j) => cs.setIfInBounds (off + j) c) vc).toList := by
            exact fold_rep hr hcells off
          obtain ⟨vo, h1, h2⟩ := fillA_rep hnew (fold_one ho hone off) hf hm (fun i p q v h1 h2 h3 => hp (i + 1) p q v (by simpa using h1) (by simpa using h2) h3)
          refine ⟨vo, ?_, h2⟩
          have hvs : vc.size = cells.length := by simpa using hvl
          simp only [Instr.fill, hpl]
          rw [if_neg]
          · exact h1
          · simp [hxl, hc1.1, hvs]; omega
      · simp at hf
end
end Go.Sx
