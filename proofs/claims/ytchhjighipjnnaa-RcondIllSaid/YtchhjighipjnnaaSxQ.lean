/- A part of the proofs of this seat: SxQ. No condition is set. -/
import Derived.Test.YtchhjighipjnnaaSxP
set_option linter.unusedVariables false
set_option linter.unusedSimpArgs false
namespace Go.Sx

class UI (P : Program) (t : TypeId) (d : outParam TypeDesc) : Prop where
  h : P.underlying t = some d

/-! ### lists of floats, of whole numbers -/
def fl (l : List Nat) : List AV := l.map .flt
def il (l : List Int) : List AV := l.map (.int .i64)
@[simp] theorem fl_len (l : List Nat) : (fl l).length = l.length := by simp [fl]
@[simp] theorem il_len (l : List Int) : (il l).length = l.length := by simp [il]
theorem fl_get {l : List Nat} {k : Nat} (h : k < l.length) : (fl l)[k]? = some (.flt (l.getD k 0)) := by simp [fl, h]
theorem il_get {l : List Int} {k : Nat} (h : k < l.length) : (il l)[k]? = some (.int .i64 (l.getD k 0)) := by simp [il, h]
theorem fl_app (l m : List Nat) : fl l ++ fl m = fl (l ++ m) := by simp [fl]
theorem il_app (l m : List Int) : il l ++ il m = il (l ++ m) := by simp [il]
theorem fl_set (l : List Nat) (k x : Nat) : (fl l).set k (.flt x) = fl (l.set k x) := by simp [fl, List.map_set]
theorem il_set (l : List Int) (k : Nat) (x : Int) : (il l).set k (.int .i64 x) = il (l.set k x) := by simp [il, List.map_set]
theorem sc_one (cs : List AV) (off : Nat) (v : AV) : sc cs off [v] = cs.set off v := rfl
theorem gc_one {cs : List AV} {k : Nat} {c : AV} (h : cs[k]? = some c) : gc cs k 1 = some [c] := by simp [gc, h]
theorem mxL_fl : ∀ (l : List Nat), mxL (fl l) = 0
  | [] => rfl
  | x :: l => by
    have := mxL_fl l
    simp only [fl, List.map_cons, mxL, mx] at this ⊢
    rw [this]; rfl
theorem mxL_il : ∀ (l : List Int), mxL (il l) = 0
  | [] => rfl
  | x :: l => by
    have := mxL_il l
    simp only [il, List.map_cons, mxL, mx] at this ⊢
    rw [this]; rfl
theorem gc_take : ∀ (cs : List AV) (o n : Nat), o + n ≤ cs.length → gc cs o n = some ((cs.drop o).take n)
  | cs, o, 0, _ => by simp [gc]
  | cs, o, n + 1, h => by
    have hlt : o < cs.length := by omega
    simp only [gc]
    rw [List.getElem?_eq_getElem hlt]
    simp only [Option.bind_some]
    rw [gc_take cs (o + 1) n (by omega)]
    simp only [Option.map_some, Option.some.injEq]
    rw [List.drop_eq_getElem_cons hlt, List.take_succ_cons]
theorem gc_all (cs : List AV) {n : Nat} (h : n = cs.length) : gc cs 0 n = some cs := by
  subst h
  rw [gc_take cs 0 _ (by omega)]
  simp

/-- a list of floats, wherever it lies -/
structure FL (H : List (List AV)) (D : AV) (l : List Nat) : Prop where
  len : slen D = some l.length
  all : D ≠ .slnil → sread H D 0 l.length = some (fl l)
  one : ∀ id g o n z, D = .slm id g o n z → z = 1
  mx : Sx.mx D ≤ H.length
theorem FL.nil (H : List (List AV)) : FL H .slnil [] := ⟨rfl, fun h => absurd rfl h, by simp, by simp [Sx.mx]⟩
theorem FL.fz (H : List (List AV)) (tag : Option (Nat × Nat)) (l : List Nat) : FL H (.sl tag l.length (fl l)) l :=
  ⟨rfl, fun _ => by simp only [sread]; exact gc_all _ (by simp), by simp, by simp only [Sx.mx, mxL_fl]; exact Nat.zero_le _⟩
theorem FL.slm {H : List (List AV)} {id off n g : Nat} {l m : List Nat} (h : H[id]? = some (fl m)) (hg : g = m.length) (hn : off + n ≤ m.length) (hl : l = (m.drop off).take n) : FL H (.slm id g off n 1) l := by
  subst hl hg
  have e : ((m.drop off).take n).length = n := by simp; omega
  refine ⟨by simp [slen, e], fun _ => ?_, by simp; omega, (List.getElem?_eq_some_iff.1 h).1⟩
  simp only [sread, h, Option.bind_some, fl_len, if_true, e, Nat.add_zero]
  rw [gc_take _ _ _ (by simpa using hn)]
  simp [fl, List.map_drop, List.map_take]
theorem FL.app {H : List (List AV)} {D : AV} {l : List Nat} (h : FL H D l) (N : List (List AV)) : FL (H ++ N) D l := by
  refine ⟨h.len, fun hD => ?_, h.one, Nat.le_trans h.mx (by simp)⟩
  have h1 := h.all hD
  cases D <;> simp only [sread] at h1 ⊢ <;> try exact h1
  rename_i id gen o len sz
  cases hi : H[id]? with
  | none => rw [hi] at h1; simp at h1
  | some cs =>
    rw [hi] at h1
    rw [List.getElem?_append_left (List.getElem?_eq_some_iff.1 hi).1, hi]; exact h1
theorem gc_sub {cs : List AV} {o n : Nat} {l : List AV} (h : gc cs o n = some l) {k : Nat} {c : AV} (hk : l[k]? = some c) : gc cs (o + k) 1 = some [c] := by
  obtain ⟨h1, h2⟩ := gc_get h
  have hlt := (List.getElem?_eq_some_iff.1 hk).1
  exact gc_one (by rw [← h2 k (by omega)]; exact hk)
theorem FL.rd {H : List (List AV)} {D : AV} {l : List Nat} (h : FL H D l) {k : Nat} (hk : k < l.length) : sread H D k 1 = some [.flt (l.getD k 0)] := by
  have hD : D ≠ .slnil := by rintro rfl; have := h.len; simp [slen] at this; omega
  have h1 := h.all hD
  cases D <;> simp only [sread, reduceCtorEq] at h1 ⊢
  · have := gc_sub h1 (fl_get hk); simpa using this
  · rename_i id gen o len sz
    cases hi : H[id]? with
    | none => rw [hi] at h1; simp at h1
    | some cs =>
      rw [hi] at h1
      simp only [Option.bind_some] at h1 ⊢
      split at h1
      · rename_i hg; rw [if_pos hg]
        have := gc_sub h1 (fl_get hk); simpa using this
      · simp at h1

/-! ### blocks, new ones behind those that were there -/
section
variable {A N : List (List AV)} {n j : Nat}
theorem hg_new (hA : A.length = n) {cs : List AV} (hj : N[j]? = some cs) : (A ++ N)[n + j]? = some cs := by
  subst hA; rw [List.getElem?_append_right (by omega)]; simpa using hj
theorem hg_old {i : Nat} {cs : List AV} (h : A[i]? = some cs) : (A ++ N)[i]? = some cs := by
  rw [List.getElem?_append_left (List.getElem?_eq_some_iff.1 h).1]; exact h
theorem hs_new (hA : A.length = n) {cs : List AV} {N' : List (List AV)} (hN : N.set j cs = N') : (A ++ N).set (n + j) cs = A ++ N' := by
  subst hA hN; rw [List.set_append_right _ _ (by omega)]; simp
theorem hs_old {i : Nat} {cs : List AV} (h : i < A.length) : (A ++ N).set i cs = A.set i cs ++ N := by rw [List.set_append_left _ _ h]
end

section
variable {P : Program} {cfg : Cfg} {dr : Array Oper → (St → Prop) → St → Prop} {e : List (Nat × EV)} {L : List (Nat × List AV)} {H : List (List AV)} {Q : XE → St → Prop} {K : St → Prop}
variable {kn : Option (Nat × Bool)} {ops : Array Oper} {d : Option Tmp} {o : Op} {ty : TypeId} {pos : String} {aft : Array Edge} {rest : List Oper} {j : Nat} {b want : Bool} {gd : Option (Nat × Bool)} {dd : Nat}

/-! ### values told one by one -/
def gK (xs : List Operand) (acc : List AV) (k : List AV → Prop) (st : St) : Prop := ∃ vs, argsX st.ev xs = some vs ∧ k (acc ++ vs)
theorem gk_nil {acc : List AV} {k : List AV → Prop} (h : k acc) : gK [] acc k ⟨e, L, H⟩ := ⟨[], rfl, by simpa using h⟩
theorem gk_cons {acc : List AV} {k : List AV → Prop} {x : Operand} {xs : List Operand} {v : AV} (hv : St.ev ⟨e, L, H⟩ x = .val v) (h : gK xs (acc ++ [v]) k ⟨e, L, H⟩) : gK (x :: xs) acc k ⟨e, L, H⟩ := by
  obtain ⟨vs, ha, hc⟩ := h
  exact ⟨v :: vs, ae_cons hv ha, by simpa using hc⟩

/-! ### new slices -/
theorem b_mks {t : TypeId} {l c : Operand} {s by_ : Nat} {zc cs : List AV} [ei : EI P t s by_ zc] {k k' : IntKind} {n : Int} {m : Nat} (hl : St.ev ⟨e, L, H⟩ l = .val (.int k n)) (hc : St.ev ⟨e, L, H⟩ c = .val (.int k' n)) (hn : n = (m : Int)) (hm : m ≤ 2 ^ 32)
    (hz : zrep m zc = cs) (hs : (decide (by_ ≤ 2 ^ 10) && zc.length == s && decide (0 < s)) = true) (h : K ⟨(dd, .val (.slm H.length cs.length 0 m s)) :: e, L, H ++ [cs]⟩) :
    opX P cfg ⟨some dd, .makeSlice t l c, ty, pos, aft, gd⟩ K ⟨e, L, H⟩ := by
  subst hz hn
  simp only [Bool.and_eq_true, decide_eq_true_eq, beq_iff_eq] at hs
  simp only [opX, opE, ei.h, hl, hc, EV.asI, Int.toNat_natCast]
  exact ⟨trivial, by omega, by omega, hs.1.1, hs.1.2, hs.2, h⟩
/-- .. of floats -/
theorem b_mkf {t : TypeId} {l c : Operand} [ei : EI P t 1 8 [.flt 0]] {A N N' : List (List AV)} {n₀ i : Nat} {k k' : IntKind} {n : Int} {m : Nat} (hl : St.ev ⟨e, L, A ++ N⟩ l = .val (.int k n)) (hc : St.ev ⟨e, L, A ++ N⟩ c = .val (.int k' n)) (hA : A.length = n₀) (hi : N.length = i) (hN : N ++ [fl (List.replicate m 0)] = N')
    (hn : n = (m : Int)) (hm : m ≤ 2 ^ 32) (h : K ⟨(dd, .val (.slm (n₀ + i) m 0 m 1)) :: e, L, A ++ N'⟩) :
    opX P cfg ⟨some dd, .makeSlice t l c, ty, pos, aft, gd⟩ K ⟨e, L, A ++ N⟩ := by
  subst hN hi hA
  refine b_mks (cs := fl (List.replicate m 0)) hl hc hn hm (by simp [zrep, fl]) rfl ?_
  simpa [List.append_assoc] using h
/-- a value of one cell -/
def oneC : AV → Bool
  | .agg _ | .junk | .tup _ => false
  | .raw v => v.oneCell'
  | _ => true
theorem oneC_cells {v : AV} (h : oneC v = true) : v.cells = some [v] := by
  cases v <;> simp_all [oneC, AV.cells]
theorem sc_next {v z : AV} {vs cs zs : List AV} {k : Nat} (hk : vs.length = k) : sc (vs ++ z :: zs) k [v] = (vs ++ [v]) ++ zs := by
  subst hk; simp [sc]
theorem fill_all {z : AV} : ∀ (vs : List AV) (done : List AV) (k : Nat) (ps : List (Nat × Option AV)), k = done.length → ps.map (·.1) = List.range' k vs.length → ps.map (·.2) = vs.map some → (∀ v ∈ vs, oneC v = true) →
    fillA (fun i => some (i * 1, 1)) (done ++ List.replicate vs.length z) ps = some (done ++ vs)
  | [], done, k, ps, _, h1, _, _ => by
    have : ps = [] := by simpa using h1
    subst this; simp [fillA]
  | v :: vs, done, k, ps, hk, h1, h2, h3 => by
    cases ps with
    | nil => simp at h2
    | cons p ps =>
      obtain ⟨i, ov⟩ := p
      simp only [List.map_cons, List.cons.injEq, List.length_cons, List.range'_succ] at h1 h2
      obtain ⟨rfl, h1⟩ := h1
      obtain ⟨rfl, h2⟩ := h2
      simp only [fillA, Option.bind_some, oneC_cells (h3 v (by simp)), List.length_singleton, List.length_cons, List.replicate_succ]
      rw [if_neg (by simp; omega), Nat.mul_one, sc_next (cs := []) hk.symm]
      have := fill_all (z := z) vs (done ++ [v]) (i + 1) ps (by simp [hk]) h1 h2 (fun x hx => h3 x (by simp [hx]))
      simpa using this
/-- a literal of a slice, each element one cell; 'k' is told what it is -/
theorem bsl_core {len : Nat} {z : AV} {parts : Array (Nat × Operand)} {vs : List AV} (ha : argsX (St.ev ⟨e, L, H⟩) (parts.toList.map (·.2)) = some vs) (hr : parts.toList.map (·.1) = List.range' 0 len) (hone : vs.all oneC = true) :
    fillA (fun i => some (i * 1, 1)) (zrep len [z]) (parts.toList.map fun (i, x) => (i, (St.ev ⟨e, L, H⟩ x).asV)) = some vs ∧ vs.length = len := by
  have h1 := mapM_id ha
  have hlen : vs.length = len := by
    have := congrArg List.length hr
    have h2 := congrArg List.length h1
    simp at this h2; omega
  refine ⟨?_, hlen⟩
  have := fill_all (z := z) vs [] 0 (parts.toList.map fun (i, x) => (i, (St.ev ⟨e, L, H⟩ x).asV)) rfl (by rw [hlen, ← hr]; simp [Function.comp_def]) (by rw [← h1]; simp [Function.comp_def]) (by simpa using hone)
  simpa [zrep, hlen] using this
theorem b_bslZ {t : TypeId} {len by_ : Nat} {z : AV} {parts : Array (Nat × Operand)} [ei : EI P t 1 by_ [z]] (hfz : cfg.fz.contains dd = true) (hr : parts.toList.map (·.1) = List.range' 0 len) (hl : len ≤ 2 ^ 24)
    (h : gK (parts.toList.map (·.2)) [] (fun vs => vs.all oneC = true ∧ K ⟨(dd, .val (.sl none len vs)) :: e, L, H⟩) ⟨e, L, H⟩) : opX P cfg ⟨some dd, .buildSlice t len parts, ty, pos, aft, gd⟩ K ⟨e, L, H⟩ := by
  obtain ⟨vs, ha, hone, h⟩ := h
  simp only [List.nil_append] at hone h
  obtain ⟨h1, h2⟩ := bsl_core (z := z) ha hr hone
  simp only [opX, opE, ei.h, h1, Option.any_some, hfz, if_true]
  exact ⟨rfl, by omega, by omega, h⟩
theorem b_bslN {t : TypeId} {len by_ : Nat} {z : AV} {parts : Array (Nat × Operand)} [ei : EI P t 1 by_ [z]] {A N : List (List AV)} {n₀ i : Nat} (hfz : cfg.fz.contains dd = false) (hr : parts.toList.map (·.1) = List.range' 0 len) (hl : len ≤ 2 ^ 24) (hA : A.length = n₀) (hi : N.length = i)
    (h : gK (parts.toList.map (·.2)) [] (fun vs => vs.all oneC = true ∧ ∀ N', N ++ [vs] = N' → K ⟨(dd, .val (.slm (n₀ + i) len 0 len 1)) :: e, L, A ++ N'⟩) ⟨e, L, A ++ N⟩) : opX P cfg ⟨some dd, .buildSlice t len parts, ty, pos, aft, gd⟩ K ⟨e, L, A ++ N⟩ := by
  obtain ⟨vs, ha, hone, h⟩ := h
  simp only [List.nil_append] at hone h
  obtain ⟨h1, h2⟩ := bsl_core (z := z) ha hr hone
  simp only [opX, opE, ei.h, h1, Option.any_some, hfz, Bool.false_eq_true, if_false]
  subst hA hi
  have := h _ rfl
  refine ⟨rfl, by omega, by omega, ?_⟩
  rw [app_some]
  simpa [h2, List.append_assoc] using this

/-! ### append -/
/-- what is appended -/
theorem b_app0 {t tx : TypeId} {s x : Operand} {sz by_ el' z' : Nat} {zc xs : List AV} [ei : EI P t sz by_ zc] [si : SlI P tx el' z'] {vx : AV} {m : Nat} (hs : St.ev ⟨e, L, H⟩ s = .val .slnil) (hx : St.ev ⟨e, L, H⟩ x = .val vx) (hsrc : srcX H sz vx = some (m, xs)) (hm : 0 < m ∧ m ≤ 2 ^ 32)
    (hz : (decide (by_ ≤ 2 ^ 10) && decide (0 < by_) && zc.length == sz && decide (0 < sz)) = true) (h : K ⟨(dd, .val (.slm H.length xs.length 0 m sz)) :: e, L, H ++ [xs]⟩) :
    opX P cfg ⟨some dd, .call { callee := .builtin .append, args := #[s, x], argTypes := #[t, tx] }, ty, pos, aft, gd⟩ K ⟨e, L, H⟩ := by
  simp only [Bool.and_eq_true, decide_eq_true_eq, beq_iff_eq] at hz
  simp only [opX, opE, List.map_cons, List.map_nil, hs, hx, EV.asV, ei.h, si.h, hsrc, appX]
  exact ⟨hz.1.1.1, hz.1.1.2, hz.1.2, hz.2, hm.2, fun h0 => by omega, fun _ => h⟩
theorem b_app1 {t tx : TypeId} {s x : Operand} {id gen len sz by_ el' z' : Nat} {zc xs cs : List AV} [ei : EI P t sz by_ zc] [si : SlI P tx el' z'] {vx : AV} {m : Nat} (hs : St.ev ⟨e, L, H⟩ s = .val (.slm id gen 0 len sz)) (hx : St.ev ⟨e, L, H⟩ x = .val vx) (hsrc : srcX H sz vx = some (m, xs))
    (hc : H[id]? = some cs) (hg : cs.length = gen) (hl : len * sz = gen) (hm : len + m ≤ 2 ^ 32) (hmx : cfg.n0 ≤ id ∨ mxL xs ≤ cfg.n0)
    (hz : (decide (by_ ≤ 2 ^ 10) && decide (0 < by_) && zc.length == sz && decide (0 < sz)) = true) (h : K ⟨(dd, .val (.slm id (cs.length + xs.length) 0 (len + m) sz)) :: e, L, H.set id (cs ++ xs)⟩) :
    opX P cfg ⟨some dd, .call { callee := .builtin .append, args := #[s, x], argTypes := #[t, tx] }, ty, pos, aft, gd⟩ K ⟨e, L, H⟩ := by
  simp only [Bool.and_eq_true, decide_eq_true_eq, beq_iff_eq] at hz
  simp only [opX, opE, List.map_cons, List.map_nil, hs, hx, EV.asV, ei.h, si.h, hsrc, appX, hc]
  exact ⟨hz.1.1.1, hz.1.1.2, hz.1.2, hz.2, trivial, hg, trivial, hl, hm, hmx, h⟩
/-- .. to nothing, from nothing -/
theorem b_app00 {t tx : TypeId} {s x : Operand} {sz by_ el' z' : Nat} {zc xs : List AV} [ei : EI P t sz by_ zc] [si : SlI P tx el' z'] {vx : AV} (hs : St.ev ⟨e, L, H⟩ s = .val .slnil) (hx : St.ev ⟨e, L, H⟩ x = .val vx) (hsrc : srcX H sz vx = some (0, xs))
    (hz : (decide (by_ ≤ 2 ^ 10) && decide (0 < by_) && zc.length == sz && decide (0 < sz)) = true) (h : K ⟨(dd, .val .slnil) :: e, L, H⟩) :
    opX P cfg ⟨some dd, .call { callee := .builtin .append, args := #[s, x], argTypes := #[t, tx] }, ty, pos, aft, gd⟩ K ⟨e, L, H⟩ := by
  simp only [Bool.and_eq_true, decide_eq_true_eq, beq_iff_eq] at hz
  simp only [opX, opE, List.map_cons, List.map_nil, hs, hx, EV.asV, ei.h, si.h, hsrc, appX]
  exact ⟨hz.1.1.1, hz.1.1.2, hz.1.2, hz.2, by omega, fun _ => h, fun h0 => by omega⟩
/-- a float behind a list of floats (the literal of one element that Go makes for it) -/
theorem src_fz {H : List (List AV)} {tag : Option (Nat × Nat)} {n sz : Nat} {cs : List AV} (h : n * sz = cs.length) : srcX H sz (.sl tag n cs) = some (n, cs) := by
  simp only [srcX, slen, Option.bind_some, sread]
  rw [gc_all cs h]; rfl
theorem src_fl {H : List (List AV)} {D : AV} {l : List Nat} (h : FL H D l) : srcX H 1 D = some (l.length, fl l) := by
  by_cases hD : D = .slnil
  · subst hD
    have := h.len
    simp only [slen, Option.some.injEq] at this
    have : l = [] := List.eq_nil_of_length_eq_zero this.symm
    subst this; rfl
  · have h1 := h.all hD
    cases D <;> first | exact absurd rfl hD | (simp only [sread, reduceCtorEq] at h1; done) | simp only [srcX, h.len, Option.bind_some, Nat.mul_one, h1, Option.map_some]
end
end Go.Sx
