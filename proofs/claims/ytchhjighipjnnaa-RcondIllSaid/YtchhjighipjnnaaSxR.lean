/- A part of the proofs of this seat: SxR. No condition is set. -/
import Derived.Test.YtchhjighipjnnaaSxQ
set_option linter.unusedVariables false
set_option linter.unusedSimpArgs false
namespace Go.Sx

/-! ### structs, told part by part -/
def buildP (P : Program) (t : TypeId) : Option (List AV × List (Nat × Nat)) :=
  match tzero P t, P.underlying t with
  | some z, some (.struct fs) => (z.cells).bind fun zc => (fs.toList.mapM fun f => (tsz P f.type).map (f.offset, ·)).map (zc, ·)
  | _, _ => none
class BdI (P : Program) (t : TypeId) (zc : outParam (List AV)) (pl : outParam (List (Nat × Nat))) : Prop where
  h : buildP P t = some (zc, pl)
theorem mapM_some {α β : Type} (f : α → Option β) : ∀ (l : List α) {r : List β}, l.mapM f = some r → l.map f = r.map some
  | [], r, h => by simp at h; subst h; rfl
  | a :: l, r, h => by
    simp only [List.mapM_cons, Option.bind_eq_bind, Option.bind_eq_some_iff, Option.pure_def, Option.some.injEq] at h
    obtain ⟨b, h1, r', h2, rfl⟩ := h
    simp [h1, mapM_some f l h2]
theorem fillA_congr {p q : Nat → Option (Nat × Nat)} (h : ∀ i, p i = q i) (cs : List AV) (l : List (Nat × Option AV)) : fillA p cs l = fillA q cs l := by
  have : p = q := funext h
  rw [this]
theorem buildP_eq {P : Program} {t : TypeId} {zc : List AV} {pl : List (Nat × Nat)} (h : buildP P t = some (zc, pl)) (ρ : Operand → EV) (parts : Array (Nat × Operand)) :
    buildV P ρ t parts = (fillA (fun i => pl[i]?) zc (parts.toList.map fun (i, x) => (i, (ρ x).asV))).map .agg := by
  unfold buildP at h
  split at h
  · rename_i z fs hz hu
    simp only [Option.bind_eq_some_iff, Option.map_eq_some_iff, Prod.mk.injEq] at h
    obtain ⟨zc', h1, pl', h2, rfl, rfl⟩ := h
    have hm := mapM_some _ _ h2
    have hall : fs.all (fun f => (tsz P f.type).isSome) = true := by
      rw [Array.all_eq_true_iff_forall_mem]
      intro f hf
      have hf' : f ∈ fs.toList := by simpa using hf
      have : (tsz P f.type).map (f.offset, ·) ∈ fs.toList.map (fun f => (tsz P f.type).map (f.offset, ·)) := List.mem_map_of_mem hf'
      rw [hm] at this
      simp only [List.mem_map] at this
      obtain ⟨x, _, hx⟩ := this
      cases hq : tsz P f.type with
      | none => rw [hq] at hx; simp at hx
      | some n => rfl
    unfold buildV
    simp only [hz, hu, hall, if_true, h1, Option.bind_some]
    congr 1
    refine fillA_congr (fun i => ?_) _ _
    have := congrArg (·[i]?) hm
    simp only [List.getElem?_map, Array.getElem?_toList] at this
    simp only [fieldPl]
    cases hf : fs[i]? with
    | none =>
      rw [hf] at this
      cases hp : pl'[i]? with
      | none => rfl
      | some p => rw [hp] at this; simp at this
    | some f =>
      rw [hf] at this
      simp only [Option.map_some, Option.bind_some] at this ⊢
      cases hp : pl'[i]? with
      | none => rw [hp] at this; simp at this
      | some p => rw [hp] at this; simpa using this
  · simp at h

section
variable {P : Program} {cfg : Cfg} {dr : Array Oper → (St → Prop) → St → Prop} {e : List (Nat × EV)} {L : List (Nat × List AV)} {H : List (List AV)} {Q : XE → St → Prop} {K : St → Prop}
variable {kn : Option (Nat × Bool)} {ops : Array Oper} {d : Option Tmp} {o : Op} {ty : TypeId} {pos : String} {aft : Array Edge} {rest : List Oper} {j : Nat} {b want : Bool} {gd : Option (Nat × Bool)} {dd : Nat}

def fK (pl : List (Nat × Nat)) (zc : List AV) (ps : List (Nat × Operand)) (k : List AV → Prop) (st : St) : Prop :=
  ∃ cs, fillA (fun i => pl[i]?) zc (ps.map fun (i, x) => (i, (st.ev x).asV)) = some cs ∧ k cs
theorem fk_nil {pl : List (Nat × Nat)} {zc : List AV} {k : List AV → Prop} (h : k zc) : fK pl zc [] k ⟨e, L, H⟩ := ⟨zc, rfl, h⟩
theorem fk_cons {pl : List (Nat × Nat)} {zc zc' vs : List AV} {i off sz : Nat} {x : Operand} {ps : List (Nat × Operand)} {k : List AV → Prop} {v : AV} (hx : St.ev ⟨e, L, H⟩ x = .val v) (hc : v.cells = some vs) (hp : pl[i]? = some (off, sz))
    (hl : (vs.length == sz && decide (off + vs.length ≤ zc.length)) = true) (hz : sc zc off vs = zc') (h : fK pl zc' ps k ⟨e, L, H⟩) : fK pl zc ((i, x) :: ps) k ⟨e, L, H⟩ := by
  obtain ⟨cs, h1, h2⟩ := h
  subst hz
  simp only [Bool.and_eq_true, beq_iff_eq, decide_eq_true_eq] at hl
  refine ⟨cs, ?_, h2⟩
  simp only [List.map_cons, fillA, hx, EV.asV, Option.bind_some, hc, hp]
  rw [if_neg (by omega)]
  exact h1
theorem b_build {t : TypeId} {zc : List AV} {pl : List (Nat × Nat)} {parts : Array (Nat × Operand)} [bd : BdI P t zc pl] (h : fK pl zc parts.toList (fun cs => K ⟨(dd, .val (.agg cs)) :: e, L, H⟩) ⟨e, L, H⟩) :
    opX P cfg ⟨some dd, .build t parts, ty, pos, aft, gd⟩ K ⟨e, L, H⟩ := by
  obtain ⟨cs, h1, h2⟩ := h
  rw [op_pure P cfg e L H K _ _ _ _ _ _ rfl]
  simp only [pureV, buildP_eq bd.h, h1, Option.map_some, pureK]
  exact ⟨trivial, h2⟩

/-! ### more values -/
theorem b_cnvI {src dst : TypeId} {x : Operand} {k k' : IntKind} {n : Int} {td : TypeDesc} [u : UI P dst (.int k)] [us : UI P src td] (hx : St.ev ⟨e, L, H⟩ x = .val (.int k' n)) (h : valK dd K ⟨e, L, H⟩ (some (True, .int k (k.wrap n)))) :
    opX P cfg ⟨some dd, .convert src dst x, ty, pos, aft, gd⟩ K ⟨e, L, H⟩ := by
  rw [op_pure P cfg e L H K _ _ _ _ _ _ rfl]
  simp only [pureV, us.h, Option.isSome_some, if_true, hx, cnvV, u.h, Option.map_some, pureK]
  exact ⟨trivial, h.2⟩
theorem b_cnvF {src dst : TypeId} {x : Operand} {v : AV} {f : Nat} {td : TypeDesc} [u : UI P dst (.float .f64)] [us : UI P src td] (hx : St.ev ⟨e, L, H⟩ x = .val v) (hf : v.asF = some f) (h : K ⟨(dd, .val (.flt f)) :: e, L, H⟩) :
    opX P cfg ⟨some dd, .convert src dst x, ty, pos, aft, gd⟩ K ⟨e, L, H⟩ := by
  rw [op_pure P cfg e L H K _ _ _ _ _ _ rfl]
  have : cnvV P dst (.val v) = some (True, .flt f) := by
    unfold cnvV; rw [u.h]
    cases v <;> simp_all [AV.asF]
  simp only [pureV, us.h, Option.isSome_some, if_true, hx, this, Option.map_some, pureK]
  exact ⟨trivial, h⟩
theorem b_cnvIF {src dst : TypeId} {x : Operand} {k : IntKind} {n : Int} {td : TypeDesc} [u : UI P dst (.float .f64)] [us : UI P src td] (hx : St.ev ⟨e, L, H⟩ x = .val (.int k n)) (h : K ⟨(dd, .val (.flt (cn (FloatKind.f64.nearest n)))) :: e, L, H⟩) :
    opX P cfg ⟨some dd, .convert src dst x, ty, pos, aft, gd⟩ K ⟨e, L, H⟩ := by
  rw [op_pure P cfg e L H K _ _ _ _ _ _ rfl]
  simp only [pureV, us.h, Option.isSome_some, if_true, hx, cnvV, u.h, Option.map_some, pureK]
  exact ⟨trivial, h⟩
theorem wrapU {n : Int} (hw : 0 ≤ n ∧ n ≤ 18446744073709551615) : IntKind.u64.wrap n = n := by
  simp only [IntKind.wrap, IntKind.signed, IntKind.bits]
  simp
  omega
theorem v_wu {n : Int} (hw : 0 ≤ n ∧ n ≤ 18446744073709551615) (h : K ⟨(dd, .val (.int .u64 n)) :: e, L, H⟩) : valK dd K ⟨e, L, H⟩ (some (True, .int .u64 (IntKind.u64.wrap n))) := by
  rw [wrapU hw]; exact ⟨trivial, h⟩
theorem v_shr {k : IntKind} {x y : Int} {q : Int} (hx : 0 ≤ x) (hy : 0 ≤ y) (hq : ((2 ^ (min y.toNat k.bits) : Nat) : Int) = q) (h : K ⟨(dd, .val (.int k (x / q))) :: e, L, H⟩) : valK dd K ⟨e, L, H⟩ (some (0 ≤ y, .int k (x.fdiv (2 ^ (min y.toNat k.bits))))) := by
  have e1 : ((2 : Int) ^ (min y.toNat k.bits)) = q := by rw [← hq]; simp
  rw [e1]
  have h0 : 0 ≤ q := by rw [← hq]; exact Int.natCast_nonneg _
  have : x.fdiv q = x / q := by rw [Int.fdiv_eq_ediv_of_nonneg _ h0]
  rw [this]; exact ⟨hy, h⟩
theorem v_mod {k : IntKind} {x y : Int} (hx : 0 ≤ x) (hy : y ≠ 0) (h : K ⟨(dd, .val (.int k (x % y))) :: e, L, H⟩) : valK dd K ⟨e, L, H⟩ (some (y ≠ 0, .int k (x.tmod y))) := by
  rw [Int.tmod_eq_emod_of_nonneg hx]; exact ⟨hy, h⟩
theorem v_qc {x y : Int} (hx : 0 ≤ x ∧ x ≤ 9223372036854775807) (hy : 1 ≤ y) (h : K ⟨(dd, .val (.int .i64 (x / y))) :: e, L, H⟩) : valK dd K ⟨e, L, H⟩ (some (y ≠ 0, .int .i64 (IntKind.i64.wrap (x.tdiv y)))) :=
  v_c (by omega) (v_q hx hy h)
theorem b_max2 {x y : Operand} {ts : Array TypeId} {k : IntKind} {a c m : Int} (hx : St.ev ⟨e, L, H⟩ x = .val (.int k a)) (hy : St.ev ⟨e, L, H⟩ y = .val (.int k c)) (hm : max a c = m) (h : K ⟨(dd, .val (.int k m)) :: e, L, H⟩) :
    opX P cfg ⟨some dd, .call { callee := .builtin .max, args := #[x, y], argTypes := ts }, ty, pos, aft, gd⟩ K ⟨e, L, H⟩ := by
  subst hm
  rw [op_pure P cfg e L H K _ _ _ _ _ _ rfl]
  simp only [pureV, List.map_cons, List.map_nil, hx, hy, EV.asI, if_true, pureK]
  exact ⟨trivial, h⟩
theorem b_min2 {x y : Operand} {ts : Array TypeId} {k : IntKind} {a c m : Int} (hx : St.ev ⟨e, L, H⟩ x = .val (.int k a)) (hy : St.ev ⟨e, L, H⟩ y = .val (.int k c)) (hm : min a c = m) (h : K ⟨(dd, .val (.int k m)) :: e, L, H⟩) :
    opX P cfg ⟨some dd, .call { callee := .builtin .min, args := #[x, y], argTypes := ts }, ty, pos, aft, gd⟩ K ⟨e, L, H⟩ := by
  subst hm
  rw [op_pure P cfg e L H K _ _ _ _ _ _ rfl]
  simp only [pureV, List.map_cons, List.map_nil, hx, hy, EV.asI, if_true, pureK]
  exact ⟨trivial, h⟩
theorem b_field {t : TypeId} {x : Operand} {i off n : Nat} {ft : TypeId} {a : Bool} [fi : FldI P t i off ft] [ti : TyI P ft n a] {cs l : List AV} {v : AV} (hx : St.ev ⟨e, L, H⟩ x = .val (.agg cs)) (hl : gc cs off n = some l) (hv : (if a then some (.agg l) else l.head?) = some v) (hn : (a || n == 1) = true)
    (h : K ⟨(dd, .val v) :: e, L, H⟩) : opX P cfg ⟨some dd, .field t x i, ty, pos, aft, gd⟩ K ⟨e, L, H⟩ := by
  rw [op_pure P cfg e L H K _ _ _ _ _ _ rfl]
  have : ldv P ft l = some v := by
    simp only [ldv, ti.kind]
    cases a with
    | true => simpa using hv
    | false =>
      simp at hn; subst hn
      obtain ⟨h1, _⟩ := gc_get hl
      match l, h1, hv with
      | [c], _, hv => simpa using hv
  simp only [pureV, fi.h, Option.bind_some, hx, ti.sz, hl, this, Option.map_some, pureK]
  exact ⟨trivial, h⟩
/-- a slice of a slice -/
theorem b_slc {t : TypeId} {x : Operand} {lo hi : Option Operand} {el z n : Nat} [si : SlI P t el z] {s v' : AV} {l q : Int} (hx : St.ev ⟨e, L, H⟩ x = .val s) (hn : slen s = some n) (hl : bndI (St.ev ⟨e, L, H⟩) 0 lo = some l) (hq : bndI (St.ev ⟨e, L, H⟩) n hi = some q)
    (hb : 0 ≤ l ∧ l ≤ q ∧ q ≤ n) (hs : slcV z l.toNat q.toNat s = some v') (h : K ⟨(dd, .val v') :: e, L, H⟩) : opX P cfg ⟨some dd, .slice t x lo hi none, ty, pos, aft, gd⟩ K ⟨e, L, H⟩ := by
  rw [op_pure P cfg e L H K _ _ _ _ _ _ rfl]
  have : sliceV P t (.val s) (some l) (fun n => bndI (St.ev ⟨e, L, H⟩) n hi) = some (0 ≤ l ∧ l ≤ q ∧ q ≤ n, v') := by
    cases s <;> simp only [slen, Option.some.injEq, reduceCtorEq] at hn <;> subst hn <;> simp only [sliceV, si.h, si.z, Option.bind_some, slen, hq, hs, Option.map_some]
  simp only [pureV, hx, hl, this, Option.map_some, pureK]
  exact ⟨hb, h⟩
/-- a new box that escapes -/
theorem b_boxE {t : TypeId} {x : Operand} {A N N' : List (List AV)} {n i : Nat} {vx : EV} {cs : List AV} (hx : St.ev ⟨e, L, A ++ N⟩ x = vx) (hr : vx.asV.bind AV.cells = some cs) (hesc : cfg.esc = true) (hA : A.length = n) (hi : N.length = i) (hN : N ++ [cs] = N')
    (h : K ⟨(dd, .val (.eptr (.slm (n + i) cs.length 0 1 cs.length) 0)) :: e, L, A ++ N'⟩) : opX P cfg ⟨some dd, .box t x, ty, pos, aft, gd⟩ K ⟨e, L, A ++ N⟩ := by
  subst hx hA hi hN
  simp only [opX, opE, hr, newX, hesc, if_true, app_some]
  simpa [List.append_assoc] using h
theorem b_allocE {t : TypeId} {A N N' : List (List AV)} {n i : Nat} {cs : List AV} [z : ZI P t cs] (hesc : cfg.esc = true) (hA : A.length = n) (hi : N.length = i) (hN : N ++ [cs] = N')
    (h : K ⟨(dd, .val (.eptr (.slm (n + i) cs.length 0 1 cs.length) 0)) :: e, L, A ++ N'⟩) : opX P cfg ⟨some dd, .alloc t, ty, pos, aft, gd⟩ K ⟨e, L, A ++ N⟩ := by
  subst hA hi hN
  simp only [opX, opE, z.h, newX, hesc, if_true, app_some]
  simpa [List.append_assoc] using h

/-! ### what is handed back -/
def rK (P : Program) (rs : List ResultVar) (acc : List AV) (k : List AV → Prop) (st : St) : Prop := ∃ vs, (rs.map (resV P st)).mapM id = some vs ∧ k (acc ++ vs)
theorem rk_nil {acc : List AV} {k : List AV → Prop} (h : k acc) : rK P [] acc k ⟨e, L, H⟩ := ⟨[], rfl, by simpa using h⟩
theorem rk_cons {r : ResultVar} {rs : List ResultVar} {acc : List AV} {k : List AV → Prop} {v : AV} (hr : resV P ⟨e, L, H⟩ r = some v) (h : rK P rs (acc ++ [v]) k ⟨e, L, H⟩) : rK P (r :: rs) acc k ⟨e, L, H⟩ := by
  obtain ⟨vs, h1, h2⟩ := h
  refine ⟨v :: vs, ?_, by simpa using h2⟩
  simp only [List.map_cons, List.mapM_cons, hr, id_eq, Option.bind_eq_bind, Option.bind_some, h1]; rfl
theorem rk_tmp {t : Nat} {rs : List ResultVar} {acc : List AV} {k : List AV → Prop} {v : AV} (hv : St.ev ⟨e, L, H⟩ (.tmp t) = .val v) (h : rK P rs (acc ++ [v]) k ⟨e, L, H⟩) : rK P (.tmp t :: rs) acc k ⟨e, L, H⟩ :=
  rk_cons (by simp [resV, hv, EV.asV]) h
theorem rk_cellA {x t n : Nat} {rs : List ResultVar} {acc : List AV} {k : List AV → Prop} [ti : TyI P t n true] {key off : Nat} {cs l : List AV} (hx : St.ev ⟨e, L, H⟩ (.tmp x) = .loc key off) (hc : lk L key = some cs) (hl : gc cs off n = some l) (h : rK P rs (acc ++ [.agg l]) k ⟨e, L, H⟩) :
    rK P (.cell x t :: rs) acc k ⟨e, L, H⟩ :=
  rk_cons (by simp [resV, pureV, hx, hc, ti.sz, hl, ldv, ti.kind]) h
theorem rk_cell1 {x t : Nat} {rs : List ResultVar} {acc : List AV} {k : List AV → Prop} [ti : TyI P t 1 false] {key off : Nat} {cs : List AV} {v : AV} (hx : St.ev ⟨e, L, H⟩ (.tmp x) = .loc key off) (hc : lk L key = some cs) (hl : cs[off]? = some v) (h : rK P rs (acc ++ [v]) k ⟨e, L, H⟩) :
    rK P (.cell x t :: rs) acc k ⟨e, L, H⟩ :=
  rk_cons (by simp [resV, pureV, hx, hc, ti.sz, gc_one hl, ldv, ti.kind]) h
def RetV (H₀ : List (List AV)) (r : AV) (H' : List (List AV)) (H : List (List AV)) (vs : List AV) : Prop :=
  ∃ keep : List Nat, keep.Nodup ∧ (∀ k ∈ keep, H₀.length ≤ k ∧ ∃ cs, H[k]? = some cs ∧ mxL cs ≤ H₀.length) ∧ frH H₀.length keep H = H' ∧ Fr H₀.length keep H (resOne vs) r
theorem b_retK {fn : Func} {H₀ H' : List (List AV)} {r : AV} {x : XE} {rs : List ResultVar} (hx : x = .ret ∨ x = .normal) (hf : fn.results.toList = rs) (h : rK P rs [] (RetV H₀ r H' H) ⟨e, L, H⟩) : RetQ P fn H₀ r H' x ⟨e, L, H⟩ := by
  obtain ⟨vs, h1, keep, h2, h3, h4, h5⟩ := h
  subst hf
  exact ⟨by rcases hx with rfl | rfl <;> trivial, vs, keep, h1, h2, h3, h4, by simpa using h5⟩
section
variable {H₀ A N : List (List AV)} {n : Nat}
/-- nothing new is kept; the value is of old -/
theorem rv_old {r : AV} {vs : List AV} (hA : A.length = H₀.length) (hm : mx (resOne vs) ≤ H₀.length) (hr : resOne vs = r) : RetV H₀ r A (A ++ N) vs := by
  subst hr
  exact ⟨[], List.nodup_nil, by simp, by simp [frH, ← hA], Fr.old hm⟩
/-- nothing new is kept, but as what nobody writes -/
theorem rv_fr {r : AV} {vs : List AV} (hA : A.length = H₀.length) (hr : Fr H₀.length [] (A ++ N) (resOne vs) r) : RetV H₀ r A (A ++ N) vs :=
  ⟨[], List.nodup_nil, by simp, by simp [frH, ← hA], hr⟩
/-- one new block is kept -/
theorem rv_kp {r : AV} {vs cs : List AV} {j : Nat} (hA : A.length = H₀.length) (hj : N[j]? = some cs) (hm : mxL cs ≤ H₀.length) (hr : Fr H₀.length [H₀.length + j] (A ++ N) (resOne vs) r) : RetV H₀ r (A ++ [cs]) (A ++ N) vs := by
  have hg := hg_new (A := A) hA hj
  refine ⟨[H₀.length + j], by simp, ?_, ?_, hr⟩
  · intro k hk
    simp only [List.mem_singleton] at hk; subst hk
    exact ⟨by omega, cs, hg, hm⟩
  · simp [frH, ← hA, hg]
    rw [← hA] at hg; simp [hg]
/-- two are -/
theorem rv_kp2 {r : AV} {vs cs cs' : List AV} {j j' : Nat} (hA : A.length = H₀.length) (hj : N[j]? = some cs) (hj' : N[j']? = some cs') (hne : j ≠ j') (hm : mxL cs ≤ H₀.length) (hm' : mxL cs' ≤ H₀.length) (hr : Fr H₀.length [H₀.length + j, H₀.length + j'] (A ++ N) (resOne vs) r) : RetV H₀ r (A ++ [cs, cs']) (A ++ N) vs := by
  have hg := hg_new (A := A) hA hj
  have hg' := hg_new (A := A) hA hj'
  refine ⟨[H₀.length + j, H₀.length + j'], by simpa using hne, ?_, ?_, hr⟩
  · intro k hk
    simp only [List.mem_cons, List.not_mem_nil, or_false] at hk
    rcases hk with rfl | rfl
    · exact ⟨by omega, cs, hg, hm⟩
    · exact ⟨by omega, cs', hg', hm'⟩
  · rw [← hA] at hg hg'
    simp [frH, ← hA, hg, hg']
end
theorem OldOk.app {A N N' : List (List AV)} {n : Nat} (h : n ≤ A.length) : OldOk n (A ++ N) (A ++ N') := by
  intro id cs hid hc
  rw [List.getElem?_append_left (by omega)] at hc ⊢
  exact .inl hc
theorem OldOk.set {A N N' : List (List AV)} {n i : Nat} {cs : List AV} (h : n ≤ A.length) (hm : mxL cs ≤ n) : OldOk n (A ++ N) (A.set i cs ++ N') := by
  intro id cs' hid hc
  rw [List.getElem?_append_left (by simp; omega)] at hc
  rw [List.getElem?_append_left (by omega)]
  rw [List.getElem?_set] at hc
  split at hc
  · split at hc
    · simp at hc; subst hc; exact .inr hm
    · simp at hc
  · exact .inl hc

/-! ### calls, what is kept named -/
theorem c_callN {A N N' : List (List AV)} {id : Nat} {vs : List AV} {r : AV} {n : Nat} (hs : CSpec P id vs (A ++ N) r (A ++ N')) (hA : A.length = n) (hn : cfg.n0 = n) (h : K ⟨(dd, .val r) :: e, L, A ++ N'⟩) : callK P cfg id vs dd K ⟨e, L, A ++ N⟩ :=
  c_call hs (OldOk.app (by omega)) h
end

section
variable {P : Program} {cfg : Cfg} {dr : Array Oper → (St → Prop) → St → Prop} {Q : XE → St → Prop} {K : St → Prop} {st : St}
theorem gateE {ops : Array Oper} {kn : Option (Nat × Bool)} {l : List Oper} (h : exOps P cfg ops kn l K st) : exOps P cfg ops kn l K st := h
theorem gateO {o : Oper} (h : opX P cfg o K st) : opX P cfg o K st := h
theorem gateD {ops : Array Oper} {nY : NY} {kn : Option (Nat × Bool)} {l : List (Nat × DFl)} (h : exD P cfg ops nY kn l K st) : exD P cfg ops nY kn l K st := h
theorem gateC {f : DFl} {nY : NY} {o : Oper} {s : St} (h : ckK f nY o st K s) : ckK f nY o st K s := h
theorem gateX {c : Code} (h : Ex P cfg dr c Q st) : Ex P cfg dr c Q st := h
theorem gateQ {fn : Func} {H₀ H' : List (List AV)} {r : AV} {x : XE} (h : RetQ P fn H₀ r H' x st) : RetQ P fn H₀ r H' x st := h
theorem gateK {id dd : Nat} {vs : List AV} (h : callK P cfg id vs dd K st) : callK P cfg id vs dd K st := h
theorem gateT {y : Code} {x : XE} (h : thenX P cfg dr y Q x st) : thenX P cfg dr y Q x st := h
theorem gateB {i : Nat} {x : XE} (h : blkX i Q x st) : blkX i Q x st := h
theorem gateL {x : XE} (h : lpX K Q x st) : lpX K Q x st := h
theorem gateR {rs : List ResultVar} {acc : List AV} {k : List AV → Prop} (h : rK P rs acc k st) : rK P rs acc k st := h
end
/-! ### a float up to its bits, a float by its bits -/
theorem LRep_raw1 {w : World} {g : Gh} {x : Nat} {rest : List AV} {vs : List Value} (h : LRep w g (.flt x :: rest) vs) : ∃ b, b < 2 ^ 64 ∧ cn b = x ∧ LRep w g (.fraw b :: rest) vs := by
  simp only [LRep] at h
  obtain ⟨v, r, rfl, h1, h2⟩ := h
  simp only [VRep] at h1
  obtain ⟨b, rfl, h3, h4⟩ := h1
  exact ⟨b, h3, h4, by simp only [LRep]; exact ⟨_, _, rfl, by simp only [VRep]; exact ⟨trivial, h3⟩, h2⟩⟩
theorem Spec.raw1 {P : Program} {f : Nat} {x : Nat} {rest : List AV} {H H' : List (List AV)} {r : AV} (h : ∀ b, b < 2 ^ 64 → cn b = x → Spec P f (.fraw b :: rest) H r H') : Spec P f (.flt x :: rest) H r H' := by
  intro w g cargs hw hl
  obtain ⟨b, h1, h2, h3⟩ := LRep_raw1 hl
  exact h b h1 h2 w g cargs hw h3
theorem Spec.raw2 {P : Program} {f : Nat} {x y : Nat} {rest : List AV} {H H' : List (List AV)} {r : AV} (h : ∀ b c, b < 2 ^ 64 → cn b = x → c < 2 ^ 64 → cn c = y → Spec P f (.fraw b :: .fraw c :: rest) H r H') : Spec P f (.flt x :: .flt y :: rest) H r H' := by
  intro w g cargs hw hl
  simp only [LRep] at hl
  obtain ⟨v, r', hv, h1, u, r'', rfl, h2, h3⟩ := hl
  simp only [VRep] at h1 h2
  obtain ⟨b, rfl, h4, h5⟩ := h1
  obtain ⟨c, rfl, h6, h7⟩ := h2
  refine h b c h4 h5 h6 h7 w g cargs hw ?_
  rw [hv]
  simp only [LRep, VRep]
  exact ⟨_, _, rfl, ⟨rfl, h4⟩, _, _, rfl, ⟨rfl, h6⟩, h3⟩
/-- a body's contract, the blocks told as those of old and those that are new -/
theorem Spec.intro' {P : Program} {f : Nat} {fn : Func} {body : Code} {args : List AV} {H H' : List (List AV)} {r : AV} (hf : P.funcs[f]? = some fn) (hb : fn.body = some body)
    (hd : dstsOk fn.ntmps body = true) (hn : args.length ≤ fn.ntmps) (esc : Bool) (fz : List Nat) {draw : Array Oper → (St → Prop) → St → Prop} (hdr : ∀ C : Cx, C.P = P → C.cfg = ⟨esc, H.length, fz⟩ → DrawOk C draw)
    (h : Ex P ⟨esc, H.length, fz⟩ draw body (RetQ P fn H r H') ⟨argE 0 args, [], H ++ []⟩) : Spec P f args H r H' :=
  Spec.intro hf hb hd hn esc fz hdr (by rw [List.append_nil] at h; exact h)
end Go.Sx
