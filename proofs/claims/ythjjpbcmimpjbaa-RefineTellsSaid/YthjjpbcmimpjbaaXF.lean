/- A part of the proofs of this seat: XF. No condition is set. -/
import Derived.Test.YthjjpbcmimpjbaaXH
set_option linter.unusedVariables false
set_option linter.unusedSimpArgs false
namespace Go.Sx

/-! ### structs, told part by part -/
def buildP (P : Program) (t : TypeId) : Option (List AV × List (Nat × Nat)) :=
  match tzero P t, P.underlying t with
  | some z, some (.struct fs) => (z.cells).bind fun zc => (fs.toList.mapM fun f => (tsz P f.type).map (f.offset, ·)).map (zc, ·)
  | _, _ => none
class BdI (P : Program) (t : TypeId) (zc : outParam (List AV)) (pl : outParam (List (Nat × Nat))) : Prop where
  h : buildP P t = some (zc, pl)
theorem mapM_some {α β : Type} (f : α → Option β) : ∀ (l : List α) {r : List β}, l.mapM f = some r → l.map f = r.map some
  | [], r, h => by simp at h; subst h; rfl
  | a :: l, r, h => by
    simp only [List.mapM_cons, Option.bind_eq_bind, Option.bind_eq_some_iff, Option.pure_def, Option.some.injEq] at h
    obtain ⟨b, h1, r', h2, rfl⟩ := h
    simp [h1, mapM_some f l h2]
theorem fillA_congr {p q : Nat → Option (Nat × Nat)} (h : ∀ i, p i = q i) (cs : List AV) (l : List (Nat × Option AV)) : fillA p cs l = fillA q cs l := by
  have : p = q := funext h
  rw [this]
theorem buildP_eq {P : Program} {t : TypeId} {zc : List AV} {pl : List (Nat × Nat)} (h : buildP P t = some (zc, pl)) (ρ : Operand → EV) (parts : Array (Nat × Operand)) :
    buildV P ρ t parts = (fillA (fun i => pl[i]?) zc (parts.toList.map fun (i, x) => (i, (ρ x).asV))).map .agg := by
  unfold buildP at h
  split at h
  · rename_i z fs hz hu
    simp only [Option.bind_eq_some_iff, Option.map_eq_some_iff, Prod.mk.injEq] at h
    obtain ⟨zc', h1, pl', h2, rfl, rfl⟩ := h
    have hm := mapM_some _ _ h2
    have hall : fs.all (fun f => (tsz P f.type).isSome) = true := by
      rw [Array.all_eq_true_iff_forall_mem]
      intro f hf
      have hf' : f ∈ fs.toList := by simpa using hf
      have : (tsz P f.type).map (f.offset, ·) ∈ fs.toList.map (fun f => (tsz P f.type).map (f.offset, ·)) := List.mem_map_of_mem hf'
      rw [hm] at this
      simp only [List.mem_map] at this
      obtain ⟨x, _, hx⟩ := this
      cases hq : tsz P f.type with
      | none => rw [hq] at hx; simp at hx
      | some n => rfl
    unfold buildV
    simp only [hz, hu, hall, if_true, h1, Option.bind_some]
    congr 1
    refine fillA_congr (fun i => ?_) _ _
    have := congrArg (·[i]?) hm
    simp only [List.getElem?_map, Array.getElem?_toList] at this
    simp only [fieldPl]
    cases hf : fs[i]? with
    | none =>
      rw [hf] at this
      cases hp : pl'[i]? with
      | none => rfl
      | some p => rw [hp] at this; simp at this
    | some f =>
      rw [hf] at this
      simp only [Option.map_some, Option.bind_some] at this ⊢
      cases hp : pl'[i]? with
      | none => rw [hp] at this; simp at this
      | some p => rw [hp] at this; simpa using this
  · simp at h

section
variable {P : Program} {cfg : Cfg} {dr : Array Oper → (St → Prop) → St → Prop} {e : List (Nat × EV)} {L : List (Nat × List AV)} {H : List (List AV)} {Q : XE → St → Prop} {K : St → Prop}
variable {kn : Option (Nat × Bool)} {ops : Array Oper} {d : Option Tmp} {o : Op} {ty : TypeId} {pos : String} {aft : Array Edge} {rest : List Oper} {j : Nat} {b want : Bool} {gd : Option (Nat × Bool)} {dd : Nat}

def fK (pl : List (Nat × Nat)) (zc : List AV) (ps : List (Nat × Operand)) (k : List AV → Prop) (st : St) : Prop :=
  ∃ cs, fillA (fun i => pl[i]?) zc (ps.map fun (i, x) => (i, (st.ev x).asV)) = some cs ∧ k cs
theorem fk_nil {pl : List (Nat × Nat)} {zc : List AV} {k : List AV → Prop} (h : k zc) : fK pl zc [] k ⟨e, L, H⟩ := ⟨zc, rfl, h⟩
theorem fk_cons {pl : List (Nat × Nat)} {zc zc' vs : List AV} {i off sz : Nat} {x : Operand} {ps : List (Nat × Operand)} {k : List AV → Prop} {v : AV} (hx : St.ev ⟨e, L, H⟩ x = .val v) (hc : v.cells = some vs) (hp : pl[i]? = some (off, sz))
    (hl : (vs.length == sz && decide (off + vs.length ≤ zc.length)) = true) (hz : sc zc off vs = zc') (h : fK pl zc' ps k ⟨e, L, H⟩) : fK pl zc ((i, x) :: ps) k ⟨e, L, H⟩ := by
  obtain ⟨cs, h1, h2⟩ := h
  subst hz
  simp only [Bool.and_eq_true, beq_iff_eq, decide_eq_true_eq] at hl
  refine ⟨cs, ?_, h2⟩
  simp only [List.map_cons, fillA, hx, EV.asV, Option.bind_some, hc, hp]
  rw [if_neg (by omega)]
  exact h1
theorem b_build {t : TypeId} {zc : List AV} {pl : List (Nat × Nat)} {parts : Array (Nat × Operand)} [bd : BdI P t zc pl] (h : fK pl zc parts.toList (fun cs => K ⟨(dd, .val (.agg cs)) :: e, L, H⟩) ⟨e, L, H⟩) :
    opX P cfg ⟨some dd, .build t parts, ty, pos, aft, gd⟩ K ⟨e, L, H⟩ := by
  obtain ⟨cs, h1, h2⟩ := h
  rw [op_pure P cfg e L H K _ _ _ _ _ _ rfl]
  simp only [pureV, buildP_eq bd.h, h1, Option.map_some, pureK]
  exact ⟨trivial, h2⟩

/-! ### more values -/
theorem b_cnvI {src dst : TypeId} {x : Operand} {k k' : IntKind} {n : Int} {td : TypeDesc} [u : UI P dst (.int k)] [us : UI P src td] (hx : St.ev ⟨e, L, H⟩ x = .val (.int k' n)) (h : valK dd K ⟨e, L, H⟩ (some (True, .int k (k.wrap n)))) :
    opX P cfg ⟨some dd, .convert src dst x, ty, pos, aft, gd⟩ K ⟨e, L, H⟩ := by
  rw [op_pure P cfg e L H K _ _ _ _ _ _ rfl]
  simp only [pureV, us.h, Option.isSome_some, if_true, hx, cnvV, u.h, Option.map_some, pureK]
  exact ⟨trivial, h.2⟩
theorem b_cnvF {src dst : TypeId} {x : Operand} {v : AV} {f : Nat} {td : TypeDesc} [u : UI P dst (.float .f64)] [us : UI P src td] (hx : St.ev ⟨e, L, H⟩ x = .val v) (hf : v.asF = some f) (h : K ⟨(dd, .val (.flt f)) :: e, L, H⟩) :
    opX P cfg ⟨some dd, .convert src dst x, ty, pos, aft, gd⟩ K ⟨e, L, H⟩ := by
  rw [op_pure P cfg e L H K _ _ _ _ _ _ rfl]
  have : cnvV P dst (.val v) = some (True, .flt f) := by
    unfold cnvV; rw [u.h]
    cases v <;> simp_all [AV.asF]
  simp only [pureV, us.h, Option.isSome_some, if_true, hx, this, Option.map_some, pureK]
  exact ⟨trivial, h⟩
theorem b_cnvIF {src dst : TypeId} {x : Operand} {k : IntKind} {n : Int} {td : TypeDesc} [u : UI P dst (.float .f64)] [us : UI P src td] (hx : St.ev ⟨e, L, H⟩ x = .val (.int k n)) (h : K ⟨(dd, .val (.flt (cn (FloatKind.f64.nearest n)))) :: e, L, H⟩) :
    opX P cfg ⟨some dd, .convert src dst x, ty, pos, aft, gd⟩ K ⟨e, L, H⟩ := by
  rw [op_pure P cfg e L H K _ _ _ _ _ _ rfl]
  simp only [pureV, us.h, Option.isSome_some, if_true, hx, cnvV, u.h, Option.map_some, pureK]
  exact ⟨trivial, h⟩
theorem wrapU {n : Int} (hw : 0 ≤ n ∧ n ≤ 18446744073709551615) : IntKind.u64.wrap n = n := by
  simp only [IntKind.wrap, IntKind.signed, IntKind.bits]
  simp
  omega
theorem v_wu {n : Int} (hw : 0 ≤ n ∧ n ≤ 18446744073709551615) (h : K ⟨(dd, .val (.int .u64 n)) :: e, L, H⟩) : valK dd K ⟨e, L, H⟩ (some (True, .int .u64 (IntKind.u64.wrap n))) := by
  rw [wrapU hw]; exact ⟨trivial, h⟩
theorem v_shr {k : IntKind} {x y : Int} {q : Int} (hx : 0 ≤ x) (hy : 0 ≤ y) (hq : ((2 ^ (min y.toNat k.bits) : Nat) : Int) = q) (h : K ⟨(dd, .val (.int k (x / q))) :: e, L, H⟩) : valK dd K ⟨e, L, H⟩ (some (0 ≤ y, .int k (x.fdiv (2 ^ (min y.toNat k.bits))))) := by
  have e1 : ((2 : Int) ^ (min y.toNat k.bits)) = q := by rw [← hq]; simp
  rw [e1]
  have h0 : 0 ≤ q := by rw [← hq]; exact Int.natCast_nonneg _
  have : x.fdiv q = x / q := by rw [Int.fdiv_eq_ediv_of_nonneg _ h0]
  rw [this]; exact ⟨hy, h⟩
theorem v_mod {k : IntKind} {x y : Int} (hx : 0 ≤ x) (hy : y ≠ 0) (h : K ⟨(dd, .val (.int k (x % y))) :: e, L, H⟩) : valK dd K ⟨e, L, H⟩ (some (y ≠ 0, .int k (x.tmod y))) := by
  rw [Int.tmod_eq_emod_of_nonneg hx]; exact ⟨hy, h⟩
theorem v_qc {x y : Int} (hx : 0 ≤ x ∧ x ≤ 9223372036854775807) (hy : 1 ≤ y) (h : K ⟨(dd, .val (.int .i64 (x / y))) :: e, L, H⟩) : valK dd K ⟨e, L, H⟩ (some (y ≠ 0, .int .i64 (IntKind.i64.wrap (x.tdiv y)))) :=
  v_c (by omega) (v_q hx hy h)
theorem b_max2 {x y : Operand} {ts : Array TypeId} {k : IntKind} {a c m : Int} (hx : St.ev ⟨e, L, H⟩ x = .val (.int k a)) (hy : St.ev ⟨e, L, H⟩ y = .val (.int k c)) (hm : max a c = m) (h : K ⟨(dd, .val (.int k m)) :: e, L, H⟩) :
    opX P cfg ⟨some dd, .call { callee := .builtin .max, args := #[x, y], argTypes := ts }, ty, pos, aft, gd⟩ K ⟨e, L, H⟩ := by
  subst hm
  rw [op_pure P cfg e L H K _ _ _ _ _ _ rfl]
  simp only [pureV, List.map_cons, List.map_nil, hx, hy, EV.asI, if_true, pureK]
  exact ⟨trivial, h⟩
theorem b_min2 {x y : Operand} {ts : Array TypeId} {k : IntKind} {a c m : Int} (hx : St.ev ⟨e, L, H⟩ x = .val (.int k a)) (hy : St.ev ⟨e, L, H⟩ y = .val (.int k c)) (hm : min a c = m) (h : K ⟨(dd, .val (.int k m)) :: e, L, H⟩) :
    opX P cfg ⟨some dd, .call { callee := .builtin .min, args := #[x, y], argTypes := ts }, ty, pos, aft, gd⟩ K ⟨e, L, H⟩ := by
  subst hm
  rw [op_pure P cfg e L H K _ _ _ _ _ _ rfl]
  simp only [pureV, List.map_cons, List.map_nil, hx, hy, EV.asI, if_true, pureK]
  exact ⟨trivial, h⟩
theorem b_field {t : TypeId} {x : Operand} {i off n : Nat} {ft : TypeId} {a : Bool} [fi : FldI P t i off ft] [ti : TyI P ft n a] {cs l : List AV} {v : AV} (hx : St.ev ⟨e, L, H⟩ x = .val (.agg cs)) (hl : gc cs off n = some l) (hv : (if a then some (.agg l) else l.head?) = some v) (hn : (a || n == 1) = true)
    (h : K ⟨(dd, .val v) :: e, L, H⟩) : opX P cfg ⟨some dd, .field t x i, ty, pos, aft, gd⟩ K ⟨e, L, H⟩ := by
  rw [op_pure P cfg e L H K _ _ _ _ _ _ rfl]
  have : ldv P ft l = some v := by
    simp only [ldv, ti.kind]
    cases a with
    | true => simpa using hv
    | false =>
      simp at hn; subst hn
      obtain ⟨h1, _⟩ := gc_get hl
      match l, h1, hv with
      | [c], _, hv => simpa using hv
  simp only [pureV, fi.h, Option.bind_some, hx, ti.sz, hl, this, Option.map_some, pureK]
  exact ⟨trivial, h⟩
/-- a slice of a slice -/
theorem b_slc {t : TypeId} {x : Operand} {lo hi : Option Operand} {el z n : Nat} [si : SlI P t el z] {s v' : AV} {l q : Int} (hx : St.ev ⟨e, L, H⟩ x = .val s) (hn : slen s = some n) (hl : bndI (St.ev ⟨e, L, H⟩) 0 lo = some l) (hq : bndI (St.ev ⟨e, L, H⟩) n hi = some q)
    (hb : 0 ≤ l ∧ l ≤ q ∧ q ≤ n) (hs : slcV z l.toNat q.toNat s = some v') (h : K ⟨(dd, .val v') :: e, L, H⟩) : opX P cfg ⟨some dd, .slice t x lo hi none, ty, pos, aft, gd⟩ K ⟨e, L, H⟩ := by
  rw [op_pure P cfg e L H K _ _ _ _ _ _ rfl]
  have : sliceV P t (.val s) (some l) (fun n => bndI (St.ev ⟨e, L, H⟩) n hi) = some (0 ≤ l ∧ l ≤ q ∧ q ≤ n, v') := by
    cases s <;> simp only [slen, Option.some.injEq, reduceCtorEq] at hn <;> subst hn <;> simp only [sliceV, si.h, si.z, Option.bind_some, slen, hq, hs, Option.map_some]
  simp only [pureV, hx, hl, this, Option.map_some, pureK]
  exact ⟨hb, h⟩
/-- a new box that escapes -/
theorem b_boxE {t : TypeId} {x : Operand} {A N N' : List (List AV)} {n i : Nat} {vx : EV} {cs : List AV} (hx : St.ev ⟨e, L, A ++ N⟩ x = vx) (hr : vx.asV.bind AV.cells = some cs) (hesc : cfg.esc = true) (hA : A.length = n) (hi : N.length = i) (hN : N ++ [cs] = N')
    (h : K ⟨(dd, .val (.eptr (.slm (n + i) cs.length 0 1 cs.length) 0)) :: e, L, A ++ N'⟩) : opX P cfg ⟨some dd, .box t x, ty, pos, aft, gd⟩ K ⟨e, L, A ++ N⟩ := by
  subst hx hA hi hN
  simp only [opX, opE, hr, newX, hesc, if_true, app_some]
  simpa [List.append_assoc] using h
theorem b_allocE {t : TypeId} {A N N' : List (List AV)} {n i : Nat} {cs : List AV} [z : ZI P t cs] (hesc : cfg.esc = true) (hA : A.length = n) (hi : N.length = i) (hN : N ++ [cs] = N')
    (h : K ⟨(dd, .val (.eptr (.slm (n + i) cs.length 0 1 cs.length) 0)) :: e, L, A ++ N'⟩) : opX P cfg ⟨some dd, .alloc t, ty, pos, aft, gd⟩ K ⟨e, L, A ++ N⟩ := by
  subst hA hi hN
  simp only [opX, opE, z.h, newX, hesc, if_true, app_some]
  simpa [List.append_assoc] using h

/-! ### what is handed back -/
def rK (P : Program) (rs : List ResultVar) (acc : List AV) (k : List AV → Prop) (st : St) : Prop := ∃ vs, (rs.map (resV P st)).mapM id = some vs ∧ k (acc ++ vs)
theorem rk_nil {acc : List AV} {k : List AV → Prop} (h : k acc) : rK P [] acc k ⟨e, L, H⟩ := ⟨[], rfl, by simpa using h⟩
theorem rk_cons {r : ResultVar} {rs : List ResultVar} {acc : List AV} {k : List AV → Prop} {v : AV} (hr : resV P ⟨e, L, H⟩ r = some v) (h : rK P rs (acc ++ [v]) k ⟨e, L, H⟩) : rK P (r :: rs) acc k ⟨e, L, H⟩ := by
  obtain ⟨vs, h1, h2⟩ := h
  refine ⟨v :: vs, ?_, by simpa using h2⟩
  simp only [List.map_cons, List.mapM_cons, hr, id_eq, Option.bind_eq_bind, Option.bind_some, h1]; rfl
theorem rk_tmp {t : Nat} {rs : List ResultVar} {acc : List AV} {k : List AV → Prop} {v : AV} (hv : St.ev ⟨e, L, H⟩ (.tmp t) = .val v) (h : rK P rs (acc ++ [v]) k ⟨e, L, H⟩) : rK P (.tmp t :: rs) acc k ⟨e, L, H⟩ :=
  rk_cons (by simp [resV, hv, EV.asV]) h
theorem rk_cellA {x t n : Nat} {rs : List ResultVar} {acc : List AV} {k : List AV → Prop} [ti : TyI P t n true] {key off : Nat} {cs l : List AV} (hx : St.ev ⟨e, L, H⟩ (.tmp x) = .loc key off) (hc : lk L key = some cs) (hl : gc cs off n = some l) (h : rK P rs (acc ++ [.agg l]) k ⟨e, L, H⟩) :
    rK P (.cell x t :: rs) acc k ⟨e, L, H⟩ :=
  rk_cons (by simp [resV, pureV, hx, hc, ti.sz, hl, ldv, ti.kind]) h
theorem rk_cell1 {x t : Nat} {rs : List ResultVar} {acc : List AV} {k : List AV → Prop} [ti : TyI P t 1 false] {key off : Nat} {cs : List AV} {v : AV} (hx : St.ev ⟨e, L, H⟩ (.tmp x) = .loc key off) (hc : lk L key = some cs) (hl : cs[off]? = some v) (h : rK P rs (acc ++ [v]) k ⟨e, L, H⟩) :
    rK P (.cell x t :: rs) acc k ⟨e, L, H⟩ :=
  rk_cons (by simp [resV, pureV, hx, hc, ti.sz, gc_one hl, ldv, ti.kind]) h
def RetV (H₀ : List (List AV)) (r : AV) (H' : List (List AV)) (H : List (List AV)) (vs : List AV) : Prop :=
  ∃ keep : List Nat, keep.Nodup ∧ (∀ k ∈ keep, H₀.length ≤ k ∧ ∃ cs, H[k]? = some cs ∧ mxL cs ≤ H₀.length) ∧ frH H₀.length keep H = H' ∧ Fr H₀.length keep H (resOne vs) r
theorem b_retK {fn : Func} {H₀ H' : List (List AV)} {r : AV} {x : XE} {rs : List ResultVar} (hx : x = .ret ∨ x = .normal) (hf : fn.results.toList = rs) (h : rK P rs [] (RetV H₀ r H' H) ⟨e, L, H⟩) : RetQ P fn H₀ r H' x ⟨e, L, H⟩ := by
  obtain ⟨vs, h1, keep, h2, h3, h4, h5⟩ := h
  subst hf
  exact ⟨by rcases hx with rfl | rfl <;> trivial, vs, keep, h1, h2, h3, h4, by simpa using h5⟩
section
variable {H₀ A N : List (List AV)} {n : Nat}
/-- nothing new is kept; the value is of old -/
theorem rv_old {r : AV} {vs : List AV} (hA : A.length = H₀.length) (hm : mx (resOne vs) ≤ H₀.length) (hr : resOne vs = r) : RetV H₀ r A (A ++ N) vs := by
  subst hr
  exact ⟨[], List.nodup_nil, by simp, by simp [frH, ← hA], Fr.old hm⟩
/-- nothing new is kept, but as what nobody writes -/
theorem rv_fr {r : AV} {vs : List AV} (hA : A.length = H₀.length) (hr : Fr H₀.length [] (A ++ N) (resOne vs) r) : RetV H₀ r A (A ++ N) vs :=
  ⟨[], List.nodup_nil, by simp, by simp [frH, ← hA], hr⟩
/-- one new block is kept -/
theorem rv_kp {r : AV} {vs cs : List AV} {j : Nat} (hA : A.length = H₀.length) (hj : N[j]? = some cs) (hm : mxL cs ≤ H₀.length) (hr : Fr H₀.length [H₀.length + j] (A ++ N) (resOne vs) r) : RetV H₀ r (A ++ [cs]) (A ++ N) vs := by
  have hg := hg_new (A := A) hA hj
  refine ⟨[H₀.length + j], by simp, ?_, ?_, hr⟩
  · intro k hk
    simp only [List.mem_singleton] at hk; subst hk
    exact ⟨by omega, cs, hg, hm⟩
  · simp [frH, ← hA, hg]
    rw [← hA] at hg; simp [hg]
/-- two are -/
theorem rv_kp2 {r : AV} {vs cs cs' : List AV} {j j' : Nat} (hA : A.length = H₀.length) (hj : N[j]? = some cs) (hj' : N[j']? = some cs') (hne : j ≠ j') (hm : mxL cs ≤ H₀.length) (hm' : mxL cs' ≤ H₀.length) (hr : Fr H₀.length [H₀.length + j, H₀.length + j'] (A ++ N) (resOne vs) r) : RetV H₀ r (A ++ [cs, cs']) (A ++ N) vs := by
  have hg := hg_new (A := A) hA hj
  have hg' := hg_new (A := A) hA hj'
  refine ⟨[H₀.length + j, H₀.length + j'], by simpa using hne, ?_, ?_, hr⟩
  · intro k hk
    simp only [List.mem_cons, List.not_mem_nil, or_false] at hk
    rcases hk with rfl | rfl
    · exact ⟨by omega, cs, hg, hm⟩
    · exact ⟨by omega, cs', hg', hm'⟩
  · rw [← hA] at hg hg'
    simp [frH, ← hA, hg, hg']
end
theorem OldOk.app {A N N' : List (List AV)} {n : Nat} (h : n ≤ A.length) : OldOk n (A ++ N) (A ++ N') := by
  intro id cs hid hc
  rw [List.getElem?_append_left (by omega)] at hc ⊢
  exact .inl hc
theorem OldOk.set {A N N' : List (List AV)} {n i : Nat} {cs : List AV} (h : n ≤ A.length) (hm : mxL cs ≤ n) : OldOk n (A ++ N) (A.set i cs ++ N') := by
  intro id cs' hid hc
  rw [List.getElem?_append_left (by simp; omega)] at hc
  rw [List.getElem?_append_left (by omega)]
  rw [List.getElem?_set] at hc
  split at hc
  · split at hc
    · simp at hc; subst hc; exact .inr hm
    · simp at hc
  · exact .inl hc

/-! ### calls, what is kept named -/
theorem c_callN {A N N' : List (List AV)} {id : Nat} {vs : List AV} {r : AV} {n : Nat} (hs : CSpec P id vs (A ++ N) r (A ++ N')) (hA : A.length = n) (hn : cfg.n0 = n) (h : K ⟨(dd, .val r) :: e, L, A ++ N'⟩) : callK P cfg id vs dd K ⟨e, L, A ++ N⟩ :=
  c_call hs (OldOk.app (by omega)) h
end

section
variable {P : Program} {cfg : Cfg} {dr : Array Oper → (St → Prop) → St → Prop} {Q : XE → St → Prop} {K : St → Prop} {st : St}
theorem gateE {ops : Array Oper} {kn : Option (Nat × Bool)} {l : List Oper} (h : exOps P cfg ops kn l K st) : exOps P cfg ops kn l K st := h
theorem gateO {o : Oper} (h : opX P cfg o K st) : opX P cfg o K st := h
theorem gateD {ops : Array Oper} {nY : NY} {kn : Option (Nat × Bool)} {l : List (Nat × DFl)} (h : exD P cfg ops nY kn l K st) : exD P cfg ops nY kn l K st := h
theorem gateC {f : DFl} {nY : NY} {o : Oper} {s : St} (h : ckK f nY o st K s) : ckK f nY o st K s := h
theorem gateX {c : Code} (h : Ex P cfg dr c Q st) : Ex P cfg dr c Q st := h
theorem gateQ {fn : Func} {H₀ H' : List (List AV)} {r : AV} {x : XE} (h : RetQ P fn H₀ r H' x st) : RetQ P fn H₀ r H' x st := h
theorem gateK {id dd : Nat} {vs : List AV} (h : callK P cfg id vs dd K st) : callK P cfg id vs dd K st := h
theorem gateT {y : Code} {x : XE} (h : thenX P cfg dr y Q x st) : thenX P cfg dr y Q x st := h
theorem gateB {i : Nat} {x : XE} (h : blkX i Q x st) : blkX i Q x st := h
theorem gateL {x : XE} (h : lpX K Q x st) : lpX K Q x st := h
theorem gateR {rs : List ResultVar} {acc : List AV} {k : List AV → Prop} (h : rK P rs acc k st) : rK P rs acc k st := h
end
/-! ### a float up to its bits, a float by its bits -/
theorem LRep_raw1 {w : World} {g : Gh} {x : Nat} {rest : List AV} {vs : List Value} (h : LRep w g (.flt x :: rest) vs) : ∃ b, b < 2 ^ 64 ∧ cn b = x ∧ LRep w g (.fraw b :: rest) vs := by
  simp only [LRep] at h
  obtain ⟨v, r, rfl, h1, h2⟩ := h
  simp only [VRep] at h1
  obtain ⟨b, rfl, h3, h4⟩ := h1
  exact ⟨b, h3, h4, by simp only [LRep]; exact ⟨_, _, rfl, by simp only [VRep]; exact ⟨trivial, h3⟩, h2⟩⟩
theorem Spec.raw1 {P : Program} {f : Nat} {x : Nat} {rest : List AV} {H H' : List (List AV)} {r : AV} (h : ∀ b, b < 2 ^ 64 → cn b = x → Spec P f (.fraw b :: rest) H r H') : Spec P f (.flt x :: rest) H r H' := by
  intro w g cargs hw hl
  obtain ⟨b, h1, h2, h3⟩ := LRep_raw1 hl
  exact h b h1 h2 w g cargs hw h3
theorem Spec.raw2 {P : Program} {f : Nat} {x y : Nat} {rest : List AV} {H H' : List (List AV)} {r : AV} (h : ∀ b c, b < 2 ^ 64 → cn b = x → c < 2 ^ 64 → cn c = y → Spec P f (.fraw b :: .fraw c :: rest) H r H') : Spec P f (.flt x :: .flt y :: rest) H r H' := by
  intro w g cargs hw hl
  simp only [LRep] at hl
  obtain ⟨v, r', hv, h1, u, r'', rfl, h2, h3⟩ := hl
  simp only [VRep] at h1 h2
  obtain ⟨b, rfl, h4, h5⟩ := h1
  obtain ⟨c, rfl, h6, h7⟩ := h2
  refine h b c h4 h5 h6 h7 w g cargs hw ?_
  rw [hv]
  simp only [LRep, VRep]
  exact ⟨_, _, rfl, ⟨rfl, h4⟩, _, _, rfl, ⟨rfl, h6⟩, h3⟩
/-- a body's contract, the blocks told as those of old and those that are new -/
theorem Spec.intro' {P : Program} {f : Nat} {fn : Func} {body : Code} {args : List AV} {H H' : List (List AV)} {r : AV} (hf : P.funcs[f]? = some fn) (hb : fn.body = some body)
    (hd : dstsOk fn.ntmps body = true) (hn : args.length ≤ fn.ntmps) (esc : Bool) (fz : List Nat) {draw : Array Oper → (St → Prop) → St → Prop} (hdr : ∀ C : Cx, C.P = P → C.cfg = ⟨esc, H.length, fz⟩ → DrawOk C draw)
    (h : Ex P ⟨esc, H.length, fz⟩ draw body (RetQ P fn H r H') ⟨argE 0 args, [], H ++ []⟩) : Spec P f args H r H' :=
  Spec.intro hf hb hd hn esc fz hdr (by rw [List.append_nil] at h; exact h)
end Go.Sx

set_option linter.unusedVariables false
set_option linter.unusedSimpArgs false
namespace Go.Sx
section
variable {P : Program} {cfg : Cfg} {dr : Array Oper → (St → Prop) → St → Prop} {e : List (Nat × EV)} {L : List (Nat × List AV)} {H : List (List AV)} {Q : XE → St → Prop} {K : St → Prop}
variable {kn : Option (Nat × Bool)} {ops : Array Oper} {d : Option Tmp} {o : Op} {ty : TypeId} {pos : String} {aft : Array Edge} {rest : List Oper} {j : Nat} {b want : Bool} {gd : Option (Nat × Bool)} {dd : Nat}

/-- an element's address, its number a natural one -/
theorem b_iaN {t el : TypeId} {x y : Operand} [si : SlI P t el 1] {s : AV} {k : IntKind} {n : Nat} {len : Nat} (hx : St.ev ⟨e, L, H⟩ x = .val s) (hy : St.ev ⟨e, L, H⟩ y = .val (.int k (n : Int))) (hl : slen s = some len) (hi : n < len)
    (h : K ⟨(dd, .val (.eptr s n)) :: e, L, H⟩) : opX P cfg ⟨some dd, .indexAddr t x y, ty, pos, aft, gd⟩ K ⟨e, L, H⟩ :=
  b_ia hx hy hl rfl hi (by simpa using h)
theorem b_iaF {t el : TypeId} {x y : Operand} [si : SlI P t el 1] {s : AV} {k : IntKind} {i : Int} {len : Nat} (hx : St.ev ⟨e, L, H⟩ x = .val s) (hy : St.ev ⟨e, L, H⟩ y = .val (.int k i)) (hl : slen s = some len) (hi : 0 ≤ i ∧ i < len)
    (h : K ⟨(dd, .val (.eptr s i.toNat)) :: e, L, H⟩) : opX P cfg ⟨some dd, .indexAddr t x y, ty, pos, aft, gd⟩ K ⟨e, L, H⟩ :=
  b_ia (i := i.toNat) hx hy hl (by omega) (by omega) (by simpa using h)
theorem l_FL {t : TypeId} {D : AV} {k : Nat} {l : List Nat} [i : TyI P t 1 false] (hF : FL H D l) (hk : k < l.length) (h : K ⟨(dd, .val (.flt (l.getD k 0))) :: e, L, H⟩) : loadK P t dd K ⟨e, L, H⟩ (.val (.eptr D k)) :=
  l_ptr1 (hF.rd hk) h
/-- a list of whole numbers, wherever it lies -/
structure IL (H : List (List AV)) (D : AV) (l : List Int) : Prop where
  len : slen D = some l.length
  all : D ≠ .slnil → sread H D 0 l.length = some (il l)
  one : ∀ id g o n z, D = .slm id g o n z → z = 1
theorem IL.nil (H : List (List AV)) : IL H .slnil [] := ⟨rfl, fun h => absurd rfl h, by simp⟩
theorem IL.fz (H : List (List AV)) (tag : Option (Nat × Nat)) (l : List Int) : IL H (.sl tag l.length (il l)) l :=
  ⟨rfl, fun _ => by simp only [sread]; exact gc_all _ (by simp), by simp⟩
theorem IL.slm {H : List (List AV)} {id off n g : Nat} {l m : List Int} (h : H[id]? = some (il m)) (hg : g = m.length) (hn : off + n ≤ m.length) (hl : l = (m.drop off).take n) : IL H (.slm id g off n 1) l := by
  subst hl hg
  have e : ((m.drop off).take n).length = n := by simp; omega
  refine ⟨by simp [slen, e], fun _ => ?_, by simp; omega⟩
  simp only [sread, h, Option.bind_some, il_len, if_true, e, Nat.add_zero]
  rw [gc_take _ _ _ (by simpa using hn)]
  simp [il, List.map_drop, List.map_take]
theorem IL.rd {H : List (List AV)} {D : AV} {l : List Int} (h : IL H D l) {k : Nat} (hk : k < l.length) : sread H D k 1 = some [.int .i64 (l.getD k 0)] := by
  have hD : D ≠ .slnil := by rintro rfl; have := h.len; simp [slen] at this; omega
  have h1 := h.all hD
  cases D <;> simp only [sread, reduceCtorEq] at h1 ⊢
  · have := gc_sub h1 (il_get hk); simpa using this
  · rename_i id gen o len sz
    cases hi : H[id]? with
    | none => rw [hi] at h1; simp at h1
    | some cs =>
      rw [hi] at h1
      simp only [Option.bind_some] at h1 ⊢
      split at h1
      · rename_i hg; rw [if_pos hg]
        have := gc_sub h1 (il_get hk); simpa using this
      · simp at h1
theorem l_IL {t : TypeId} {D : AV} {k : Nat} {l : List Int} [i : TyI P t 1 false] (hF : IL H D l) (hk : k < l.length) (h : K ⟨(dd, .val (.int .i64 (l.getD k 0))) :: e, L, H⟩) : loadK P t dd K ⟨e, L, H⟩ (.val (.eptr D k)) :=
  l_ptr1 (hF.rd hk) h
theorem IL.app {H : List (List AV)} {D : AV} {l : List Int} (h : IL H D l) (N : List (List AV)) : IL (H ++ N) D l := by
  refine ⟨h.len, fun hD => ?_, h.one⟩
  have h1 := h.all hD
  cases D <;> simp only [sread] at h1 ⊢ <;> try exact h1
  rename_i id gen o len sz
  cases hi : H[id]? with
  | none => rw [hi] at h1; simp at h1
  | some cs =>
    rw [hi] at h1
    rw [List.getElem?_append_left (List.getElem?_eq_some_iff.1 hi).1, hi]; exact h1

/-! a store to an element of a block of old, of a new one -/
theorem b_stF {t : TypeId} {x v : Operand} {id gen o' len sz off : Nat} {m m' : List Nat} {f : Nat} [ti : TyI P t 1 false] {A N : List (List AV)} (hx : St.ev ⟨e, L, A ++ N⟩ x = .val (.eptr (.slm id gen o' len sz) off)) (hv : St.ev ⟨e, L, A ++ N⟩ v = .val (.flt f)) (hc : A[id]? = some (fl m))
    (hg : m.length = gen) (hle : o' + off < m.length) (hm : m.set (o' + off) f = m') (h : K ⟨e, L, A.set id (fl m') ++ N⟩) : opX P cfg ⟨none, .store t x v, ty, pos, aft, gd⟩ K ⟨e, L, A ++ N⟩ := by
  subst hm
  refine b_stH hx hv rfl rfl (hg_old hc) (by simpa using hg) (by simp; omega) (.inr (by simp [mxL, mx])) rfl ?_
  rw [sc_one, fl_set, hs_old (List.getElem?_eq_some_iff.1 hc).1]; exact h
theorem b_stN {t : TypeId} {x v : Operand} {n i gen o' len sz off : Nat} {m m' : List Nat} {f : Nat} [ti : TyI P t 1 false] {A N N' : List (List AV)} (hx : St.ev ⟨e, L, A ++ N⟩ x = .val (.eptr (.slm (n + i) gen o' len sz) off)) (hv : St.ev ⟨e, L, A ++ N⟩ v = .val (.flt f)) (hA : A.length = n) (hc : N[i]? = some (fl m))
    (hg : m.length = gen) (hle : o' + off < m.length) (hm : m.set (o' + off) f = m') (hN : N.set i (fl m') = N') (h : K ⟨e, L, A ++ N'⟩) : opX P cfg ⟨none, .store t x v, ty, pos, aft, gd⟩ K ⟨e, L, A ++ N⟩ := by
  subst hm
  refine b_stH hx hv rfl rfl (hg_new hA hc) (by simpa using hg) (by simp; omega) (.inr (by simp [mxL, mx])) rfl ?_
  rw [sc_one, fl_set, hs_new hA hN]; exact h
/-- what is appended to a new block -/
theorem b_appN {t tx : TypeId} {s x : Operand} {n i g g' q len by_ el' z' : Nat} {z : AV} {xs cs cs' : List AV} {A N N' : List (List AV)} [ei : EI P t 1 by_ [z]] [si : SlI P tx el' z'] {vx : AV} {m : Nat} (hs : St.ev ⟨e, L, A ++ N⟩ s = .val (.slm (n + i) g 0 len 1)) (hx : St.ev ⟨e, L, A ++ N⟩ x = .val vx) (hA : A.length = n) (hc : N[i]? = some cs) (hsrc : srcX (A ++ N) 1 vx = some (m, xs))
    (hg : cs.length = g) (hl : len = g) (hm : len + m ≤ 2 ^ 32) (hmx : cfg.n0 ≤ n ∨ mxL xs ≤ cfg.n0) (hz : (decide (by_ ≤ 2 ^ 10) && decide (0 < by_)) = true) (hcs : cs ++ xs = cs') (hN : N.set i cs' = N') (hg' : cs.length + xs.length = g') (hq : len + m = q)
    (h : K ⟨(dd, .val (.slm (n + i) g' 0 q 1)) :: e, L, A ++ N'⟩) :
    opX P cfg ⟨some dd, .call { callee := .builtin .append, args := #[s, x], argTypes := #[t, tx] }, ty, pos, aft, gd⟩ K ⟨e, L, A ++ N⟩ := by
  subst hcs hg' hq hl
  refine b_app1 hs hx hsrc (hg_new hA hc) hg (by omega) hm (by rcases hmx with h | h; exact .inl (by omega); exact .inr h) (by simpa using hz) ?_
  rw [hs_new hA hN]; exact h
/-- .. to nothing -/
theorem b_appZ {t tx : TypeId} {s x : Operand} {n i by_ el' z' g : Nat} {z : AV} {xs : List AV} {A N N' : List (List AV)} [ei : EI P t 1 by_ [z]] [si : SlI P tx el' z'] {vx : AV} {m : Nat} (hs : St.ev ⟨e, L, A ++ N⟩ s = .val .slnil) (hx : St.ev ⟨e, L, A ++ N⟩ x = .val vx) (hsrc : srcX (A ++ N) 1 vx = some (m, xs)) (hm : 0 < m ∧ m ≤ 2 ^ 32)
    (hA : A.length = n) (hi : N.length = i) (hz : (decide (by_ ≤ 2 ^ 10) && decide (0 < by_)) = true) (hN : N ++ [xs] = N') (hg : xs.length = g) (h : K ⟨(dd, .val (.slm (n + i) g 0 m 1)) :: e, L, A ++ N'⟩) :
    opX P cfg ⟨some dd, .call { callee := .builtin .append, args := #[s, x], argTypes := #[t, tx] }, ty, pos, aft, gd⟩ K ⟨e, L, A ++ N⟩ := by
  subst hN hg hA hi
  refine b_app0 hs hx hsrc hm (by simpa using hz) ?_
  simpa [List.append_assoc] using h
theorem src_fl' {A N : List (List AV)} {D : AV} {l : List Nat} (h : FL A D l) : srcX (A ++ N) 1 D = some (l.length, fl l) := src_fl (h.app N)
end

theorem k_ldT {nY : NY} {K : St → Prop} {d : Option Tmp} {ty : TypeId} {pos : String} {aft : Array Edge} {gd : Option (Nat × Bool)} {t : TypeId} {x : Operand} {st s : St} {v : AV} (hv : St.ev st x = .val v) (h : K s) : ckK (.ld true) nY ⟨d, .load t x, ty, pos, aft, gd⟩ st K s := by
  refine k_ld hv ?_ h
  unfold ldOk
  split <;> first | rfl | (rename_i he; cases he)
/-- how far two lists are alike -/
theorem first_diff : ∀ (la lb : List Nat), ∃ N, N ≤ la.length ∧ (∀ k, k < N → la.getD k 0 = lb.getD k 0) ∧ (N < la.length → la.getD N 0 ≠ lb.getD N 0)
  | [], lb => ⟨0, Nat.le_refl _, by simp, by simp⟩
  | a :: la, lb => by
    by_cases h : a = lb.getD 0 0
    · obtain ⟨N, h1, h2, h3⟩ := first_diff la (lb.drop 1)
      have e : ∀ k, (lb.drop 1).getD k 0 = lb.getD (k + 1) 0 := fun k => by simp [List.getD, Nat.add_comm]
      refine ⟨N + 1, by simp; omega, fun k hk => ?_, fun hN => ?_⟩
      · cases k with
        | zero => simpa using h
        | succ k => rw [← e]; simpa using h2 k (by omega)
      · rw [← e]; simpa using h3 (by simpa using hN)
    · exact ⟨0, Nat.zero_le _, by simp, fun _ => by simpa using h⟩
theorem eq_of_getD {la lb : List Nat} (hl : la.length = lb.length) (h : ∀ k, k < la.length → la.getD k 0 = lb.getD k 0) : la = lb := by
  apply List.ext_getElem hl
  intro i h1 h2
  have := h i h1
  simpa [List.getD, h1, h2] using this
/-! ### matrices -/
abbrev mt (D : AV) (off rows cols ld : Int) : AV := .agg [D, .int .i64 off, .int .i64 rows, .int .i64 cols, .int .i64 ld]
structure MI (n : Nat) (off rows cols ld : Int) : Prop where
  n : n ≤ 9223372036854775807
  o1 : -9223372036854775808 ≤ off
  o2 : off ≤ 9223372036854775807
  r1 : -9223372036854775808 ≤ rows
  r2 : rows ≤ 9223372036854775807
  c1 : -9223372036854775808 ≤ cols
  c2 : cols ≤ 9223372036854775807
  l1 : -9223372036854775808 ≤ ld
  l2 : ld ≤ 9223372036854775807
def GoodP (n : Nat) (off rows cols ld : Int) : Prop := 0 ≤ rows ∧ 0 ≤ cols ∧ 0 ≤ off ∧ 1 ≤ ld ∧ rows ≤ ld ∧ (rows = 0 ∨ cols = 0 ∨ (off < n ∧ rows - 1 < n - off ∧ (cols - 1) * ld ≤ n - 1 - off - (rows - 1)))
instance (n : Nat) (off rows cols ld : Int) : Decidable (GoodP n off rows cols ld) := by unfold GoodP; infer_instance
def SpanP (n : Nat) (off rows cols ld : Int) : Prop := GoodP n off rows cols ld ∧ rows ≠ 0 ∧ cols ≠ 0
instance (n : Nat) (off rows cols ld : Int) : Decidable (SpanP n off rows cols ld) := by unfold SpanP; infer_instance
def sF (n : Nat) (off rows cols ld : Int) : Int := if SpanP n off rows cols ld then off else 0
def sT (n : Nat) (off rows cols ld : Int) : Int := if SpanP n off rows cols ld then off + (cols - 1) * ld + rows - 1 else 0
theorem span_pos {n : Nat} {off rows cols ld : Int} (h : SpanP n off rows cols ld) : 0 < n := by
  obtain ⟨⟨h1, h2, h3, h4, h5, h6⟩, h7, h8⟩ := h
  omega
def PlaceP (n : Nat) (off rows cols ld i j : Int) : Prop := GoodP n off rows cols ld ∧ 0 ≤ i ∧ 0 ≤ j ∧ i < rows ∧ j < cols
instance (n : Nat) (off rows cols ld i j : Int) : Decidable (PlaceP n off rows cols ld i j) := by unfold PlaceP; infer_instance
def plV (n : Nat) (off rows cols ld i j : Int) : Int := if PlaceP n off rows cols ld i j then off + i + j * ld else -1
theorem good_place {n : Nat} {off rows cols ld i j : Int} (h : GoodP n off rows cols ld) (hi : 0 ≤ i) (hj : 0 ≤ j) (hi' : i < rows) (hj' : j < cols) : 0 ≤ j * ld ∧ 0 ≤ off + i + j * ld ∧ off + i + j * ld < n ∧ j * ld ≤ (cols - 1) * ld ∧ 0 ≤ off ∧ 1 ≤ ld := by
  obtain ⟨h1, h2, h3, h4, h5, h6⟩ := h
  have h7 : j * ld ≤ (cols - 1) * ld := Int.mul_le_mul_of_nonneg_right (by omega) (by omega)
  have h8 : 0 ≤ j * ld := Int.mul_nonneg hj (by omega)
  refine ⟨h8, by omega, ?_, h7, h3, h4⟩
  rcases h6 with h6 | h6 | h6 <;> omega
theorem pl_lt {n : Nat} {off rows cols ld i j : Int} (h : 0 ≤ plV n off rows cols ld i j) : plV n off rows cols ld i j < n := by
  unfold plV at h ⊢
  split
  · rename_i hp; obtain ⟨h1, h2, h3, h4, h5⟩ := hp; exact (good_place h1 h2 h3 h4 h5).2.2.1
  · rename_i hp; simp only [hp, if_false] at h; omega
end Go.Sx

set_option linter.unusedVariables false
set_option linter.unusedSimpArgs false
namespace Go.Sx
section
variable {e : List (Nat × EV)} {L : List (Nat × List AV)} {H : List (List AV)} {K : St → Prop} {dd : Nat}
/-! ### whole numbers from 0 on -/
theorem v_addN {x y : Nat} (hb : x + y ≤ 9223372036854775807) (h : K ⟨(dd, .val (.int .i64 ((x + y : Nat) : Int))) :: e, L, H⟩) : valK dd K ⟨e, L, H⟩ (some (True, .int .i64 (IntKind.i64.wrap ((x : Int) + (y : Int))))) :=
  v_w (by omega) (by simpa using h)
theorem v_subN {x y : Nat} (hb : y ≤ x) (hx : x ≤ 9223372036854775807) (h : K ⟨(dd, .val (.int .i64 ((x - y : Nat) : Int))) :: e, L, H⟩) : valK dd K ⟨e, L, H⟩ (some (True, .int .i64 (IntKind.i64.wrap ((x : Int) - (y : Int))))) :=
  v_w (by omega) (by rwa [show ((x : Int) - (y : Int)) = ((x - y : Nat) : Int) from by omega])
theorem v_mulN {x y : Nat} (hb : x * y ≤ 9223372036854775807) (h : K ⟨(dd, .val (.int .i64 ((x * y : Nat) : Int))) :: e, L, H⟩) : valK dd K ⟨e, L, H⟩ (some (True, .int .i64 (IntKind.i64.wrap ((x : Int) * (y : Int))))) := by
  have e1 : ((x : Int) * (y : Int)) = ((x * y : Nat) : Int) := by simp
  rw [e1]
  exact v_w (by omega) h
theorem v_quoN {x y : Nat} (hy : 0 < y) (hx : x ≤ 9223372036854775807) (h : K ⟨(dd, .val (.int .i64 ((x / y : Nat) : Int))) :: e, L, H⟩) : valK dd K ⟨e, L, H⟩ (some ((y : Int) ≠ 0, .int .i64 (IntKind.i64.wrap ((x : Int).tdiv (y : Int))))) :=
  v_qc (by omega) (by omega) (by simpa using h)
theorem v_modN {k : IntKind} {x y : Nat} (hy : 0 < y) (h : K ⟨(dd, .val (.int k ((x % y : Nat) : Int))) :: e, L, H⟩) : valK dd K ⟨e, L, H⟩ (some ((y : Int) ≠ 0, .int k ((x : Int).tmod (y : Int)))) :=
  v_mod (by omega) (by omega) (by simpa using h)
end
section
variable {P : Program} {cfg : Cfg} {e : List (Nat × EV)} {L : List (Nat × List AV)} {H : List (List AV)} {K : St → Prop} {ty : TypeId} {pos : String} {aft : Array Edge} {gd : Option (Nat × Bool)} {dd : Nat}
theorem b_binB {t t' : TypeId} [u : UI P t .bool] {x y : Operand} {p q : Bool} (hx : St.ev ⟨e, L, H⟩ x = .val (.bool p)) (hy : St.ev ⟨e, L, H⟩ y = .val (.bool q)) (h : valK dd K ⟨e, L, H⟩ (some (True, .bool (p == q)))) :
    opX P cfg ⟨some dd, .binOp .eql t x y t', ty, pos, aft, gd⟩ K ⟨e, L, H⟩ := by
  refine b_bin hx hy (r := some (True, .bool (p == q))) ?_ h
  simp only [binV, u.h]
theorem b_binBn {t t' : TypeId} [u : UI P t .bool] {x y : Operand} {p q : Bool} (hx : St.ev ⟨e, L, H⟩ x = .val (.bool p)) (hy : St.ev ⟨e, L, H⟩ y = .val (.bool q)) (h : valK dd K ⟨e, L, H⟩ (some (True, .bool (p != q)))) :
    opX P cfg ⟨some dd, .binOp .neq t x y t', ty, pos, aft, gd⟩ K ⟨e, L, H⟩ := by
  refine b_bin hx hy (r := some (True, .bool (p != q))) ?_ h
  simp only [binV, u.h]
theorem v_bbT {x y : Bool} (h : x = y) (hk : K ⟨(dd, .val (.bool true)) :: e, L, H⟩) : valK dd K ⟨e, L, H⟩ (some (True, .bool (x == y))) := by
  subst h; simp only [beq_self_eq_true]; exact ⟨trivial, hk⟩
theorem v_bbF {x y : Bool} (h : x ≠ y) (hk : K ⟨(dd, .val (.bool false)) :: e, L, H⟩) : valK dd K ⟨e, L, H⟩ (some (True, .bool (x == y))) := by
  have : (x == y) = false := by simpa using h
  rw [this]; exact ⟨trivial, hk⟩
end
theorem k_mnB {q : Bool} {nY : NY} {o : Oper} {e e' : List (Nat × EV)} {L : List (Nat × List AV)} {A N N' M : List (List AV)} {K : St → Prop} (hN : N ++ M = N') (h : K ⟨e', L, A ++ N'⟩) : ckK (.mn q) nY o ⟨e, L, A ++ N⟩ K ⟨e', L, A ++ N'⟩ := by
  subst hN
  rw [← List.append_assoc] at h ⊢
  exact k_mnA h
theorem plV_T {n : Nat} {off rows cols ld i j : Int} (h : PlaceP n off rows cols ld i j) : plV n off rows cols ld i j = off + i + j * ld ∧ 0 ≤ plV n off rows cols ld i j := by
  have h1 : plV n off rows cols ld i j = off + i + j * ld := by rw [plV, if_pos h]
  obtain ⟨h2, h3, h4, h5, h6⟩ := h
  exact ⟨h1, by rw [h1]; exact (good_place h2 h3 h4 h5 h6).2.1⟩
theorem plV_F {n : Nat} {off rows cols ld i j : Int} (h : ¬ PlaceP n off rows cols ld i j) : plV n off rows cols ld i j = -1 := by rw [plV, if_neg h]
/-- a list of floats that is handed in -/
def aD (p : Nat × Nat) (l : List Nat) : AV := .sl (if l = [] then none else some p) l.length (fl l)
theorem aD_FL (H : List (List AV)) (p : Nat × Nat) (l : List Nat) : FL H (aD p l) l := FL.fz H _ l
theorem aD_len (p : Nat × Nat) (l : List Nat) : slen (aD p l) = some l.length := rfl
theorem aD_same (H : List (List AV)) (p : Nat × Nat) (l : List Nat) (h : 0 < l.length) : ptrEq H (aD p l) 0 (aD p l) 0 = some true := by
  cases l with
  | nil => simp at h
  | cons a l => simp [aD, ptrEq]
theorem aD_new {A N : List (List AV)} {n j g o len sz : Nat} {cs : List AV} (p : Nat × Nat) (l : List Nat) (h : 0 < l.length) (hA : A.length = n) (hj : N[j]? = some cs) (hg : cs.length = g) : ptrEq (A ++ N) (aD p l) 0 (.slm (n + j) g o len sz) 0 = some false := by
  have := hg_new hA hj
  cases l with
  | nil => simp at h
  | cons a l => simp [aD, fl, ptrEq, curG, this, hg]
/-- a part of a list of floats -/
theorem FL.slc {H : List (List AV)} {D : AV} {l : List Nat} (h : FL H D l) {a b : Nat} (hab : a ≤ b) (hb : b ≤ l.length) : ∃ D', slcV 1 a b D = some D' ∧ FL H D' ((l.drop a).take (b - a)) := by
  have e1 : ((l.drop a).take (b - a)).length = b - a := by simp; omega
  have nil : a = b → FL H (.sl none 0 []) ((l.drop a).take (b - a)) := by
    intro hh; subst hh
    simp only [Nat.sub_self, List.take_zero]
    exact FL.fz H none []
  cases D with
  | slnil =>
    have := h.len
    simp only [slen, Option.some.injEq] at this
    exact ⟨_, rfl, nil (by omega)⟩
  | sl tag len cells =>
    have h1 := h.all (by simp)
    have hl := h.len
    simp only [sread, slen, Option.some.injEq] at h1 hl
    simp only [slcV]
    by_cases hlt : a < b
    · rw [if_pos hlt]
      refine ⟨_, rfl, by simp only [slen]; rw [e1], fun _ => ?_, by simp, ?_⟩
      rotate_left
      · have := h.mx
        simp only [Sx.mx] at this ⊢
        rw [mxL_le] at this ⊢
        intro i c hi
        rw [List.getElem?_take] at hi
        split at hi
        · rw [List.getElem?_drop] at hi; exact this _ c hi
        · simp at hi
      simp only [sread, Nat.mul_one]
      rw [e1]
      obtain ⟨g1, g2⟩ := gc_get h1
      have hc : l.length ≤ cells.length := by
        rcases Nat.lt_or_ge (l.length - 1) cells.length with hh | hh
        · omega
        · have := g2 (l.length - 1) (by omega)
          rw [Nat.zero_add, List.getElem?_eq_none hh] at this
          simp [fl] at this; omega
      rw [gc_all _ (by simp; omega)]
      congr 1
      apply List.ext_getElem?
      intro i
      by_cases hi : i < b - a
      · rw [List.getElem?_take_of_lt hi, List.getElem?_drop]
        have := g2 (a + i) (by omega)
        rw [Nat.zero_add] at this
        rw [← this]
        simp [fl, List.getElem?_take, hi]
      · rw [List.getElem?_eq_none (by simp; omega), List.getElem?_eq_none (by simp; omega)]
    · rw [if_neg hlt]; exact ⟨_, rfl, nil (by omega)⟩
  | slm id gen o len sz =>
    have hz := h.one _ _ _ _ _ rfl
    subst hz
    have h1 := h.all (by simp)
    have hl := h.len
    simp only [slen, Option.some.injEq] at hl
    simp only [slcV, if_true]
    by_cases hlt : a < b
    · rw [if_pos hlt]
      refine ⟨_, rfl, by simp only [slen]; rw [e1], fun _ => ?_, by simp; omega, h.mx⟩
      simp only [sread, Nat.add_zero, Nat.mul_one] at h1 ⊢
      rw [e1]
      cases hi : H[id]? with
      | none => rw [hi] at h1; simp at h1
      | some cs =>
        rw [hi] at h1
        simp only [Option.bind_some] at h1 ⊢
        split at h1
        case isFalse => simp at h1
        rename_i hg
        rw [if_pos hg]
        obtain ⟨g1, g2⟩ := gc_get h1
        have hc : o + l.length ≤ cs.length := by
          rcases Nat.lt_or_ge (o + (l.length - 1)) cs.length with hh | hh
          · omega
          · have := g2 (l.length - 1) (by omega)
            rw [List.getElem?_eq_none hh] at this
            simp [fl] at this; omega
        rw [gc_take _ _ _ (by omega)]
        congr 1
        apply List.ext_getElem?
        intro i
        by_cases hi : i < b - a
        · rw [List.getElem?_take_of_lt hi, List.getElem?_drop]
          have := g2 (a + i) (by omega)
          rw [show o + a + i = o + (a + i) from by omega, ← this]
          simp [fl, List.getElem?_take, hi]
        · rw [List.getElem?_eq_none (by simp; omega), List.getElem?_eq_none (by simp; omega)]
    · rw [if_neg hlt]; exact ⟨_, rfl, nil (by omega)⟩
  | junk | bool _ | int _ _ | flt _ | fraw _ | str _ | eptr _ _ | agg _ | tup _ | func _ _ _ | raw _ => have := h.len; simp [slen] at this

theorem set_self {α : Type} {l : List α} {i : Nat} {a : α} (h : l[i]? = some a) : l.set i a = l := by
  apply List.ext_getElem?
  intro j
  rw [List.getElem?_set]
  split
  · rename_i hj; subst hj; split
    · exact h.symm
    · rename_i hl; have := (List.getElem?_eq_some_iff.1 h).1; omega
  · rfl

theorem gk_consF {e : List (Nat × EV)} {L : List (Nat × List AV)} {H : List (List AV)} {b : Nat} {xs : List Operand} {acc : List AV} {k : List AV → Prop} (hb : (decide (b < 2 ^ 64) && !isNaN b) = true) (h : gK xs (acc ++ [.flt b]) k ⟨e, L, H⟩) : gK (.const (.float .f64 b) :: xs) acc k ⟨e, L, H⟩ := by
  simp only [Bool.and_eq_true, decide_eq_true_eq, Bool.not_eq_true'] at hb
  refine gk_cons (v := .flt b) ?_ h
  have : aOf (.float .f64 b) = .flt b := by
    show aOf1 (.float .f64 b) = .flt b
    simp only [aOf1, hb.1, if_true, cn, hb.2, Bool.false_eq_true, if_false]
  show EV.val (aOf (.float .f64 b)) = _
  rw [this]
theorem gk_nilN {e : List (Nat × EV)} {L : List (Nat × List AV)} {H : List (List AV)} {acc acc' : List AV} {k : List AV → Prop} (ha : acc = acc') (h : k acc') : gK [] acc k ⟨e, L, H⟩ := by
  subst ha; exact gk_nil h

/-- a new block's list -/
theorem FL.blk {A N : List (List AV)} {n j g q : Nat} {l : List Nat} (hA : A.length = n) (hj : N[j]? = some (fl l)) (hg : g = l.length) (hq : q = l.length) : FL (A ++ N) (.slm (n + j) g 0 q 1) l :=
  FL.slm (hg_new hA hj) hg (by omega) (by subst hq; simp)
/-- a block's -/
theorem FL.old {H : List (List AV)} {id g q : Nat} {l : List Nat} (hj : H[id]? = some (fl l)) (hg : g = l.length) (hq : q = l.length) : FL H (.slm id g 0 q 1) l :=
  FL.slm hj hg (by omega) (by subst hq; simp)

/-! ### a new matrix, its numbers told row by row -/
def dIx (r c k : Nat) : Nat := k / c + k % c * max r 1
def denseN (r c : Nat) (l : List Nat) : Nat → List Nat
  | 0 => List.replicate (r * c) 0
  | k + 1 => (denseN r c l k).set (dIx r c k) (l.getD k 0)
def denseL (r c : Nat) (l : List Nat) : List Nat := denseN r c (l.take (min l.length (r * c))) (min l.length (r * c))
@[simp] theorem denseN_len (r c : Nat) (l : List Nat) : ∀ k, (denseN r c l k).length = r * c
  | 0 => by simp [denseN]
  | k + 1 => by simp [denseN, denseN_len r c l k]
@[simp] theorem denseL_len (r c : Nat) (l : List Nat) : (denseL r c l).length = r * c := by simp [denseL]
theorem dIx_lt {r c k : Nat} (h : k < r * c) : dIx r c k < r * c := by
  unfold dIx
  have hc : 0 < c := by rcases Nat.eq_zero_or_pos c with h0 | h0; · subst h0; simp at h
                        · exact h0
  have hr : 0 < r := by rcases Nat.eq_zero_or_pos r with h0 | h0; · subst h0; simp at h
                        · exact h0
  have h1 : k / c < r := (Nat.div_lt_iff_lt_mul hc).2 h
  have h2 : k % c ≤ c - 1 := by have := Nat.mod_lt k hc; omega
  have h3 : k % c * max r 1 ≤ (c - 1) * r := by rw [Nat.max_eq_left hr]; exact Nat.mul_le_mul_right _ h2
  have h4 : (c - 1) * r + r = r * c := by
    rw [← Nat.succ_mul, show (c - 1).succ = c from by omega, Nat.mul_comm]
  omega

end Go.Sx

set_option linter.unusedVariables false
set_option linter.unusedSimpArgs false
namespace Go.Sx
section
variable {P : Program} {cfg : Cfg} {dr : Array Oper → (St → Prop) → St → Prop} {e : List (Nat × EV)} {L : List (Nat × List AV)} {H : List (List AV)} {Q : XE → St → Prop} {K : St → Prop}
variable {d : Option Tmp} {ty : TypeId} {pos : String} {aft : Array Edge} {gd : Option (Nat × Bool)} {dd : Nat}

/-! ### constants -/
theorem aOf_cF {b : Nat} (hb : (decide (b < 2 ^ 64) && !isNaN b) = true) : aOf (.float .f64 b) = .flt b := by
  simp only [Bool.and_eq_true, decide_eq_true_eq, Bool.not_eq_true'] at hb
  show aOf1 (.float .f64 b) = .flt b
  simp only [aOf1, hb.1, if_true, cn, hb.2, Bool.false_eq_true, if_false]
theorem b_assignF {b : Nat} (hb : (decide (b < 2 ^ 64) && !isNaN b) = true) (h : K ⟨(dd, .val (.flt b)) :: e, L, H⟩) : opX P cfg ⟨some dd, .assign (.const (.float .f64 b)), ty, pos, aft, gd⟩ K ⟨e, L, H⟩ :=
  b_assign (by show EV.val (aOf (.float .f64 b)) = _; rw [aOf_cF hb]) h
theorem b_moveF {b : Nat} (hb : (decide (b < 2 ^ 64) && !isNaN b) = true) (h : K ⟨(dd, .val (.flt b)) :: e, L, H⟩) : opX P cfg ⟨some dd, .move (.const (.float .f64 b)), ty, pos, aft, gd⟩ K ⟨e, L, H⟩ :=
  b_move (by show EV.val (aOf (.float .f64 b)) = _; rw [aOf_cF hb]) h
theorem b_assignI {k : IntKind} {n : Int} (h : K ⟨(dd, .val (.int k n)) :: e, L, H⟩) : opX P cfg ⟨some dd, .assign (.const (.int k n)), ty, pos, aft, gd⟩ K ⟨e, L, H⟩ := b_assign rfl h
theorem b_moveI {k : IntKind} {n : Int} (h : K ⟨(dd, .val (.int k n)) :: e, L, H⟩) : opX P cfg ⟨some dd, .move (.const (.int k n)), ty, pos, aft, gd⟩ K ⟨e, L, H⟩ := b_move rfl h
theorem b_assignN (h : K ⟨(dd, .val .slnil) :: e, L, H⟩) : opX P cfg ⟨some dd, .assign (.const (.slice none 0 0)), ty, pos, aft, gd⟩ K ⟨e, L, H⟩ := b_assign rfl h
theorem a_consF {id : Nat} {xs : List Operand} {acc : List AV} {b : Nat} (hb : (decide (b < 2 ^ 64) && !isNaN b) = true) (h : argK P cfg id xs (acc ++ [.flt b]) dd K ⟨e, L, H⟩) : argK P cfg id (.const (.float .f64 b) :: xs) acc dd K ⟨e, L, H⟩ :=
  a_cons (by show EV.val (aOf (.float .f64 b)) = _; rw [aOf_cF hb]) h

/-! ### a call of a value -/
theorem b_callV {f : Operand} {id : Nat} {first caps : List AV} {args : Array Operand} {ts : Array TypeId} (hf : St.ev ⟨e, L, H⟩ f = .val (.func id first caps)) (h : gK args.toList [] (fun vs => callK P cfg id (first ++ vs ++ caps) dd K ⟨e, L, H⟩) ⟨e, L, H⟩) :
    opX P cfg ⟨some dd, .call { callee := .value f, args := args, argTypes := ts }, ty, pos, aft, gd⟩ K ⟨e, L, H⟩ := by
  obtain ⟨vs, ha, r, H', h1, h2, h3⟩ := h
  simp only [opX, opE, hf, ha]
  exact ⟨r, H', by simpa using h1, h2, h3⟩
theorem b_mkF {f : Nat} {first caps : Array Operand} (h : gK first.toList [] (fun vs => gK caps.toList [] (fun us => K ⟨(dd, .val (.func f vs us)) :: e, L, H⟩) ⟨e, L, H⟩) ⟨e, L, H⟩) :
    opX P cfg ⟨some dd, .makeFunc (.func f) first caps, ty, pos, aft, gd⟩ K ⟨e, L, H⟩ := by
  obtain ⟨vs, h1, us, h2, h⟩ := h
  rw [op_pure P cfg e L H K _ _ _ _ _ _ rfl]
  unfold argsX at h1 h2
  simp only [pureV, h1, h2, pureK]
  simp only [List.nil_append] at h
  exact ⟨trivial, h⟩

theorem l_nA {t : TypeId} {A N : List (List AV)} {n j g o len sz off k : Nat} {cs l : List AV} [i : TyI P t k true] (hA : A.length = n) (hj : N[j]? = some cs) (hg : cs.length = g) (hl : gc cs (o + off) k = some l) (hk : K ⟨(dd, .val (.agg l)) :: e, L, A ++ N⟩) : loadK P t dd K ⟨e, L, A ++ N⟩ (.val (.eptr (.slm (n + j) g o len sz) off)) :=
  l_ptrA (by simp only [sread, hg_new hA hj, Option.bind_some, hg, if_true]; exact hl) hk
theorem l_n1 {t : TypeId} {A N : List (List AV)} {n j g o len sz off : Nat} {cs : List AV} {c : AV} [i : TyI P t 1 false] (hA : A.length = n) (hj : N[j]? = some cs) (hg : cs.length = g) (hl : cs[o + off]? = some c) (hk : K ⟨(dd, .val c) :: e, L, A ++ N⟩) : loadK P t dd K ⟨e, L, A ++ N⟩ (.val (.eptr (.slm (n + j) g o len sz) off)) :=
  l_ptr1 (by simp only [sread, hg_new hA hj, Option.bind_some, hg, if_true]; exact gc_one hl) hk
theorem l_oA {t : TypeId} {A N : List (List AV)} {b g o len sz off k : Nat} {cs l : List AV} [i : TyI P t k true] (hj : A[b]? = some cs) (hg : cs.length = g) (hl : gc cs (o + off) k = some l) (hk : K ⟨(dd, .val (.agg l)) :: e, L, A ++ N⟩) : loadK P t dd K ⟨e, L, A ++ N⟩ (.val (.eptr (.slm b g o len sz) off)) :=
  l_ptrA (by simp only [sread, hg_old hj, Option.bind_some, hg, if_true]; exact hl) hk
theorem l_o1 {t : TypeId} {A N : List (List AV)} {b g o len sz off : Nat} {cs : List AV} {c : AV} [i : TyI P t 1 false] (hj : A[b]? = some cs) (hg : cs.length = g) (hl : cs[o + off]? = some c) (hk : K ⟨(dd, .val c) :: e, L, A ++ N⟩) : loadK P t dd K ⟨e, L, A ++ N⟩ (.val (.eptr (.slm b g o len sz) off)) :=
  l_ptr1 (by simp only [sread, hg_old hj, Option.bind_some, hg, if_true]; exact gc_one hl) hk
theorem a_consI {id : Nat} {xs : List Operand} {acc : List AV} {k : IntKind} {n : Int} (h : argK P cfg id xs (acc ++ [.int k n]) dd K ⟨e, L, H⟩) : argK P cfg id (.const (.int k n) :: xs) acc dd K ⟨e, L, H⟩ := a_cons rfl h

/-! ### a list that grows by one, from nothing on -/
def gV (n i k : Nat) : AV := if k = 0 then .slnil else .slm (n + i) k 0 k 1
def gN (l : List AV) : List (List AV) := if l = [] then [] else [l]
theorem gV_len (n i k : Nat) : slen (gV n i k) = some k := by unfold gV; split <;> simp_all [slen]
theorem b_grow {t tx : TypeId} {s x : Operand} {n i k by_ el' z' : Nat} {z v : AV} {l l' : List AV} {A N₀ : List (List AV)} [ei : EI P t 1 by_ [z]] [si : SlI P tx el' z'] (hs : St.ev ⟨e, L, A ++ (N₀ ++ gN l)⟩ s = .val (gV n i k)) (hx : St.ev ⟨e, L, A ++ (N₀ ++ gN l)⟩ x = .val (.sl none 1 [v]))
    (hA : A.length = n) (hi : N₀.length = i) (hk : l.length = k) (hm : k + 1 ≤ 2 ^ 32) (hn : cfg.n0 = n) (hz : (decide (by_ ≤ 2 ^ 10) && decide (0 < by_)) = true) (hl : l ++ [v] = l')
    (h : K ⟨(dd, .val (gV n i (k + 1))) :: e, L, A ++ (N₀ ++ gN l')⟩) :
    opX P cfg ⟨some dd, .call { callee := .builtin .append, args := #[s, x], argTypes := #[t, tx] }, ty, pos, aft, gd⟩ K ⟨e, L, A ++ (N₀ ++ gN l)⟩ := by
  subst hl
  have e1 : gV n i (k + 1) = .slm (n + i) (k + 1) 0 (k + 1) 1 := by simp [gV]
  have e2 : gN (l ++ [v]) = [l ++ [v]] := by simp [gN]
  rw [e1, e2] at h
  cases l with
  | nil =>
    simp only [List.length_nil] at hk; subst hk
    simp only [gN, if_true, List.append_nil, List.nil_append] at hs hx h ⊢
    exact b_appZ (n := n) (i := i) (xs := [v]) (m := 1) hs hx (src_fz rfl) (by omega) hA hi hz rfl rfl h
  | cons a l =>
    have hk0 : k ≠ 0 := by simp at hk; omega
    have e3 : gV n i k = .slm (n + i) k 0 k 1 := by simp [gV, hk0]
    have e4 : gN (a :: l) = [a :: l] := by simp [gN]
    rw [e3] at hs
    rw [e4] at hs hx ⊢
    subst hi
    exact b_appN (cs := a :: l) (xs := [v]) (m := 1) hs hx hA (by simp) (src_fz rfl) hk rfl hm (.inl (by omega)) hz rfl (by simp) (by simp at hk ⊢; omega) rfl h
/-- .. handed back, as what nobody writes -/
theorem gV_fr {n i k : Nat} {l : List AV} {A N₀ : List (List AV)} (hA : A.length = n) (hi : N₀.length = i) (hk : l.length = k) (hm : mxL l ≤ n) : Fr n [] (A ++ (N₀ ++ gN l)) (gV n i k) (.sl none k l) := by
  cases l with
  | nil =>
    simp only [List.length_nil] at hk; subst hk
    simp only [gV, if_true]; exact Fr.nil
  | cons a l =>
    have hk0 : k ≠ 0 := by simp at hk; omega
    simp only [gV, if_neg hk0]
    have : (A ++ (N₀ ++ gN (a :: l)))[n + i]? = some (a :: l) := by
      refine hg_new hA ?_
      subst hi; simp [gN]
    exact Fr.fz (by omega) (by simp) this hk (gc_all _ (by rw [hk]; omega)) (Frs.old hm)
theorem gV_FL {n i : Nat} {l : List Nat} {A N₀ : List (List AV)} (hA : A.length = n) (hi : N₀.length = i) : FL (A ++ (N₀ ++ gN (fl l))) (gV n i l.length) l := by
  cases l with
  | nil => exact FL.nil _
  | cons a l =>
    have : (A ++ (N₀ ++ gN (fl (a :: l))))[n + i]? = some (fl (a :: l)) := by
      refine hg_new hA ?_
      subst hi; simp [gN, fl]
    simp only [gV, List.length_cons, Nat.add_eq_zero_iff, Nat.succ_ne_zero, and_false, if_false]
    exact FL.old this (by simp) (by simp)
end

/-! ### folds, step by step -/
theorem take_succ' {l : List Nat} {k : Nat} (h : k < l.length) : l.take (k + 1) = l.take k ++ [l.getD k 0] := by
  rw [List.take_add_one]; simp [List.getD, h]
def fo (f : Nat → Nat → Nat) (s : Nat) (l : List Nat) (k : Nat) : Nat := (l.take k).foldl f s
theorem fo_zero (f : Nat → Nat → Nat) (s : Nat) (l : List Nat) : fo f s l 0 = s := by simp [fo]
theorem fo_succ {f : Nat → Nat → Nat} {s : Nat} {l : List Nat} {k : Nat} (h : k < l.length) : fo f s l (k + 1) = f (fo f s l k) (l.getD k 0) := by
  simp only [fo, take_succ' h, List.foldl_append, List.foldl_cons, List.foldl_nil]
theorem fo_all (f : Nat → Nat → Nat) (s : Nat) (l : List Nat) : fo f s l l.length = l.foldl f s := by simp [fo]
/-- the list of what is told of each -/
def mpl (f : Nat → Nat) (l : List Nat) (k : Nat) : List Nat := (l.take k).map f
theorem mpl_zero (f : Nat → Nat) (l : List Nat) : mpl f l 0 = [] := by simp [mpl]
theorem mpl_succ {f : Nat → Nat} {l : List Nat} {k : Nat} (h : k < l.length) : mpl f l (k + 1) = mpl f l k ++ [f (l.getD k 0)] := by simp [mpl, take_succ' h]
theorem mpl_all (f : Nat → Nat) (l : List Nat) : mpl f l l.length = l.map f := by simp [mpl]
@[simp] theorem mpl_len {f : Nat → Nat} {l : List Nat} {k : Nat} (h : k ≤ l.length) : (mpl f l k).length = k := by simp [mpl]; omega
/-! ### without its sign -/
def absF (x : Nat) : Nat := cn (x % 9223372036854775808)
theorem absF_cn (b : Nat) : absF (cn b) = cn (b % 9223372036854775808) := by
  unfold absF
  have key : ∀ b, isNaN (b % 9223372036854775808) = isNaN b := by
    intro b
    have e : ∀ x, isNaN x = decide (9218868437227405312 < x % 9223372036854775808) := by
      intro x
      have e1 : Ieee.double.signWeight = 9223372036854775808 := by decide
      have e2 : Ieee.double.binade = 4503599627370496 := by decide
      have e3 : Ieee.double.infRung = 9218868437227405312 := by decide
      unfold isNaN Ieee.Format.read
      simp only [e1, e2, e3]
      split
      · simp [Ieee.Datum.isNaN]; omega
      · split
        · simp [Ieee.Datum.isNaN]; omega
        · split
          · simp [Ieee.Datum.isNaN]; omega
          · simp [Ieee.Datum.isNaN]; omega
    rw [e, e, Nat.mod_mod]
  rcases cn_cases b with ⟨h1, h2⟩ | ⟨h1, h2⟩
  · rw [h2]
    have h3 : isNaN (b % 9223372036854775808) = true := by rw [key]; exact h1
    have h4 : isNaN (qn % 9223372036854775808) = true := by rw [key]; decide
    simp only [cn, h3, h4, if_true]
  · rw [h2]
/-- the greatest of numbers, and of 0; the first that is none, if there is one -/
def mxF (m x : Nat) : Nat := if flt m x then x else m
theorem mxF_T {m x : Nat} (h : flt m x = true) : mxF m x = x := by simp [mxF, h]
theorem mxF_F {m x : Nat} (h : flt m x = false) : mxF m x = m := by simp [mxF, h]
def greatF (l : List Nat) : Nat :=
  match l.find? (fun x => !feq x x) with
  | some x => x
  | none => l.foldl mxF 0
theorem first_nan : ∀ (l : List Nat), ∃ N, N ≤ l.length ∧ (∀ k, k < N → feq (l.getD k 0) (l.getD k 0) = true) ∧ (N < l.length → feq (l.getD N 0) (l.getD N 0) = false ∧ greatF l = l.getD N 0) ∧ (N = l.length → greatF l = l.foldl mxF 0)
  | l => by
    have key : ∀ l : List Nat, ∃ N, N ≤ l.length ∧ (∀ k, k < N → feq (l.getD k 0) (l.getD k 0) = true) ∧ (N < l.length → feq (l.getD N 0) (l.getD N 0) = false ∧ l.find? (fun x => !feq x x) = some (l.getD N 0)) ∧ (N = l.length → l.find? (fun x => !feq x x) = none) := by
      intro l
      induction l with
      | nil => exact ⟨0, Nat.le_refl _, by simp, by simp, by simp⟩
      | cons a l ih =>
        by_cases h : feq a a = true
        · obtain ⟨N, h1, h2, h3, h4⟩ := ih
          refine ⟨N + 1, by simp; omega, fun k hk => ?_, fun hN => ?_, fun hN => ?_⟩
          · cases k with
            | zero => simpa using h
            | succ k => simpa using h2 k (by omega)
          · have := h3 (by simp at hN; omega)
            refine ⟨by simpa using this.1, ?_⟩
            rw [List.find?_cons_of_neg (by simp [h])]
            simpa using this.2
          · rw [List.find?_cons_of_neg (by simp [h])]
            exact h4 (by simp at hN; omega)
        · refine ⟨0, by omega, by simp, fun _ => ⟨by simpa using h, ?_⟩, by simp⟩
          rw [List.find?_cons_of_pos (by simpa using h)]; simp
    obtain ⟨N, h1, h2, h3, h4⟩ := key l
    refine ⟨N, h1, h2, fun h => ⟨(h3 h).1, ?_⟩, fun h => ?_⟩
    · unfold greatF; rw [(h3 h).2]
    · unfold greatF; rw [h4 h]
def asumF (l : List Nat) : Nat := l.foldl (fun s x => fadd s (absF x)) 0
def sumF (l : List Nat) : Nat := l.foldl fadd 0
theorem asum_sum (l : List Nat) : sumF (l.map absF) = asumF l := by simp [sumF, asumF, List.foldl_map]
theorem andn63 (b : Nat) (h : b < 2 ^ 64) : bitsI .andNot .u64 b 9223372036854775808 = ((b % 9223372036854775808 : Nat) : Int) := by
  have e1 : (BitVec.ofInt 64 (b : Int)).toNat = b := by
    rw [BitVec.toNat_ofInt]
    omega
  have e2 : ~~~(BitVec.ofInt 64 (9223372036854775808 : Int)) = BitVec.ofNat 64 (2 ^ 63 - 1) := by decide
  simp only [bitsI]
  show IntKind.u64.wrap ((BitVec.ofInt 64 (b : Int) &&& ~~~(BitVec.ofInt 64 (9223372036854775808 : Int))).toNat : Int) = _
  rw [e2, BitVec.toNat_and, e1, BitVec.toNat_ofNat]
  have e3 : (2 ^ 63 - 1) % 2 ^ 64 = 2 ^ 63 - 1 := by decide
  rw [e3, Nat.and_two_pow_sub_one_eq_mod]
  rw [wrapU (by omega)]
theorem v_andn {e : List (Nat × EV)} {L : List (Nat × List AV)} {H : List (List AV)} {K : St → Prop} {dd b : Nat} (hb : b < 2 ^ 64) (h : K ⟨(dd, .val (.int .u64 ((b % 9223372036854775808 : Nat) : Int))) :: e, L, H⟩) : valK dd K ⟨e, L, H⟩ (some (True, .int .u64 (bitsI .andNot .u64 (b : Int) 9223372036854775808))) := by
  rw [andn63 b hb]; exact ⟨trivial, h⟩
/-! ### vectors -/
abbrev vt (D : AV) (off n inc : Int) : AV := .agg [D, .int .i64 off, .int .i64 n, .int .i64 inc]
structure VI (m : Nat) (off n inc : Int) : Prop where
  m : m ≤ 9223372036854775807
  o1 : -9223372036854775808 ≤ off
  o2 : off ≤ 9223372036854775807
  n1 : -9223372036854775808 ≤ n
  n2 : n ≤ 9223372036854775807
  i1 : -9223372036854775808 ≤ inc
  i2 : inc ≤ 9223372036854775807
def RightP (m : Nat) (off n inc : Int) : Prop := 0 ≤ n ∧ 1 ≤ inc ∧ 0 ≤ off ∧ (n = 0 ∨ (off < m ∧ (n - 1) * inc ≤ m - 1 - off))
instance (m : Nat) (off n inc : Int) : Decidable (RightP m off n inc) := by unfold RightP; infer_instance
theorem right_at {m : Nat} {off n inc i : Int} (h : RightP m off n inc) (hi : 0 ≤ i) (hi' : i < n) : 0 ≤ i * inc ∧ 0 ≤ off + i * inc ∧ off + i * inc < m ∧ 0 ≤ off ∧ 1 ≤ inc := by
  obtain ⟨h1, h2, h3, h4⟩ := h
  have h7 : i * inc ≤ (n - 1) * inc := Int.mul_le_mul_of_nonneg_right (by omega) (by omega)
  have h8 : 0 ≤ i * inc := Int.mul_nonneg hi (by omega)
  exact ⟨h8, by omega, by omega, h3, h2⟩
/-- the numbers of a vector -/
def vecL (l : List Nat) (off n inc : Int) : List Nat := (List.range n.toNat).map fun (k : Nat) => l.getD (off + (k : Int) * inc).toNat 0
@[simp] theorem vecL_len (l : List Nat) (off n inc : Int) : (vecL l off n inc).length = n.toNat := by simp [vecL]
theorem vecL_get {l : List Nat} {off n inc : Int} {k : Nat} (h : k < n.toNat) : (vecL l off n inc).getD k 0 = l.getD (off + (k : Int) * inc).toNat 0 := by
  simp [vecL, List.getD, h]
end Go.Sx

set_option linter.unusedVariables false
set_option linter.unusedSimpArgs false
namespace Go.Sx
theorem cells_of_len {D : AV} {n : Nat} (h : slen D = some n) : D.cells = some [D] := by
  cases D <;> first | rfl | (simp [slen] at h; done)
def cOff (off rows ld j : Int) : Int := if 0 < rows then off + j * ld else off
def rOff (off cols i : Int) : Int := if 0 < cols then off + i else off
theorem col_right {n : Nat} {off rows cols ld j : Int} (h : GoodP n off rows cols ld) (hj : 0 ≤ j) (hj' : j < cols) : RightP n (cOff off rows ld j) rows 1 := by
  obtain ⟨h1, h2, h3, h4, h5, h6⟩ := id h
  unfold cOff
  split
  · rename_i hr
    have hp := good_place h (i := 0) (j := j) (by omega) hj hr hj'
    have hq := good_place h (i := rows - 1) (j := j) (by omega) hj (by omega) hj'
    refine ⟨h1, by omega, by omega, ?_⟩
    omega
  · exact ⟨h1, by omega, h3, .inl (by omega)⟩
theorem row_right {n : Nat} {off rows cols ld i : Int} (h : GoodP n off rows cols ld) (hi : 0 ≤ i) (hi' : i < rows) : RightP n (rOff off cols i) cols ld := by
  obtain ⟨h1, h2, h3, h4, h5, h6⟩ := id h
  unfold rOff
  split
  · rename_i hc
    have hp := good_place h (i := i) (j := 0) hi (by omega) hi' hc
    have hq := good_place h (i := i) (j := cols - 1) hi (by omega) hi' (by omega)
    refine ⟨h2, h4, by omega, .inr ⟨by omega, ?_⟩⟩
    omega
  · exact ⟨h2, h4, h3, .inl (by omega)⟩
theorem cOff_le {n : Nat} {off rows cols ld j : Int} (h : GoodP n off rows cols ld) (hj : 0 ≤ j) (hj' : j < cols) (hn : n ≤ 9223372036854775807) (ho : off ≤ 9223372036854775807 := by omega) : cOff off rows ld j ≤ 9223372036854775807 := by
  unfold cOff
  split
  · have := good_place h (i := 0) (j := j) (by omega) hj (by assumption) hj'
    omega
  · exact ho
theorem rOff_le {n : Nat} {off rows cols ld i : Int} (h : GoodP n off rows cols ld) (hi : 0 ≤ i) (hi' : i < rows) (hn : n ≤ 9223372036854775807) (ho : off ≤ 9223372036854775807 := by omega) : rOff off cols i ≤ 9223372036854775807 := by
  unfold rOff
  split
  · have := good_place h (i := i) (j := 0) hi (by omega) hi' (by assumption)
    omega
  · exact ho
theorem right_VI {n : Nat} {off m inc : Int} (h : RightP n off m inc) (hn : n ≤ 9223372036854775807) (hm : m ≤ 9223372036854775807) (hi : inc ≤ 9223372036854775807) (ho : off ≤ 9223372036854775807) : VI n off m inc := by
  obtain ⟨h1, h2, h3, h4⟩ := h
  exact ⟨hn, by omega, ho, by omega, hm, by omega, hi⟩
/-- what is told of each of the first -/
def rml (g : Nat → Nat) (k : Nat) : List Nat := (List.range k).map g
@[simp] theorem rml_len (g : Nat → Nat) (k : Nat) : (rml g k).length = k := by simp [rml]
theorem rml_zero (g : Nat → Nat) : rml g 0 = [] := rfl
theorem rml_succ (g : Nat → Nat) (k : Nat) : rml g (k + 1) = rml g k ++ [g k] := by simp [rml, List.range_succ]
theorem rml_fl (g : Nat → Nat) (k : Nat) : fl (rml g k) ++ [.flt (g k)] = fl (rml g (k + 1)) := by rw [rml_succ]; simp [fl]
theorem rml_get {g : Nat → Nat} {n k : Nat} (h : k < n) : (rml g n).getD k 0 = g k := by simp [rml, List.getD, h]
theorem rml_congr {g g' : Nat → Nat} {n : Nat} (h : ∀ k, k < n → g k = g' k) : rml g n = rml g' n := by
  unfold rml; exact List.map_congr_left (fun k hk => h k (by simpa using hk))
/-- a matrix' number -/
def mel (l : List Nat) (off ld : Int) (i j : Nat) : Nat := l.getD (off + (i : Int) + (j : Int) * ld).toNat 0
/-- a column's numbers, a row's -/
def colL (g : Nat → Nat → Nat) (r j : Nat) : List Nat := rml (fun i => g i j) r
def rowL (g : Nat → Nat → Nat) (c i : Nat) : List Nat := rml (fun j => g i j) c
theorem vec_col (l : List Nat) (off rows ld : Int) (j : Nat) (h : 0 ≤ rows) : vecL l (cOff off rows ld j) rows 1 = colL (mel l off ld) rows.toNat j := by
  unfold vecL colL rml
  apply List.map_congr_left
  intro k hk
  simp only [List.mem_range] at hk
  have : 0 < rows := by omega
  simp only [cOff, this, if_true, mel, Int.mul_one]
  congr 2; omega
theorem vec_row (l : List Nat) (off cols ld : Int) (i : Nat) (h : 0 ≤ cols) : vecL l (rOff off cols i) cols ld = rowL (mel l off ld) cols.toNat i := by
  unfold vecL rowL rml
  apply List.map_congr_left
  intro k hk
  simp only [List.mem_range] at hk
  have : 0 < cols := by omega
  simp only [rOff, this, if_true, mel]
end Go.Sx

set_option linter.unusedVariables false
set_option linter.unusedSimpArgs false
namespace Go.Sx
/-! ### tables, row by row -/
abbrev mM (A : AV) (r c : Int) : AV := .agg [.int .i64 r, .int .i64 c, A]
def rmA (g : Nat → Nat → Nat) (r c : Nat) : List Nat := rml (fun k => g (k / c) (k % c)) (r * c)
@[simp] theorem rmA_len (g : Nat → Nat → Nat) (r c : Nat) : (rmA g r c).length = r * c := by simp [rmA]
theorem ix_lt {r c i j : Nat} (hi : i < r) (hj : j < c) : i * c + j < r * c := by
  have h1 : (i + 1) * c ≤ r * c := Nat.mul_le_mul_right _ hi
  rw [Nat.add_mul, Nat.one_mul] at h1
  omega
theorem ix_div {c i j : Nat} (hj : j < c) : (i * c + j) / c = i := by
  rw [Nat.mul_comm, Nat.mul_add_div (by omega), Nat.div_eq_of_lt hj, Nat.add_zero]
theorem ix_mod {c i j : Nat} (hj : j < c) : (i * c + j) % c = j := by
  rw [Nat.mul_comm, Nat.mul_add_mod, Nat.mod_eq_of_lt hj]
theorem rmA_get {g : Nat → Nat → Nat} {r c i j : Nat} (hi : i < r) (hj : j < c) : (rmA g r c).getD (i * c + j) 0 = g i j := by
  rw [rmA, rml_get (ix_lt hi hj), ix_div hj, ix_mod hj]
/-- a table filled so far -/
def ofL (g : Nat → Nat → Nat) (r c n : Nat) : List Nat := rml (fun k => if k < n then g (k / c) (k % c) else 0) (r * c)
@[simp] theorem ofL_len (g : Nat → Nat → Nat) (r c n : Nat) : (ofL g r c n).length = r * c := by simp [ofL]
theorem ofL_zero (g : Nat → Nat → Nat) (r c : Nat) : ofL g r c 0 = List.replicate (r * c) 0 := by
  apply List.ext_getElem
  · simp
  · intro i h1 h2; simp [ofL, rml]
theorem ofL_all (g : Nat → Nat → Nat) (r c : Nat) : ofL g r c (r * c) = rmA g r c := by
  unfold ofL rmA
  exact rml_congr fun k hk => by rw [if_pos hk]
theorem ofL_set {g : Nat → Nat → Nat} {r c i j : Nat} (hi : i < r) (hj : j < c) {x : Nat} (hx : x = g i j) : (ofL g r c (i * c + j)).set (i * c + j) x = ofL g r c (i * c + j + 1) := by
  have hlt := ix_lt hi hj
  subst hx
  apply List.ext_getElem
  · simp
  · intro k h1 h2
    simp only [ofL_len] at h2
    rw [List.getElem_set]
    split
    · rename_i hk
      subst hk
      simp [ofL, rml, ix_div hj, ix_mod hj]
    · rename_i hk
      simp only [ofL, rml, List.getElem_map, List.getElem_range]
      by_cases h : k < i * c + j
      · rw [if_pos h, if_pos (by omega)]
      · rw [if_neg h, if_neg (by omega)]
/-- a table filled in any order so far -/
def flL (g ρ : Nat → Nat) (n sz : Nat) : List Nat := rml (fun k => if ρ k < n then g k else 0) sz
@[simp] theorem flL_len (g ρ : Nat → Nat) (n sz : Nat) : (flL g ρ n sz).length = sz := by simp [flL]
theorem flL_zero (g ρ : Nat → Nat) (sz : Nat) : flL g ρ 0 sz = List.replicate sz 0 := by
  apply List.ext_getElem
  · simp
  · intro i h1 h2; simp [flL, rml]
theorem flL_all {g ρ : Nat → Nat} {n sz : Nat} (h : ∀ k, k < sz → ρ k < n) : flL g ρ n sz = rml g sz := by
  unfold flL
  exact rml_congr fun k hk => by rw [if_pos (h k hk)]
theorem flL_set {g ρ : Nat → Nat} {n sz ix x : Nat} (hix : ix < sz) (hρ : ρ ix = n) (hi : ∀ k, k < sz → ρ k = n → k = ix) (hx : x = g ix) : (flL g ρ n sz).set ix x = flL g ρ (n + 1) sz := by
  subst hx
  apply List.ext_getElem
  · simp
  · intro k h1 h2
    simp only [flL_len] at h2
    rw [List.getElem_set]
    split
    · rename_i hk; subst hk
      simp [flL, rml, hρ]
    · rename_i hk
      have : ρ k ≠ n := fun h => hk (hi k h2 h).symm
      simp only [flL, rml, List.getElem_map, List.getElem_range]
      by_cases h : ρ k < n
      · rw [if_pos h, if_pos (by omega)]
      · rw [if_neg h, if_neg (by omega)]
/-- the rank of a place that is filled column by column -/
def rkT (r c k : Nat) : Nat := k % r * c + k / r
theorem rkT_ix {r c i j : Nat} (hi : i < r) (hj : j < c) : rkT r c (j * r + i) = i * c + j := by
  unfold rkT; rw [ix_mod hi, ix_div hi]
theorem div_lt' {r c k : Nat} (h : k < c * r) : k / r < c := by
  rcases Nat.eq_zero_or_pos r with h0 | h0
  · subst h0; simp at h
  · exact (Nat.div_lt_iff_lt_mul h0).2 h
theorem pos_of_lt {r c k : Nat} (h : k < c * r) : 0 < r := by
  rcases Nat.eq_zero_or_pos r with h0 | h0
  · subst h0; simp at h
  · exact h0
theorem rkT_inj {r c i j k : Nat} (hi : i < r) (hj : j < c) (hk : k < c * r) (h : rkT r c k = i * c + j) : k = j * r + i := by
  unfold rkT at h
  have h1 : k / r < c := div_lt' hk
  have h2 : (k % r * c + k / r) / c = k % r := ix_div h1
  have h3 : (k % r * c + k / r) % c = k / r := ix_mod h1
  rw [h, ix_div hj] at h2
  rw [h, ix_mod hj] at h3
  rw [h2, h3, Nat.mul_comm]
  exact (Nat.div_add_mod k r).symm
theorem rkT_lt {r c k : Nat} (hk : k < c * r) : rkT r c k < r * c := by
  unfold rkT
  exact ix_lt (Nat.mod_lt _ (pos_of_lt hk)) (div_lt' hk)
/-- a matrix' numbers, column by column -/
def cmA (g : Nat → Nat → Nat) (r c : Nat) : List Nat := rml (fun k => g (k % r) (k / r)) (r * c)
@[simp] theorem cmA_len (g : Nat → Nat → Nat) (r c : Nat) : (cmA g r c).length = r * c := by simp [cmA]
def maxF (g : Nat → Nat → Nat) (r c : Nat) : Nat := greatF ((rmA g r c).map absF)
end Go.Sx

set_option linter.unusedVariables false
set_option linter.unusedSimpArgs false
namespace Go.Sx
theorem dense_good (r c : Nat) (l : List Nat) : GoodP (denseL r c l).length 0 (r : Int) (c : Int) ((max r 1 : Nat) : Int) := by
  rw [denseL_len]
  refine ⟨by omega, by omega, by omega, by omega, by omega, ?_⟩
  rcases Nat.eq_zero_or_pos r with h | h
  · exact .inl (by omega)
  rcases Nat.eq_zero_or_pos c with h' | h'
  · exact .inr (.inl (by omega))
  have e1 : max r 1 = r := Nat.max_eq_left h
  have e2 : ((r * c : Nat) : Int) = ((c : Int) - 1) * (r : Int) + (r : Int) := by
    obtain ⟨c', rfl⟩ : ∃ c', c = c' + 1 := ⟨c - 1, by omega⟩
    have : r * (c' + 1) = c' * r + r := by rw [Nat.mul_add, Nat.mul_one, Nat.mul_comm]
    rw [this]
    have h3 : ((c' + 1 : Nat) : Int) - 1 = (c' : Int) := by omega
    rw [h3]; simp
  have e3 : 0 ≤ ((c : Int) - 1) * (r : Int) := Int.mul_nonneg (by omega) (by omega)
  rw [e1]
  refine .inr (.inr ⟨by omega, by omega, by omega⟩)
theorem dense_MI (r c : Nat) (hr : r ≤ 64) (hc : c ≤ 64) (l : List Nat) : MI (denseL r c l).length 0 (r : Int) (c : Int) ((max r 1 : Nat) : Int) := by
  rw [denseL_len]
  have := Nat.mul_le_mul hr hc
  exact ⟨by omega, by omega, by omega, by omega, by omega, by omega, by omega, by omega, by omega⟩
theorem zero_MI : MI ([] : List Nat).length 0 0 0 0 := ⟨by decide, by decide, by decide, by decide, by decide, by decide, by decide, by decide, by decide⟩
theorem zero_bad : ¬ GoodP ([] : List Nat).length 0 0 0 0 := by decide
theorem v_bT {e : List (Nat × EV)} {L : List (Nat × List AV)} {H : List (List AV)} {K : St → Prop} {dd : Nat} {b : Bool} (h : b = true) (hk : K ⟨(dd, .val (.bool true)) :: e, L, H⟩) : valK dd K ⟨e, L, H⟩ (some (True, .bool b)) := by
  subst h; exact ⟨trivial, hk⟩
theorem v_feT {e : List (Nat × EV)} {L : List (Nat × List AV)} {H : List (List AV)} {K : St → Prop} {dd : Nat} {x y : Nat} (h : feq x y = true) (hk : K ⟨(dd, .val (.bool true)) :: e, L, H⟩) : valK dd K ⟨e, L, H⟩ (some (True, .bool (feq x y))) := v_bT h hk
theorem v_bF {e : List (Nat × EV)} {L : List (Nat × List AV)} {H : List (List AV)} {K : St → Prop} {dd : Nat} {b : Bool} (h : b = false) (hk : K ⟨(dd, .val (.bool false)) :: e, L, H⟩) : valK dd K ⟨e, L, H⟩ (some (True, .bool b)) := by
  subst h; exact ⟨trivial, hk⟩
end Go.Sx

set_option linter.unusedVariables false
set_option linter.unusedSimpArgs false
namespace Go.Sx
/-! ### steps whose facts are found by themselves -/
section
variable {P : Program} {cfg : Cfg} {dr : Array Oper → (St → Prop) → St → Prop} {e : List (Nat × EV)} {L : List (Nat × List AV)} {H : List (List AV)} {Q : XE → St → Prop} {K : St → Prop}
variable {kn : Option (Nat × Bool)} {ops : Array Oper} {d : Option Tmp} {o : Op} {ty : TypeId} {pos : String} {aft : Array Edge} {rest : List Oper} {j : Nat} {b want : Bool} {gd : Option (Nat × Bool)} {dd : Nat}
theorem m00 {op : BinOp} {t t' : TypeId} {x y : Operand} {vx vy : EV} {r : Option (Prop × AV)} (h : valK dd K ⟨e, L, H⟩ r) (hx : St.ev ⟨e, L, H⟩ x = vx := by (conv => {lhs; whnf}); done) (hy : St.ev ⟨e, L, H⟩ y = vy := by (conv => {lhs; whnf}); done) (hr : binV P op t vx vy = r := by (conv => {lhs; whnf}); done) : opX P cfg ⟨some dd, .binOp op t x y t', ty, pos, aft, gd⟩ K ⟨e, L, H⟩ := b_bin hx hy hr h
end
section
variable {P : Program} {cfg : Cfg} {dr : Array Oper → (St → Prop) → St → Prop} {e : List (Nat × EV)} {L : List (Nat × List AV)} {H : List (List AV)} {Q : XE → St → Prop} {K : St → Prop}
variable {kn : Option (Nat × Bool)} {ops : Array Oper} {d : Option Tmp} {o : Op} {ty : TypeId} {pos : String} {aft : Array Edge} {rest : List Oper} {j : Nat} {b want : Bool} {gd : Option (Nat × Bool)} {dd : Nat}
theorem m01 {t : TypeId} {x : Operand} {vx : EV} {r : Option (List AV)} {cs : List AV} (h : K ⟨(dd, .loc dd 0) :: e, (dd, cs) :: L, H⟩) (hx : St.ev ⟨e, L, H⟩ x = vx := by (conv => {lhs; whnf}); done) (hr : vx.asV.bind AV.cells = r := by exact rfl) (hcs : r = some cs := by exact rfl) (hesc : cfg.esc = false := by exact rfl) (hn : noLoc dd e = true := by exact rfl) : opX P cfg ⟨some dd, .box t x, ty, pos, aft, gd⟩ K ⟨e, L, H⟩ := b_box hx hr hcs hesc hn h
end
section
variable {P : Program} {cfg : Cfg} {dr : Array Oper → (St → Prop) → St → Prop} {e : List (Nat × EV)} {L : List (Nat × List AV)} {H : List (List AV)} {Q : XE → St → Prop} {K : St → Prop}
variable {kn : Option (Nat × Bool)} {ops : Array Oper} {d : Option Tmp} {o : Op} {ty : TypeId} {pos : String} {aft : Array Edge} {rest : List Oper} {j : Nat} {b want : Bool} {gd : Option (Nat × Bool)} {dd : Nat}
theorem m02 {x t n : Nat} {rs : List ResultVar} {acc : List AV} {k : List AV → Prop} [ti : TyI P t n true] {key off : Nat} {cs l : List AV} (h : rK P rs (acc ++ [.agg l]) k ⟨e, L, H⟩) (hx : St.ev ⟨e, L, H⟩ (.tmp x) = .loc key off := by (conv => {lhs; whnf}); done) (hc : lk L key = some cs := by exact rfl) (hl : gc cs off n = some l := by exact rfl) : rK P (.cell x t :: rs) acc k ⟨e, L, H⟩ := rk_cellA hx hc hl h
end
section
variable {P : Program} {cfg : Cfg} {dr : Array Oper → (St → Prop) → St → Prop} {e : List (Nat × EV)} {L : List (Nat × List AV)} {H : List (List AV)} {Q : XE → St → Prop} {K : St → Prop}
variable {kn : Option (Nat × Bool)} {ops : Array Oper} {d : Option Tmp} {o : Op} {ty : TypeId} {pos : String} {aft : Array Edge} {rest : List Oper} {j : Nat} {b want : Bool} {gd : Option (Nat × Bool)} {dd : Nat}
theorem m03 {x t : Nat} {rs : List ResultVar} {acc : List AV} {k : List AV → Prop} [ti : TyI P t 1 false] {key off : Nat} {cs : List AV} {v : AV} (h : rK P rs (acc ++ [v]) k ⟨e, L, H⟩) (hx : St.ev ⟨e, L, H⟩ (.tmp x) = .loc key off := by (conv => {lhs; whnf}); done) (hc : lk L key = some cs := by exact rfl) (hl : cs[off]? = some v := by exact rfl) : rK P (.cell x t :: rs) acc k ⟨e, L, H⟩ := rk_cell1 hx hc hl h
end
section
variable {P : Program} {cfg : Cfg} {dr : Array Oper → (St → Prop) → St → Prop} {e : List (Nat × EV)} {L : List (Nat × List AV)} {H : List (List AV)} {Q : XE → St → Prop} {K : St → Prop}
variable {kn : Option (Nat × Bool)} {ops : Array Oper} {d : Option Tmp} {o : Op} {ty : TypeId} {pos : String} {aft : Array Edge} {rest : List Oper} {j : Nat} {b want : Bool} {gd : Option (Nat × Bool)} {dd : Nat}
theorem m04 {t : Nat} {rs : List ResultVar} {acc : List AV} {k : List AV → Prop} {v : AV} (h : rK P rs (acc ++ [v]) k ⟨e, L, H⟩) (hv : St.ev ⟨e, L, H⟩ (.tmp t) = .val v := by (conv => {lhs; whnf}); done) : rK P (.tmp t :: rs) acc k ⟨e, L, H⟩ := rk_tmp hv h
end
section
variable {P : Program} {cfg : Cfg} {dr : Array Oper → (St → Prop) → St → Prop} {e : List (Nat × EV)} {L : List (Nat × List AV)} {H : List (List AV)} {Q : XE → St → Prop} {K : St → Prop}
variable {kn : Option (Nat × Bool)} {ops : Array Oper} {d : Option Tmp} {o : Op} {ty : TypeId} {pos : String} {aft : Array Edge} {rest : List Oper} {j : Nat} {b want : Bool} {gd : Option (Nat × Bool)} {dd : Nat}
theorem m05 {fn : Func} {H₀ H' : List (List AV)} {r : AV} {x : XE} {rs : List ResultVar} (h : rK P rs [] (RetV H₀ r H' H) ⟨e, L, H⟩) (hx : x = .ret ∨ x = .normal := by simp) (hf : fn.results.toList = rs := by (conv => {lhs; whnf}); done) : RetQ P fn H₀ r H' x ⟨e, L, H⟩ := b_retK hx hf h
end
section
variable {P : Program} {cfg : Cfg} {dr : Array Oper → (St → Prop) → St → Prop} {e : List (Nat × EV)} {L : List (Nat × List AV)} {H : List (List AV)} {Q : XE → St → Prop} {K : St → Prop}
variable {kn : Option (Nat × Bool)} {ops : Array Oper} {d : Option Tmp} {o : Op} {ty : TypeId} {pos : String} {aft : Array Edge} {rest : List Oper} {j : Nat} {b want : Bool} {gd : Option (Nat × Bool)} {dd : Nat}
theorem m06 {c : Operand} {x y : Code} {v : EV} (h : condK P cfg dr x y Q ⟨e, L, H⟩ v) (hv : St.ev ⟨e, L, H⟩ c = v := by (conv => {lhs; whnf}); done) : Ex P cfg dr (.cond c x y) Q ⟨e, L, H⟩ := b_cond hv h
end
section
variable {P : Program} {cfg : Cfg} {dr : Array Oper → (St → Prop) → St → Prop} {e : List (Nat × EV)} {L : List (Nat × List AV)} {H : List (List AV)} {Q : XE → St → Prop} {K : St → Prop}
variable {kn : Option (Nat × Bool)} {ops : Array Oper} {d : Option Tmp} {o : Op} {ty : TypeId} {pos : String} {aft : Array Edge} {rest : List Oper} {j : Nat} {b want : Bool} {gd : Option (Nat × Bool)} {dd : Nat}
theorem m07 {t : TypeId} {x : Operand} {v : EV} (h : loadK P t dd K ⟨e, L, H⟩ v) (hv : St.ev ⟨e, L, H⟩ x = v := by (conv => {lhs; whnf}); done) : opX P cfg ⟨some dd, .load t x, ty, pos, aft, gd⟩ K ⟨e, L, H⟩ := b_load hv h
end
section
variable {P : Program} {cfg : Cfg} {dr : Array Oper → (St → Prop) → St → Prop} {e : List (Nat × EV)} {L : List (Nat × List AV)} {H : List (List AV)} {Q : XE → St → Prop} {K : St → Prop}
variable {kn : Option (Nat × Bool)} {ops : Array Oper} {d : Option Tmp} {o : Op} {ty : TypeId} {pos : String} {aft : Array Edge} {rest : List Oper} {j : Nat} {b want : Bool} {gd : Option (Nat × Bool)} {dd : Nat}
theorem m08 {x : Operand} {v : EV} (h : K ⟨(dd, v) :: e, L, H⟩) (hv : St.ev ⟨e, L, H⟩ x = v := by (conv => {lhs; whnf}); done) : opX P cfg ⟨some dd, .assign x, ty, pos, aft, gd⟩ K ⟨e, L, H⟩ := b_assign hv h
end
section
variable {P : Program} {cfg : Cfg} {dr : Array Oper → (St → Prop) → St → Prop} {e : List (Nat × EV)} {L : List (Nat × List AV)} {H : List (List AV)} {Q : XE → St → Prop} {K : St → Prop}
variable {kn : Option (Nat × Bool)} {ops : Array Oper} {d : Option Tmp} {o : Op} {ty : TypeId} {pos : String} {aft : Array Edge} {rest : List Oper} {j : Nat} {b want : Bool} {gd : Option (Nat × Bool)} {dd : Nat}
theorem m09 {t j' : Nat} {b' : Bool} {v : EV} (h : guardK P cfg ops ⟨d, o, ty, pos, aft, some (j, want)⟩ j want t rest K ⟨e, L, H⟩ v) (ht : (ops[j]?).bind (·.dst) = some t := by exact rfl) (hd : (d == some t) = false := by exact rfl) (hj : (j' == j) = false := by exact rfl) (hv : St.ev ⟨e, L, H⟩ (.tmp t) = v := by (conv => {lhs; whnf}); done) : exOps P cfg ops (some (j', b')) (⟨d, o, ty, pos, aft, some (j, want)⟩ :: rest) K ⟨e, L, H⟩ := b_g1 ht hd hj hv h
end
section
variable {P : Program} {cfg : Cfg} {dr : Array Oper → (St → Prop) → St → Prop} {e : List (Nat × EV)} {L : List (Nat × List AV)} {H : List (List AV)} {Q : XE → St → Prop} {K : St → Prop}
variable {kn : Option (Nat × Bool)} {ops : Array Oper} {d : Option Tmp} {o : Op} {ty : TypeId} {pos : String} {aft : Array Edge} {rest : List Oper} {j : Nat} {b want : Bool} {gd : Option (Nat × Bool)} {dd : Nat}
theorem m10 {t : Nat} {v : EV} (h : guardK P cfg ops ⟨d, o, ty, pos, aft, some (j, want)⟩ j want t rest K ⟨e, L, H⟩ v) (ht : (ops[j]?).bind (·.dst) = some t := by exact rfl) (hd : (d == some t) = false := by exact rfl) (hv : St.ev ⟨e, L, H⟩ (.tmp t) = v := by (conv => {lhs; whnf}); done) : exOps P cfg ops none (⟨d, o, ty, pos, aft, some (j, want)⟩ :: rest) K ⟨e, L, H⟩ := b_g0 ht hd hv h
end
section
variable {P : Program} {cfg : Cfg} {dr : Array Oper → (St → Prop) → St → Prop} {e : List (Nat × EV)} {L : List (Nat × List AV)} {H : List (List AV)} {Q : XE → St → Prop} {K : St → Prop}
variable {kn : Option (Nat × Bool)} {ops : Array Oper} {d : Option Tmp} {o : Op} {ty : TypeId} {pos : String} {aft : Array Edge} {rest : List Oper} {j : Nat} {b want : Bool} {gd : Option (Nat × Bool)} {dd : Nat}
theorem m11 {t : Nat} (h : exOps P cfg ops kn rest K ⟨(dd, .val (.tup [])) :: e, L, H⟩) (ht : (ops[j]?).bind (·.dst) = some t := by exact rfl) (hd : (dd == t) = false := by exact rfl) (hk : kn ≠ some (j, want) ∧ kn ≠ some (j, !want) := by constructor <;> simp) (hv : St.ev ⟨e, L, H⟩ (.tmp t) = .val (.tup []) := by exact rfl) (hn : kn.any (fun p => ((ops[p.1]?).bind (·.dst)) == some dd) = false := by exact rfl) : exOps P cfg ops kn (⟨some dd, o, ty, pos, aft, some (j, want)⟩ :: rest) K ⟨e, L, H⟩ := b_gU ht hd hk hv hn h
end
section
variable {P : Program} {cfg : Cfg} {dr : Array Oper → (St → Prop) → St → Prop} {e : List (Nat × EV)} {L : List (Nat × List AV)} {H : List (List AV)} {Q : XE → St → Prop} {K : St → Prop}
variable {kn : Option (Nat × Bool)} {ops : Array Oper} {d : Option Tmp} {o : Op} {ty : TypeId} {pos : String} {aft : Array Edge} {rest : List Oper} {j : Nat} {b want : Bool} {gd : Option (Nat × Bool)} {dd : Nat}
theorem m12 {t : Nat} (h : exOps P cfg ops (some (j, b)) rest K ⟨(dd, .val (.tup [])) :: e, L, H⟩) (ht : (ops[j]?).bind (·.dst) = some t := by exact rfl) (hd : (dd == t) = false := by exact rfl) (hb : b = !want := by exact rfl) : exOps P cfg ops (some (j, b)) (⟨some dd, o, ty, pos, aft, some (j, want)⟩ :: rest) K ⟨e, L, H⟩ := b_gF ht hd hb h
end
section
variable {P : Program} {cfg : Cfg} {dr : Array Oper → (St → Prop) → St → Prop} {e : List (Nat × EV)} {L : List (Nat × List AV)} {H : List (List AV)} {Q : XE → St → Prop} {K : St → Prop}
variable {kn : Option (Nat × Bool)} {ops : Array Oper} {d : Option Tmp} {o : Op} {ty : TypeId} {pos : String} {aft : Array Edge} {rest : List Oper} {j : Nat} {b want : Bool} {gd : Option (Nat × Bool)} {dd : Nat}
theorem m13 {t : Nat} (h : opX P cfg ⟨d, o, ty, pos, aft, some (j, want)⟩ (exOps P cfg ops (some (j, want)) rest K) ⟨e, L, H⟩) (ht : (ops[j]?).bind (·.dst) = some t := by exact rfl) (hd : (d == some t) = false := by exact rfl) : exOps P cfg ops (some (j, want)) (⟨d, o, ty, pos, aft, some (j, want)⟩ :: rest) K ⟨e, L, H⟩ := b_gT ht hd h
end
section
variable {P : Program} {cfg : Cfg} {dr : Array Oper → (St → Prop) → St → Prop} {e : List (Nat × EV)} {L : List (Nat × List AV)} {H : List (List AV)} {Q : XE → St → Prop} {K : St → Prop}
variable {kn : Option (Nat × Bool)} {ops : Array Oper} {d : Option Tmp} {o : Op} {ty : TypeId} {pos : String} {aft : Array Edge} {rest : List Oper} {j : Nat} {b want : Bool} {gd : Option (Nat × Bool)} {dd : Nat}
theorem m14 {x : Operand} {v : EV} (h : K ⟨(dd, v) :: e, L, H⟩) (hv : St.ev ⟨e, L, H⟩ x = v := by (conv => {lhs; whnf}); done) : opX P cfg ⟨some dd, .move x, ty, pos, aft, gd⟩ K ⟨e, L, H⟩ := b_move hv h
end
section
variable {P : Program} {cfg : Cfg} {dr : Array Oper → (St → Prop) → St → Prop} {e : List (Nat × EV)} {L : List (Nat × List AV)} {H : List (List AV)} {Q : XE → St → Prop} {K : St → Prop}
variable {kn : Option (Nat × Bool)} {ops : Array Oper} {d : Option Tmp} {o : Op} {ty : TypeId} {pos : String} {aft : Array Edge} {rest : List Oper} {j : Nat} {b want : Bool} {gd : Option (Nat × Bool)} {dd : Nat}
theorem m15 {t : TypeId} {key off : Nat} {cs : List AV} {c : AV} [i : TyI P t 1 false] (hk : K ⟨(dd, .val c) :: e, L, H⟩) (h1 : lk L key = some cs := by exact rfl) (h2 : cs[off]? = some c := by exact rfl) : loadK P t dd K ⟨e, L, H⟩ (.loc key off) := l_loc1 h1 h2 hk
end
section
variable {P : Program} {cfg : Cfg} {dr : Array Oper → (St → Prop) → St → Prop} {e : List (Nat × EV)} {L : List (Nat × List AV)} {H : List (List AV)} {Q : XE → St → Prop} {K : St → Prop}
variable {kn : Option (Nat × Bool)} {ops : Array Oper} {d : Option Tmp} {o : Op} {ty : TypeId} {pos : String} {aft : Array Edge} {rest : List Oper} {j : Nat} {b want : Bool} {gd : Option (Nat × Bool)} {dd : Nat}
theorem m16 {t : TypeId} {key off n : Nat} {cs l : List AV} [i : TyI P t n true] (hk : K ⟨(dd, .val (.agg l)) :: e, L, H⟩) (h1 : lk L key = some cs := by exact rfl) (h2 : gc cs off n = some l := by exact rfl) : loadK P t dd K ⟨e, L, H⟩ (.loc key off) := l_locA h1 h2 hk
end
section
variable {P : Program} {cfg : Cfg} {dr : Array Oper → (St → Prop) → St → Prop} {e : List (Nat × EV)} {L : List (Nat × List AV)} {H : List (List AV)} {Q : XE → St → Prop} {K : St → Prop}
variable {kn : Option (Nat × Bool)} {ops : Array Oper} {d : Option Tmp} {o : Op} {ty : TypeId} {pos : String} {aft : Array Edge} {rest : List Oper} {j : Nat} {b want : Bool} {gd : Option (Nat × Bool)} {dd : Nat}
theorem m17 {t : TypeId} {x : Operand} {i off : Nat} {ft : TypeId} [fi : FldI P t i off ft] {v : EV} (h : faK dd K off ⟨e, L, H⟩ v) (hv : St.ev ⟨e, L, H⟩ x = v := by (conv => {lhs; whnf}); done) : opX P cfg ⟨some dd, .fieldAddr t x i, ty, pos, aft, gd⟩ K ⟨e, L, H⟩ := b_fa hv h
end
section
variable {P : Program} {cfg : Cfg} {dr : Array Oper → (St → Prop) → St → Prop} {e : List (Nat × EV)} {L : List (Nat × List AV)} {H : List (List AV)} {Q : XE → St → Prop} {K : St → Prop}
variable {kn : Option (Nat × Bool)} {ops : Array Oper} {d : Option Tmp} {o : Op} {ty : TypeId} {pos : String} {aft : Array Edge} {rest : List Oper} {j : Nat} {b want : Bool} {gd : Option (Nat × Bool)} {dd : Nat}
theorem m18 {s : AV} {off o m : Nat} (h : K ⟨(dd, .val (.eptr s m)) :: e, L, H⟩) (hm : off + o = m := by (conv => {lhs; whnf}); done) : faK dd K o ⟨e, L, H⟩ (.val (.eptr s off)) := f_ptr hm h
end
section
variable {P : Program} {cfg : Cfg} {dr : Array Oper → (St → Prop) → St → Prop} {e : List (Nat × EV)} {L : List (Nat × List AV)} {H : List (List AV)} {Q : XE → St → Prop} {K : St → Prop}
variable {kn : Option (Nat × Bool)} {ops : Array Oper} {d : Option Tmp} {o : Op} {ty : TypeId} {pos : String} {aft : Array Edge} {rest : List Oper} {j : Nat} {b want : Bool} {gd : Option (Nat × Bool)} {dd : Nat}
theorem m19 {key off o m : Nat} (h : K ⟨(dd, .loc key m) :: e, L, H⟩) (hm : off + o = m := by (conv => {lhs; whnf}); done) : faK dd K o ⟨e, L, H⟩ (.loc key off) := f_loc hm h
end
section
variable {P : Program} {cfg : Cfg} {dr : Array Oper → (St → Prop) → St → Prop} {e : List (Nat × EV)} {L : List (Nat × List AV)} {H : List (List AV)} {Q : XE → St → Prop} {K : St → Prop}
variable {kn : Option (Nat × Bool)} {ops : Array Oper} {d : Option Tmp} {o : Op} {ty : TypeId} {pos : String} {aft : Array Edge} {rest : List Oper} {j : Nat} {b want : Bool} {gd : Option (Nat × Bool)} {dd : Nat}
theorem m20 {op : UnOp} {t : TypeId} {x : Operand} {vx : EV} {r : Option (Prop × AV)} (h : valK dd K ⟨e, L, H⟩ r) (hx : St.ev ⟨e, L, H⟩ x = vx := by (conv => {lhs; whnf}); done) (hr : unV op vx = r := by (conv => {lhs; whnf}); done) : opX P cfg ⟨some dd, .unOp op t x, ty, pos, aft, gd⟩ K ⟨e, L, H⟩ := b_un hx hr h
end
section
theorem m21 {P : Program} {cfg : Cfg} {e : List (Nat × EV)} {L : List (Nat × List AV)} {H : List (List AV)} {K : St → Prop} {dd id : Nat} {acc : List AV} {x : Operand} {xs : List Operand} {v : AV} (h : argK P cfg id xs (acc ++ [v]) dd K ⟨e, L, H⟩) (hv : St.ev ⟨e, L, H⟩ x = .val v := by (conv => {lhs; whnf}); done) : argK P cfg id (x :: xs) acc dd K ⟨e, L, H⟩ := a_cons hv h
end
section
variable {P : Program} {cfg : Cfg} {dr : Array Oper → (St → Prop) → St → Prop} {e : List (Nat × EV)} {L : List (Nat × List AV)} {H : List (List AV)} {Q : XE → St → Prop} {K : St → Prop}
variable {kn : Option (Nat × Bool)} {ops : Array Oper} {d : Option Tmp} {o : Op} {ty : TypeId} {pos : String} {aft : Array Edge} {rest : List Oper} {j : Nat} {b want : Bool} {gd : Option (Nat × Bool)} {dd : Nat}
theorem m22 {x y z : Operand} {v : EV} (h : pickK dd K y z ⟨e, L, H⟩ v) (hv : St.ev ⟨e, L, H⟩ x = v := by (conv => {lhs; whnf}); done) : opX P cfg ⟨some dd, .pick x y z, ty, pos, aft, gd⟩ K ⟨e, L, H⟩ := b_pick hv h
end
section
variable {P : Program} {cfg : Cfg} {e e' : List (Nat × EV)} {L : List (Nat × List AV)} {H : List (List AV)} {Q : XE → St → Prop} {K : St → Prop}
variable {kn : Option (Nat × Bool)} {ops : Array Oper} {nY : NY} {d : Option Tmp} {o : Op} {ty : TypeId} {pos : String} {aft : Array Edge} {rest : List (Nat × DFl)} {i j : Nat} {f : DFl} {b want : Bool} {gd : Option (Nat × Bool)} {dd : Nat}
theorem m23 {x : Operand} {n : Nat} {vs : List AV} {v : AV} (h : K ⟨(dd, .val v) :: e, L, H⟩) (hx : St.ev ⟨e, L, H⟩ x = .val (.tup vs) := by (conv => {lhs; whnf}); done) (hv : vs[n]? = some v := by exact rfl) : opX P cfg ⟨some dd, .extract x n, ty, pos, aft, gd⟩ K ⟨e, L, H⟩ := b_ext hx hv h
end
section
variable {P : Program} {cfg : Cfg} {dr : Array Oper → (St → Prop) → St → Prop} {e : List (Nat × EV)} {L : List (Nat × List AV)} {H : List (List AV)} {Q : XE → St → Prop} {K : St → Prop}
variable {kn : Option (Nat × Bool)} {ops : Array Oper} {d : Option Tmp} {o : Op} {ty : TypeId} {pos : String} {aft : Array Edge} {rest : List Oper} {j : Nat} {b want : Bool} {gd : Option (Nat × Bool)} {dd : Nat}
theorem m24 {t : TypeId} {cs : List AV} [z : ZI P t cs] (h : K ⟨(dd, .loc dd 0) :: e, (dd, cs) :: L, H⟩) (hesc : cfg.esc = false := by exact rfl) (hn : noLoc dd e = true := by exact rfl) : opX P cfg ⟨some dd, .alloc t, ty, pos, aft, gd⟩ K ⟨e, L, H⟩ := b_alloc hesc hn h
end
section
variable {P : Program} {cfg : Cfg} {e e' : List (Nat × EV)} {L : List (Nat × List AV)} {H : List (List AV)} {Q : XE → St → Prop} {K : St → Prop}
variable {kn : Option (Nat × Bool)} {ops : Array Oper} {nY : NY} {d : Option Tmp} {o : Op} {ty : TypeId} {pos : String} {aft : Array Edge} {rest : List (Nat × DFl)} {i j : Nat} {f : DFl} {b want : Bool} {gd : Option (Nat × Bool)} {dd : Nat}
theorem m25 {t : TypeId} {x v : Operand} {key off n : Nat} {a : Bool} {cs vs cs' : List AV} [ti : TyI P t n a] {ev : EV} (h : K ⟨e, (key, cs') :: L, H⟩) (hx : St.ev ⟨e, L, H⟩ x = .loc key off := by (conv => {lhs; whnf}); done) (hv : St.ev ⟨e, L, H⟩ v = ev := by (conv => {lhs; whnf}); done) (hvs : ev.asV.bind AV.cells = some vs := by first | exact rfl | exact cells_of_len (FL.len (by assumption)) | exact cells_of_len (IL.len (by assumption)) | fail) (hn : vs.length = n := by exact rfl) (hc : lk L key = some cs := by exact rfl) (hle : off + vs.length ≤ cs.length := by exact Nat.le_of_ble_eq_true rfl) (hcs : sc cs off vs = cs' := by (conv => {lhs; simp only [sc, List.set_cons_zero, List.set_cons_succ]}); done) : opX P cfg ⟨none, .store t x v, ty, pos, aft, gd⟩ K ⟨e, L, H⟩ := b_stL hx hv hvs hn hc hle hcs h
end
section
variable {P : Program} {cfg : Cfg} {dr : Array Oper → (St → Prop) → St → Prop} {e : List (Nat × EV)} {L : List (Nat × List AV)} {H : List (List AV)} {Q : XE → St → Prop} {K : St → Prop}
variable {kn : Option (Nat × Bool)} {ops : Array Oper} {d : Option Tmp} {o : Op} {ty : TypeId} {pos : String} {aft : Array Edge} {rest : List Oper} {j : Nat} {b want : Bool} {gd : Option (Nat × Bool)} {dd : Nat}
theorem m26 {y z : Operand} {v : EV} (h : K ⟨(dd, v) :: e, L, H⟩) (hv : St.ev ⟨e, L, H⟩ y = v := by (conv => {lhs; whnf}); done) : pickK dd K y z ⟨e, L, H⟩ (.val (.bool true)) := p_T hv h
end
section
variable {P : Program} {cfg : Cfg} {dr : Array Oper → (St → Prop) → St → Prop} {e : List (Nat × EV)} {L : List (Nat × List AV)} {H : List (List AV)} {Q : XE → St → Prop} {K : St → Prop}
variable {kn : Option (Nat × Bool)} {ops : Array Oper} {d : Option Tmp} {o : Op} {ty : TypeId} {pos : String} {aft : Array Edge} {rest : List Oper} {j : Nat} {b want : Bool} {gd : Option (Nat × Bool)} {dd : Nat}
theorem m27 {y z : Operand} {v : EV} (h : K ⟨(dd, v) :: e, L, H⟩) (hv : St.ev ⟨e, L, H⟩ z = v := by (conv => {lhs; whnf}); done) : pickK dd K y z ⟨e, L, H⟩ (.val (.bool false)) := p_F hv h
end
section
variable {P : Program} {cfg : Cfg} {e e' : List (Nat × EV)} {L : List (Nat × List AV)} {H : List (List AV)} {Q : XE → St → Prop} {K : St → Prop}
variable {kn : Option (Nat × Bool)} {ops : Array Oper} {nY : NY} {d : Option Tmp} {o : Op} {ty : TypeId} {pos : String} {aft : Array Edge} {rest : List (Nat × DFl)} {i j : Nat} {f : DFl} {b want : Bool} {gd : Option (Nat × Bool)} {dd : Nat}
theorem m28 {t : Nat} {v : EV} (h : guardD P cfg ops nY f ⟨d, o, ty, pos, aft, some (j, want)⟩ j want t rest K ⟨e, L, H⟩ v) (ho : ops[i]? = some ⟨d, o, ty, pos, aft, some (j, want)⟩ := by exact rfl) (ht : (ops[j]?).bind (·.dst) = some t := by exact rfl) (hd : (d == some t) = false := by exact rfl) (hv : St.ev ⟨e, L, H⟩ (.tmp t) = v := by (conv => {lhs; whnf}); done) : exD P cfg ops nY none ((i, f) :: rest) K ⟨e, L, H⟩ := d_g0 ho ht hd hv h
end
section
variable {P : Program} {cfg : Cfg} {e e' : List (Nat × EV)} {L : List (Nat × List AV)} {H : List (List AV)} {Q : XE → St → Prop} {K : St → Prop}
variable {kn : Option (Nat × Bool)} {ops : Array Oper} {nY : NY} {d : Option Tmp} {o : Op} {ty : TypeId} {pos : String} {aft : Array Edge} {rest : List (Nat × DFl)} {i j : Nat} {f : DFl} {b want : Bool} {gd : Option (Nat × Bool)} {dd : Nat}
theorem m29 {t j' : Nat} {b' : Bool} {v : EV} (h : guardD P cfg ops nY f ⟨d, o, ty, pos, aft, some (j, want)⟩ j want t rest K ⟨e, L, H⟩ v) (ho : ops[i]? = some ⟨d, o, ty, pos, aft, some (j, want)⟩ := by exact rfl) (ht : (ops[j]?).bind (·.dst) = some t := by exact rfl) (hd : (d == some t) = false := by exact rfl) (hj : (j' == j) = false := by exact rfl) (hv : St.ev ⟨e, L, H⟩ (.tmp t) = v := by (conv => {lhs; whnf}); done) : exD P cfg ops nY (some (j', b')) ((i, f) :: rest) K ⟨e, L, H⟩ := d_g1 ho ht hd hj hv h
end
section
variable {P : Program} {cfg : Cfg} {e e' : List (Nat × EV)} {L : List (Nat × List AV)} {H : List (List AV)} {Q : XE → St → Prop} {K : St → Prop}
variable {kn : Option (Nat × Bool)} {ops : Array Oper} {nY : NY} {d : Option Tmp} {o : Op} {ty : TypeId} {pos : String} {aft : Array Edge} {rest : List (Nat × DFl)} {i j : Nat} {f : DFl} {b want : Bool} {gd : Option (Nat × Bool)} {dd : Nat}
theorem m30 {t : Nat} (h : exD P cfg ops nY kn rest K ⟨(dd, .val (.tup [])) :: e, L, H⟩) (ho : ops[i]? = some ⟨some dd, o, ty, pos, aft, some (j, want)⟩ := by exact rfl) (ht : (ops[j]?).bind (·.dst) = some t := by exact rfl) (hd : (dd == t) = false := by exact rfl) (hk : kn ≠ some (j, want) ∧ kn ≠ some (j, !want) := by constructor <;> simp) (hv : St.ev ⟨e, L, H⟩ (.tmp t) = .val (.tup []) := by exact rfl) (hn : kn.any (fun p => ((ops[p.1]?).bind (·.dst)) == some dd) = false := by exact rfl) : exD P cfg ops nY kn ((i, f) :: rest) K ⟨e, L, H⟩ := d_gU ho ht hd hk hv hn h
end
section
variable {P : Program} {cfg : Cfg} {e e' : List (Nat × EV)} {L : List (Nat × List AV)} {H : List (List AV)} {Q : XE → St → Prop} {K : St → Prop}
variable {kn : Option (Nat × Bool)} {ops : Array Oper} {nY : NY} {d : Option Tmp} {o : Op} {ty : TypeId} {pos : String} {aft : Array Edge} {rest : List (Nat × DFl)} {i j : Nat} {f : DFl} {b want : Bool} {gd : Option (Nat × Bool)} {dd : Nat}
theorem m31 {t : Nat} (h : exD P cfg ops nY (some (j, b)) rest K ⟨(dd, .val (.tup [])) :: e, L, H⟩) (ho : ops[i]? = some ⟨some dd, o, ty, pos, aft, some (j, want)⟩ := by exact rfl) (ht : (ops[j]?).bind (·.dst) = some t := by exact rfl) (hd : (dd == t) = false := by exact rfl) (hb : b = !want := by exact rfl) : exD P cfg ops nY (some (j, b)) ((i, f) :: rest) K ⟨e, L, H⟩ := d_gF ho ht hd hb h
end
section
variable {P : Program} {cfg : Cfg} {e e' : List (Nat × EV)} {L : List (Nat × List AV)} {H : List (List AV)} {Q : XE → St → Prop} {K : St → Prop}
variable {kn : Option (Nat × Bool)} {ops : Array Oper} {nY : NY} {d : Option Tmp} {o : Op} {ty : TypeId} {pos : String} {aft : Array Edge} {rest : List (Nat × DFl)} {i j : Nat} {f : DFl} {b want : Bool} {gd : Option (Nat × Bool)} {dd : Nat}
theorem m32 {t : Nat} (h : opX P cfg ⟨d, o, ty, pos, aft, some (j, want)⟩ (ckK f nY ⟨d, o, ty, pos, aft, some (j, want)⟩ ⟨e, L, H⟩ (exD P cfg ops nY (some (j, want)) rest K)) ⟨e, L, H⟩) (ho : ops[i]? = some ⟨d, o, ty, pos, aft, some (j, want)⟩ := by exact rfl) (ht : (ops[j]?).bind (·.dst) = some t := by exact rfl) (hd : (d == some t) = false := by exact rfl) : exD P cfg ops nY (some (j, want)) ((i, f) :: rest) K ⟨e, L, H⟩ := d_gT ho ht hd h
end
section
variable {P : Program} {cfg : Cfg} {e e' : List (Nat × EV)} {L : List (Nat × List AV)} {H : List (List AV)} {Q : XE → St → Prop} {K : St → Prop}
variable {kn : Option (Nat × Bool)} {ops : Array Oper} {nY : NY} {d : Option Tmp} {o : Op} {ty : TypeId} {pos : String} {aft : Array Edge} {rest : List (Nat × DFl)} {i j : Nat} {f : DFl} {b want : Bool} {gd : Option (Nat × Bool)} {dd : Nat}
theorem m33 {hl : Bool} {op : BinOp} {t t' : TypeId} {x y : Operand} {st s : St} {v : EV} (h : K s) (hv : St.ev st x = v := by (conv => {lhs; whnf}); done) (hk : (hl || !isEp v) = true := by exact rfl) : ckK (.ld hl) nY ⟨d, .binOp op t x y t', ty, pos, aft, gd⟩ st K s := k_bin hv hk h
end
section
variable {P : Program} {cfg : Cfg} {e e' : List (Nat × EV)} {L : List (Nat × List AV)} {H : List (List AV)} {Q : XE → St → Prop} {K : St → Prop}
variable {kn : Option (Nat × Bool)} {ops : Array Oper} {nY : NY} {d : Option Tmp} {o : Op} {ty : TypeId} {pos : String} {aft : Array Edge} {rest : List (Nat × DFl)} {i j : Nat} {f : DFl} {b want : Bool} {gd : Option (Nat × Bool)} {dd : Nat}
theorem m34 {hl : Bool} {t : TypeId} {x : Operand} {st s : St} {v : EV} (h : K s) (hv : St.ev st x = v := by (conv => {lhs; whnf}); done) (hk : ldOk nY hl v = true := by exact rfl) : ckK (.ld hl) nY ⟨d, .load t x, ty, pos, aft, gd⟩ st K s := k_ld hv hk h
end
section
theorem m35 {nY : NY} {K : St → Prop} {d : Option Tmp} {ty : TypeId} {pos : String} {aft : Array Edge} {gd : Option (Nat × Bool)} {t : TypeId} {x : Operand} {st s : St} {v : AV} (h : K s) (hv : St.ev st x = .val v := by (conv => {lhs; whnf}); done) : ckK (.ld true) nY ⟨d, .load t x, ty, pos, aft, gd⟩ st K s := k_ldT hv h
end
section
variable {P : Program} {cfg : Cfg} {e e' : List (Nat × EV)} {L : List (Nat × List AV)} {H : List (List AV)} {Q : XE → St → Prop} {K : St → Prop}
variable {kn : Option (Nat × Bool)} {ops : Array Oper} {nY : NY} {d : Option Tmp} {o : Op} {ty : TypeId} {pos : String} {aft : Array Edge} {rest : List (Nat × DFl)} {i j : Nat} {f : DFl} {b want : Bool} {gd : Option (Nat × Bool)} {dd : Nat}
theorem m36  (h : opX P cfg ⟨d, o, ty, pos, aft, none⟩ (ckK f nY ⟨d, o, ty, pos, aft, none⟩ ⟨e, L, H⟩ (exD P cfg ops nY none rest K)) ⟨e, L, H⟩) (ho : ops[i]? = some ⟨d, o, ty, pos, aft, none⟩ := by exact rfl) : exD P cfg ops nY none ((i, f) :: rest) K ⟨e, L, H⟩ := d_c0 ho h
end
section
variable {P : Program} {cfg : Cfg} {e e' : List (Nat × EV)} {L : List (Nat × List AV)} {H : List (List AV)} {Q : XE → St → Prop} {K : St → Prop}
variable {kn : Option (Nat × Bool)} {ops : Array Oper} {nY : NY} {d : Option Tmp} {o : Op} {ty : TypeId} {pos : String} {aft : Array Edge} {rest : List (Nat × DFl)} {i j : Nat} {f : DFl} {b want : Bool} {gd : Option (Nat × Bool)} {dd : Nat}
theorem m37  (h : opX P cfg ⟨d, o, ty, pos, aft, none⟩ (ckK f nY ⟨d, o, ty, pos, aft, none⟩ ⟨e, L, H⟩ (exD P cfg ops nY (some (j, b)) rest K)) ⟨e, L, H⟩) (ho : ops[i]? = some ⟨d, o, ty, pos, aft, none⟩ := by exact rfl) (hj : (((ops[j]?).bind (·.dst)) == d) = false := by exact rfl) : exD P cfg ops nY (some (j, b)) ((i, f) :: rest) K ⟨e, L, H⟩ := d_c1 ho hj h
end
section
variable {P : Program} {cfg : Cfg} {dr : Array Oper → (St → Prop) → St → Prop} {e : List (Nat × EV)} {L : List (Nat × List AV)} {H : List (List AV)} {Q : XE → St → Prop} {K : St → Prop}
variable {kn : Option (Nat × Bool)} {ops : Array Oper} {d : Option Tmp} {o : Op} {ty : TypeId} {pos : String} {aft : Array Edge} {rest : List Oper} {j : Nat} {b want : Bool} {gd : Option (Nat × Bool)} {dd : Nat}
theorem m38  (h : opX P cfg ⟨d, o, ty, pos, aft, none⟩ (exOps P cfg ops (some (j, b)) rest K) ⟨e, L, H⟩) (hj : (((ops[j]?).bind (·.dst)) == d) = false := by exact rfl) : exOps P cfg ops (some (j, b)) (⟨d, o, ty, pos, aft, none⟩ :: rest) K ⟨e, L, H⟩ := b_c1 hj h
end
section
variable {P : Program} {cfg : Cfg} {dr : Array Oper → (St → Prop) → St → Prop} {e : List (Nat × EV)} {L : List (Nat × List AV)} {H : List (List AV)} {Q : XE → St → Prop} {K : St → Prop}
variable {d : Option Tmp} {ty : TypeId} {pos : String} {aft : Array Edge} {gd : Option (Nat × Bool)} {dd : Nat}
theorem m39 {f : Operand} {id : Nat} {first caps : List AV} {args : Array Operand} {ts : Array TypeId} (h : gK args.toList [] (fun vs => callK P cfg id (first ++ vs ++ caps) dd K ⟨e, L, H⟩) ⟨e, L, H⟩) (hf : St.ev ⟨e, L, H⟩ f = .val (.func id first caps) := by first | (conv => {lhs; whnf}; done) | exact (by exact rfl) | fail) : opX P cfg ⟨some dd, .call { callee := .value f, args := args, argTypes := ts }, ty, pos, aft, gd⟩ K ⟨e, L, H⟩ := b_callV hf h
end
section
variable {P : Program} {cfg : Cfg} {dr : Array Oper → (St → Prop) → St → Prop} {e : List (Nat × EV)} {L : List (Nat × List AV)} {H : List (List AV)} {Q : XE → St → Prop} {K : St → Prop}
variable {kn : Option (Nat × Bool)} {ops : Array Oper} {d : Option Tmp} {o : Op} {ty : TypeId} {pos : String} {aft : Array Edge} {rest : List Oper} {j : Nat} {b want : Bool} {gd : Option (Nat × Bool)} {dd : Nat}
theorem m40 {acc : List AV} {k : List AV → Prop} {x : Operand} {xs : List Operand} {v : AV} (h : gK xs (acc ++ [v]) k ⟨e, L, H⟩) (hv : St.ev ⟨e, L, H⟩ x = .val v := by (conv => {lhs; whnf}); done) : gK (x :: xs) acc k ⟨e, L, H⟩ := gk_cons hv h
end
section
variable {P : Program} {cfg : Cfg} {dr : Array Oper → (St → Prop) → St → Prop} {e : List (Nat × EV)} {L : List (Nat × List AV)} {H : List (List AV)} {Q : XE → St → Prop} {K : St → Prop}
variable {d : Option Tmp} {ty : TypeId} {pos : String} {aft : Array Edge} {gd : Option (Nat × Bool)} {dd : Nat}
theorem m41 {b : Nat} (h : K ⟨(dd, .val (.flt b)) :: e, L, H⟩) (hb : (decide (b < 2 ^ 64) && !isNaN b) = true := by kernel_rfl) : opX P cfg ⟨some dd, .move (.const (.float .f64 b)), ty, pos, aft, gd⟩ K ⟨e, L, H⟩ := b_moveF hb h
end
section
variable {P : Program} {cfg : Cfg} {dr : Array Oper → (St → Prop) → St → Prop} {e : List (Nat × EV)} {L : List (Nat × List AV)} {H : List (List AV)} {Q : XE → St → Prop} {K : St → Prop}
variable {d : Option Tmp} {ty : TypeId} {pos : String} {aft : Array Edge} {gd : Option (Nat × Bool)} {dd : Nat}
theorem m42 {b : Nat} (h : K ⟨(dd, .val (.flt b)) :: e, L, H⟩) (hb : (decide (b < 2 ^ 64) && !isNaN b) = true := by kernel_rfl) : opX P cfg ⟨some dd, .assign (.const (.float .f64 b)), ty, pos, aft, gd⟩ K ⟨e, L, H⟩ := b_assignF hb h
end
section
variable {P : Program} {cfg : Cfg} {dr : Array Oper → (St → Prop) → St → Prop} {e : List (Nat × EV)} {L : List (Nat × List AV)} {H : List (List AV)} {Q : XE → St → Prop} {K : St → Prop}
variable {d : Option Tmp} {ty : TypeId} {pos : String} {aft : Array Edge} {gd : Option (Nat × Bool)} {dd : Nat}
theorem m43 {id : Nat} {xs : List Operand} {acc : List AV} {b : Nat} (h : argK P cfg id xs (acc ++ [.flt b]) dd K ⟨e, L, H⟩) (hb : (decide (b < 2 ^ 64) && !isNaN b) = true := by kernel_rfl) : argK P cfg id (.const (.float .f64 b) :: xs) acc dd K ⟨e, L, H⟩ := a_consF hb h
end
section
theorem m44 {e : List (Nat × EV)} {L : List (Nat × List AV)} {H : List (List AV)} {b : Nat} {xs : List Operand} {acc : List AV} {k : List AV → Prop} (h : gK xs (acc ++ [.flt b]) k ⟨e, L, H⟩) (hb : (decide (b < 2 ^ 64) && !isNaN b) = true := by kernel_rfl) : gK (.const (.float .f64 b) :: xs) acc k ⟨e, L, H⟩ := gk_consF hb h
end
section
variable {P : Program} {cfg : Cfg} {e : List (Nat × EV)} {L : List (Nat × List AV)} {H : List (List AV)} {K : St → Prop} {ty : TypeId} {pos : String} {aft : Array Edge} {gd : Option (Nat × Bool)} {dd : Nat}
theorem m45 {t t' : TypeId} [u : UI P t .bool] {x y : Operand} {p q : Bool} (h : valK dd K ⟨e, L, H⟩ (some (True, .bool (p == q)))) (hx : St.ev ⟨e, L, H⟩ x = .val (.bool p) := by first | (conv => {lhs; whnf}; done) | exact (by exact rfl) | fail) (hy : St.ev ⟨e, L, H⟩ y = .val (.bool q) := by first | (conv => {lhs; whnf}; done) | exact (by exact rfl) | fail) : opX P cfg ⟨some dd, .binOp .eql t x y t', ty, pos, aft, gd⟩ K ⟨e, L, H⟩ := b_binB hx hy h
end
section
variable {P : Program} {cfg : Cfg} {dr : Array Oper → (St → Prop) → St → Prop} {e : List (Nat × EV)} {L : List (Nat × List AV)} {H : List (List AV)} {Q : XE → St → Prop} {K : St → Prop}
variable {kn : Option (Nat × Bool)} {ops : Array Oper} {d : Option Tmp} {o : Op} {ty : TypeId} {pos : String} {aft : Array Edge} {rest : List Oper} {j : Nat} {b want : Bool} {gd : Option (Nat × Bool)} {dd : Nat}
theorem m46 {src dst : TypeId} {x : Operand} {k k' : IntKind} {n : Int} {td : TypeDesc} [u : UI P dst (.int k)] [us : UI P src td] (h : valK dd K ⟨e, L, H⟩ (some (True, .int k (k.wrap n)))) (hx : St.ev ⟨e, L, H⟩ x = .val (.int k' n) := by first | (conv => {lhs; whnf}; done) | exact (by exact rfl) | fail) : opX P cfg ⟨some dd, .convert src dst x, ty, pos, aft, gd⟩ K ⟨e, L, H⟩ := b_cnvI hx h
end
section
variable {P : Program} {cfg : Cfg} {dr : Array Oper → (St → Prop) → St → Prop} {e : List (Nat × EV)} {L : List (Nat × List AV)} {H : List (List AV)} {Q : XE → St → Prop} {K : St → Prop}
variable {kn : Option (Nat × Bool)} {ops : Array Oper} {d : Option Tmp} {o : Op} {ty : TypeId} {pos : String} {aft : Array Edge} {rest : List Oper} {j : Nat} {b want : Bool} {gd : Option (Nat × Bool)} {dd : Nat}
theorem m47 {p : Prop} [Decidable p] (h : K ⟨(dd, .val (.bool true)) :: e, L, H⟩) (hp : p := by omega) : valK dd K ⟨e, L, H⟩ (some (True, .bool (decide p))) := v_T hp h
end
section
variable {P : Program} {cfg : Cfg} {dr : Array Oper → (St → Prop) → St → Prop} {e : List (Nat × EV)} {L : List (Nat × List AV)} {H : List (List AV)} {Q : XE → St → Prop} {K : St → Prop}
variable {kn : Option (Nat × Bool)} {ops : Array Oper} {d : Option Tmp} {o : Op} {ty : TypeId} {pos : String} {aft : Array Edge} {rest : List Oper} {j : Nat} {b want : Bool} {gd : Option (Nat × Bool)} {dd : Nat}
theorem m48 {p : Prop} [Decidable p] (h : K ⟨(dd, .val (.bool false)) :: e, L, H⟩) (hp : ¬ p := by omega) : valK dd K ⟨e, L, H⟩ (some (True, .bool (decide p))) := v_F hp h
end
section
variable {P : Program} {cfg : Cfg} {dr : Array Oper → (St → Prop) → St → Prop} {e : List (Nat × EV)} {L : List (Nat × List AV)} {H : List (List AV)} {Q : XE → St → Prop} {K : St → Prop}
variable {kn : Option (Nat × Bool)} {ops : Array Oper} {d : Option Tmp} {o : Op} {ty : TypeId} {pos : String} {aft : Array Edge} {rest : List Oper} {j : Nat} {b want : Bool} {gd : Option (Nat × Bool)} {dd : Nat}
theorem m49 {n : Int} (h : K ⟨(dd, .val (.int .i64 n)) :: e, L, H⟩) (hw : -9223372036854775808 ≤ n ∧ n ≤ 9223372036854775807 := by omega) : valK dd K ⟨e, L, H⟩ (some (True, .int .i64 (IntKind.i64.wrap n))) := v_w hw h
end
section
variable {P : Program} {cfg : Cfg} {dr : Array Oper → (St → Prop) → St → Prop} {e : List (Nat × EV)} {L : List (Nat × List AV)} {H : List (List AV)} {Q : XE → St → Prop} {K : St → Prop}
variable {kn : Option (Nat × Bool)} {ops : Array Oper} {d : Option Tmp} {o : Op} {ty : TypeId} {pos : String} {aft : Array Edge} {rest : List Oper} {j : Nat} {b want : Bool} {gd : Option (Nat × Bool)} {dd : Nat}
theorem m50 {n : Int} (h : K ⟨(dd, .val (.int .u64 n)) :: e, L, H⟩) (hw : 0 ≤ n ∧ n ≤ 18446744073709551615 := by omega) : valK dd K ⟨e, L, H⟩ (some (True, .int .u64 (IntKind.u64.wrap n))) := v_wu hw h
end
section
variable {P : Program} {cfg : Cfg} {dr : Array Oper → (St → Prop) → St → Prop} {e : List (Nat × EV)} {L : List (Nat × List AV)} {H : List (List AV)} {Q : XE → St → Prop} {K : St → Prop}
variable {kn : Option (Nat × Bool)} {ops : Array Oper} {d : Option Tmp} {o : Op} {ty : TypeId} {pos : String} {aft : Array Edge} {rest : List Oper} {j : Nat} {b want : Bool} {gd : Option (Nat × Bool)} {dd : Nat}
theorem m51 {c : Prop} {v : AV} (h : valK dd K ⟨e, L, H⟩ (some (True, v))) (hc : c := by omega) : valK dd K ⟨e, L, H⟩ (some (c, v)) := v_c hc h
end
section
variable {P : Program} {cfg : Cfg} {e e' : List (Nat × EV)} {L : List (Nat × List AV)} {H : List (List AV)} {Q : XE → St → Prop} {K : St → Prop}
variable {kn : Option (Nat × Bool)} {ops : Array Oper} {nY : NY} {d : Option Tmp} {o : Op} {ty : TypeId} {pos : String} {aft : Array Edge} {rest : List (Nat × DFl)} {i j : Nat} {f : DFl} {b want : Bool} {gd : Option (Nat × Bool)} {dd : Nat}
theorem m52 {x y : Int} (h : K ⟨(dd, .val (.bool true)) :: e, L, H⟩) (hp : x = y := by omega) : valK dd K ⟨e, L, H⟩ (some (True, .bool (x == y))) := v_eT hp h
end
section
variable {P : Program} {cfg : Cfg} {e e' : List (Nat × EV)} {L : List (Nat × List AV)} {H : List (List AV)} {Q : XE → St → Prop} {K : St → Prop}
variable {kn : Option (Nat × Bool)} {ops : Array Oper} {nY : NY} {d : Option Tmp} {o : Op} {ty : TypeId} {pos : String} {aft : Array Edge} {rest : List (Nat × DFl)} {i j : Nat} {f : DFl} {b want : Bool} {gd : Option (Nat × Bool)} {dd : Nat}
theorem m53 {x y : Int} (h : K ⟨(dd, .val (.bool false)) :: e, L, H⟩) (hp : x ≠ y := by omega) : valK dd K ⟨e, L, H⟩ (some (True, .bool (x == y))) := v_eF hp h
end
section
variable {P : Program} {cfg : Cfg} {e e' : List (Nat × EV)} {L : List (Nat × List AV)} {H : List (List AV)} {Q : XE → St → Prop} {K : St → Prop}
variable {kn : Option (Nat × Bool)} {ops : Array Oper} {nY : NY} {d : Option Tmp} {o : Op} {ty : TypeId} {pos : String} {aft : Array Edge} {rest : List (Nat × DFl)} {i j : Nat} {f : DFl} {b want : Bool} {gd : Option (Nat × Bool)} {dd : Nat}
theorem m54 {x y : Int} (h : K ⟨(dd, .val (.bool true)) :: e, L, H⟩) (hp : x ≠ y := by omega) : valK dd K ⟨e, L, H⟩ (some (True, .bool (x != y))) := v_neT hp h
end
section
variable {P : Program} {cfg : Cfg} {e e' : List (Nat × EV)} {L : List (Nat × List AV)} {H : List (List AV)} {Q : XE → St → Prop} {K : St → Prop}
variable {kn : Option (Nat × Bool)} {ops : Array Oper} {nY : NY} {d : Option Tmp} {o : Op} {ty : TypeId} {pos : String} {aft : Array Edge} {rest : List (Nat × DFl)} {i j : Nat} {f : DFl} {b want : Bool} {gd : Option (Nat × Bool)} {dd : Nat}
theorem m55 {x y : Int} (h : K ⟨(dd, .val (.bool false)) :: e, L, H⟩) (hp : x = y := by omega) : valK dd K ⟨e, L, H⟩ (some (True, .bool (x != y))) := v_neF hp h
end
section
theorem m56 {q : Bool} {nY : NY} {o : Oper} {e e' : List (Nat × EV)} {L : List (Nat × List AV)} {A N N' M : List (List AV)} {K : St → Prop} (h : K ⟨e', L, A ++ N'⟩) (hN : N ++ M = N' := by exact rfl) : ckK (.mn q) nY o ⟨e, L, A ++ N⟩ K ⟨e', L, A ++ N'⟩ := k_mnB hN h
end
section
variable {P : Program} {cfg : Cfg} {dr : Array Oper → (St → Prop) → St → Prop} {e : List (Nat × EV)} {L : List (Nat × List AV)} {H : List (List AV)} {Q : XE → St → Prop} {K : St → Prop}
variable {kn : Option (Nat × Bool)} {ops : Array Oper} {d : Option Tmp} {o : Op} {ty : TypeId} {pos : String} {aft : Array Edge} {rest : List Oper} {j : Nat} {b want : Bool} {gd : Option (Nat × Bool)} {dd : Nat}
theorem m57 {i k : Nat} (h : Q (.exit k) ⟨e, L, H⟩) (hik : (k == i) = false := by exact rfl) : blkX i Q (.exit k) ⟨e, L, H⟩ := b_blo hik h
end
section
variable {P : Program} {cfg : Cfg} {dr : Array Oper → (St → Prop) → St → Prop} {e : List (Nat × EV)} {L : List (Nat × List AV)} {H : List (List AV)} {Q : XE → St → Prop} {K : St → Prop}
variable {kn : Option (Nat × Bool)} {ops : Array Oper} {d : Option Tmp} {o : Op} {ty : TypeId} {pos : String} {aft : Array Edge} {rest : List Oper} {j : Nat} {b want : Bool} {gd : Option (Nat × Bool)} {dd : Nat}
theorem m58 {pl : List (Nat × Nat)} {zc zc' vs : List AV} {i off sz : Nat} {x : Operand} {ps : List (Nat × Operand)} {k : List AV → Prop} {v : AV} (h : fK pl zc' ps k ⟨e, L, H⟩) (hx : St.ev ⟨e, L, H⟩ x = .val v := by (conv => {lhs; whnf}); done) (hc : v.cells = some vs := by first | exact rfl | exact cells_of_len (FL.len (by assumption)) | exact cells_of_len (IL.len (by assumption)) | fail) (hp : pl[i]? = some (off, sz) := by exact rfl) (hl : (vs.length == sz && decide (off + vs.length ≤ zc.length)) = true := by exact rfl) (hz : sc zc off vs = zc' := by (conv => {lhs; simp only [sc, List.set_cons_zero, List.set_cons_succ]}); done) : fK pl zc ((i, x) :: ps) k ⟨e, L, H⟩ := fk_cons hx hc hp hl hz h
end
end Go.Sx
