/- A part of the proofs of this seat: YA. No condition is set. -/
import Derived.Deep.Fields
import Derived.Deep.Slices
import Derived.KernelRfl
import Derived.Laws.LoneSync
import Derived.OpenShut
import Derived.ProofKit
import Derived.Test.YthjjpbcmimpjbaaGreatProg
import Derived.WideKeyArgs
import Derived.Test.YthjjpbcmimpjbaaGreatXH
set_option linter.unusedVariables false
set_option linter.unusedSimpArgs false
namespace Go.Sx

/-! ### structs, told part by part -/
def buildP (P : Program) (t : TypeId) : Option (List AV × List (Nat × Nat)) :=
  match tzero P t, P.underlying t with
  | some z, some (.struct fs) => (z.cells).bind fun zc => (fs.toList.mapM fun f => (tsz P f.type).map (f.offset, ·)).map (zc, ·)
  | _, _ => none
class BdI (P : Program) (t : TypeId) (zc : outParam (List AV)) (pl : outParam (List (Nat × Nat))) : Prop where
  h : buildP P t = some (zc, pl)
theorem mapM_some {α β : Type} (f : α → Option β) : ∀ (l : List α) {r : List β}, l.mapM f = some r → l.map f = r.map some
  | [], r, h => by simp at h; subst h; rfl
  | a :: l, r, h => by
    simp only [List.mapM_cons, Option.bind_eq_bind, Option.bind_eq_some_iff, Option.pure_def, Option.some.injEq] at h
    obtain ⟨b, h1, r', h2, rfl⟩ := h
    simp [h1, mapM_some f l h2]
theorem fillA_congr {p q : Nat → Option (Nat × Nat)} (h : ∀ i, p i = q i) (cs : List AV) (l : List (Nat × Option AV)) : fillA p cs l = fillA q cs l := by
  have : p = q := funext h
  rw [this]
theorem buildP_eq {P : Program} {t : TypeId} {zc : List AV} {pl : List (Nat × Nat)} (h : buildP P t = some (zc, pl)) (ρ : Operand → EV) (parts : Array (Nat × Operand)) :
    buildV P ρ t parts = (fillA (fun i => pl[i]?) zc (parts.toList.map fun (i, x) => (i, (ρ x).asV))).map .agg := by
  unfold buildP at h
  split at h
  · rename_i z fs hz hu
    simp only [Option.bind_eq_some_iff, Option.map_eq_some_iff, Prod.mk.injEq] at h
    obtain ⟨zc', h1, pl', h2, rfl, rfl⟩ := h
    have hm := mapM_some _ _ h2
    have hall : fs.all (fun f => (tsz P f.type).isSome) = true := by
      rw [Array.all_eq_true_iff_forall_mem]
      intro f hf
      have hf' : f ∈ fs.toList := by simpa using hf
      have : (tsz P f.type).map (f.offset, ·) ∈ fs.toList.map (fun f => (tsz P f.type).map (f.offset, ·)) := List.mem_map_of_mem hf'
      rw [hm] at this
      simp only [List.mem_map] at this
      obtain ⟨x, _, hx⟩ := this
      cases hq : tsz P f.type with
      | none => rw [hq] at hx; simp at hx
      | some n => rfl
    unfold buildV
    simp only [hz, hu, hall, if_true, h1, Option.bind_some]
    congr 1
    refine fillA_congr (fun i => ?_) _ _
    have := congrArg (·[i]?) hm
    simp only [List.getElem?_map, Array.getElem?_toList] at this
    simp only [fieldPl]
    cases hf : fs[i]? with
    | none =>
      rw [hf] at this
      cases hp : pl'[i]? with
      | none => rfl
      | some p => rw [hp] at this; simp at this
    | some f =>
      rw [hf] at this
      simp only [Option.map_some, Option.bind_some] at this ⊢
      cases hp : pl'[i]? with
      | none => rw [hp] at this; simp at this
      | some p => rw [hp] at this; simpa using this
  · simp at h

section
variable {P : Program} {cfg : Cfg} {dr : Array Oper → (St → Prop) → St → Prop} {e : List (Nat × EV)} {L : List (Nat × List AV)} {H : List (List AV)} {Q : XE → St → Prop} {K : St → Prop}
variable {kn : Option (Nat × Bool)} {ops : Array Oper} {d : Option Tmp} {o : Op} {ty : TypeId} {pos : String} {aft : Array Edge} {rest : List Oper} {j : Nat} {b want : Bool} {gd : Option (Nat × Bool)} {dd : Nat}

def fK (pl : List (Nat × Nat)) (zc : List AV) (ps : List (Nat × Operand)) (k : List AV → Prop) (st : St) : Prop :=
  ∃ cs, fillA (fun i => pl[i]?) zc (ps.map fun (i, x) => (i, (st.ev x).asV)) = some cs ∧ k cs
theorem fk_nil {pl : List (Nat × Nat)} {zc : List AV} {k : List AV → Prop} (h : k zc) : fK pl zc [] k ⟨e, L, H⟩ := ⟨zc, rfl, h⟩
theorem fk_cons {pl : List (Nat × Nat)} {zc zc' vs : List AV} {i off sz : Nat} {x : Operand} {ps : List (Nat × Operand)} {k : List AV → Prop} {v : AV} (hx : St.ev ⟨e, L, H⟩ x = .val v) (hc : v.cells = some vs) (hp : pl[i]? = some (off, sz))
    (hl : (vs.length == sz && decide (off + vs.length ≤ zc.length)) = true) (hz : sc zc off vs = zc') (h : fK pl zc' ps k ⟨e, L, H⟩) : fK pl zc ((i, x) :: ps) k ⟨e, L, H⟩ := by
  obtain ⟨cs, h1, h2⟩ := h
  subst hz
  simp only [Bool.and_eq_true, beq_iff_eq, decide_eq_true_eq] at hl
  refine ⟨cs, ?_, h2⟩
  simp only [List.map_cons, fillA, hx, EV.asV, Option.bind_some, hc, hp]
  rw [if_neg (by omega)]
  exact h1
theorem b_build {t : TypeId} {zc : List AV} {pl : List (Nat × Nat)} {parts : Array (Nat × Operand)} [bd : BdI P t zc pl] (h : fK pl zc parts.toList (fun cs => K ⟨(dd, .val (.agg cs)) :: e, L, H⟩) ⟨e, L, H⟩) :
    opX P cfg ⟨some dd, .build t parts, ty, pos, aft, gd⟩ K ⟨e, L, H⟩ := by
  obtain ⟨cs, h1, h2⟩ := h
  rw [op_pure P cfg e L H K _ _ _ _ _ _ rfl]
  simp only [pureV, buildP_eq bd.h, h1, Option.map_some, pureK]
  exact ⟨trivial, h2⟩

/-! ### more values -/
theorem b_cnvI {src dst : TypeId} {x : Operand} {k k' : IntKind} {n : Int} {td : TypeDesc} [u : UI P dst (.int k)] [us : UI P src td] (hx : St.ev ⟨e, L, H⟩ x = .val (.int k' n)) (h : valK dd K ⟨e, L, H⟩ (some (True, .int k (k.wrap n)))) :
    opX P cfg ⟨some dd, .convert src dst x, ty, pos, aft, gd⟩ K ⟨e, L, H⟩ := by
  rw [op_pure P cfg e L H K _ _ _ _ _ _ rfl]
  simp only [pureV, us.h, Option.isSome_some, if_true, hx, cnvV, u.h, Option.map_some, pureK]
  exact ⟨trivial, h.2⟩
theorem b_cnvF {src dst : TypeId} {x : Operand} {v : AV} {f : Nat} {td : TypeDesc} [u : UI P dst (.float .f64)] [us : UI P src td] (hx : St.ev ⟨e, L, H⟩ x = .val v) (hf : v.asF = some f) (h : K ⟨(dd, .val (.flt f)) :: e, L, H⟩) :
    opX P cfg ⟨some dd, .convert src dst x, ty, pos, aft, gd⟩ K ⟨e, L, H⟩ := by
  rw [op_pure P cfg e L H K _ _ _ _ _ _ rfl]
  have : cnvV P dst (.val v) = some (True, .flt f) := by
    unfold cnvV; rw [u.h]
    cases v <;> simp_all [AV.asF]
  simp only [pureV, us.h, Option.isSome_some, if_true, hx, this, Option.map_some, pureK]
  exact ⟨trivial, h⟩
theorem b_cnvIF {src dst : TypeId} {x : Operand} {k : IntKind} {n : Int} {td : TypeDesc} [u : UI P dst (.float .f64)] [us : UI P src td] (hx : St.ev ⟨e, L, H⟩ x = .val (.int k n)) (h : K ⟨(dd, .val (.flt (cn (FloatKind.f64.nearest n)))) :: e, L, H⟩) :
    opX P cfg ⟨some dd, .convert src dst x, ty, pos, aft, gd⟩ K ⟨e, L, H⟩ := by
  rw [op_pure P cfg e L H K _ _ _ _ _ _ rfl]
  simp only [pureV, us.h, Option.isSome_some, if_true, hx, cnvV, u.h, Option.map_some, pureK]
  exact ⟨trivial, h⟩
theorem wrapU {n : Int} (hw : 0 ≤ n ∧ n ≤ 18446744073709551615) : IntKind.u64.wrap n = n := by
  simp only [IntKind.wrap, IntKind.signed, IntKind.bits]
  simp
  omega
theorem v_wu {n : Int} (hw : 0 ≤ n ∧ n ≤ 18446744073709551615) (h : K ⟨(dd, .val (.int .u64 n)) :: e, L, H⟩) : valK dd K ⟨e, L, H⟩ (some (True, .int .u64 (IntKind.u64.wrap n))) := by
  rw [wrapU hw]; exact ⟨trivial, h⟩
theorem v_shr {k : IntKind} {x y : Int} {q : Int} (hx : 0 ≤ x) (hy : 0 ≤ y) (hq : ((2 ^ (min y.toNat k.bits) : Nat) : Int) = q) (h : K ⟨(dd, .val (.int k (x / q))) :: e, L, H⟩) : valK dd K ⟨e, L, H⟩ (some (0 ≤ y, .int k (x.fdiv (2 ^ (min y.toNat k.bits))))) := by
  have e1 : ((2 : Int) ^ (min y.toNat k.bits)) = q := by rw [← hq]; simp
  rw [e1]
  have h0 : 0 ≤ q := by rw [← hq]; exact Int.natCast_nonneg _
  have : x.fdiv q = x / q := by rw [Int.fdiv_eq_ediv_of_nonneg _ h0]
  rw [this]; exact ⟨hy, h⟩
theorem v_mod {k : IntKind} {x y : Int} (hx : 0 ≤ x) (hy : y ≠ 0) (h : K ⟨(dd, .val (.int k (x % y))) :: e, L, H⟩) : valK dd K ⟨e, L, H⟩ (some (y ≠ 0, .int k (x.tmod y))) := by
  rw [Int.tmod_eq_emod_of_nonneg hx]; exact ⟨hy, h⟩
theorem v_qc {x y : Int} (hx : 0 ≤ x ∧ x ≤ 9223372036854775807) (hy : 1 ≤ y) (h : K ⟨(dd, .val (.int .i64 (x / y))) :: e, L, H⟩) : valK dd K ⟨e, L, H⟩ (some (y ≠ 0, .int .i64 (IntKind.i64.wrap (x.tdiv y)))) :=
  v_c (by omega) (v_q hx hy h)
/-- a new box that escapes -/
theorem b_boxE {t : TypeId} {x : Operand} {A N N' : List (List AV)} {n i : Nat} {vx : EV} {cs : List AV} (hx : St.ev ⟨e, L, A ++ N⟩ x = vx) (hr : vx.asV.bind AV.cells = some cs) (hesc : cfg.esc = true) (hA : A.length = n) (hi : N.length = i) (hN : N ++ [cs] = N')
    (h : K ⟨(dd, .val (.eptr (.slm (n + i) cs.length 0 1 cs.length) 0)) :: e, L, A ++ N'⟩) : opX P cfg ⟨some dd, .box t x, ty, pos, aft, gd⟩ K ⟨e, L, A ++ N⟩ := by
  subst hx hA hi hN
  simp only [opX, opE, hr, newX, hesc, if_true, app_some]
  simpa [List.append_assoc] using h
theorem b_allocE {t : TypeId} {A N N' : List (List AV)} {n i : Nat} {cs : List AV} [z : ZI P t cs] (hesc : cfg.esc = true) (hA : A.length = n) (hi : N.length = i) (hN : N ++ [cs] = N')
    (h : K ⟨(dd, .val (.eptr (.slm (n + i) cs.length 0 1 cs.length) 0)) :: e, L, A ++ N'⟩) : opX P cfg ⟨some dd, .alloc t, ty, pos, aft, gd⟩ K ⟨e, L, A ++ N⟩ := by
  subst hA hi hN
  simp only [opX, opE, z.h, newX, hesc, if_true, app_some]
  simpa [List.append_assoc] using h

/-! ### what is handed back -/
def rK (P : Program) (rs : List ResultVar) (acc : List AV) (k : List AV → Prop) (st : St) : Prop := ∃ vs, (rs.map (resV P st)).mapM id = some vs ∧ k (acc ++ vs)
theorem rk_nil {acc : List AV} {k : List AV → Prop} (h : k acc) : rK P [] acc k ⟨e, L, H⟩ := ⟨[], rfl, by simpa using h⟩
theorem rk_cons {r : ResultVar} {rs : List ResultVar} {acc : List AV} {k : List AV → Prop} {v : AV} (hr : resV P ⟨e, L, H⟩ r = some v) (h : rK P rs (acc ++ [v]) k ⟨e, L, H⟩) : rK P (r :: rs) acc k ⟨e, L, H⟩ := by
  obtain ⟨vs, h1, h2⟩ := h
  refine ⟨v :: vs, ?_, by simpa using h2⟩
  simp only [List.map_cons, List.mapM_cons, hr, id_eq, Option.bind_eq_bind, Option.bind_some, h1]; rfl
theorem rk_tmp {t : Nat} {rs : List ResultVar} {acc : List AV} {k : List AV → Prop} {v : AV} (hv : St.ev ⟨e, L, H⟩ (.tmp t) = .val v) (h : rK P rs (acc ++ [v]) k ⟨e, L, H⟩) : rK P (.tmp t :: rs) acc k ⟨e, L, H⟩ :=
  rk_cons (by simp [resV, hv, EV.asV]) h
theorem rk_cellA {x t n : Nat} {rs : List ResultVar} {acc : List AV} {k : List AV → Prop} [ti : TyI P t n true] {key off : Nat} {cs l : List AV} (hx : St.ev ⟨e, L, H⟩ (.tmp x) = .loc key off) (hc : lk L key = some cs) (hl : gc cs off n = some l) (h : rK P rs (acc ++ [.agg l]) k ⟨e, L, H⟩) :
    rK P (.cell x t :: rs) acc k ⟨e, L, H⟩ :=
  rk_cons (by simp [resV, pureV, hx, hc, ti.sz, hl, ldv, ti.kind]) h
theorem rk_cell1 {x t : Nat} {rs : List ResultVar} {acc : List AV} {k : List AV → Prop} [ti : TyI P t 1 false] {key off : Nat} {cs : List AV} {v : AV} (hx : St.ev ⟨e, L, H⟩ (.tmp x) = .loc key off) (hc : lk L key = some cs) (hl : cs[off]? = some v) (h : rK P rs (acc ++ [v]) k ⟨e, L, H⟩) :
    rK P (.cell x t :: rs) acc k ⟨e, L, H⟩ :=
  rk_cons (by simp [resV, pureV, hx, hc, ti.sz, gc_one hl, ldv, ti.kind]) h
def RetV (H₀ : List (List AV)) (r : AV) (H' : List (List AV)) (H : List (List AV)) (vs : List AV) : Prop :=
  ∃ keep : List Nat, keep.Nodup ∧ (∀ k ∈ keep, H₀.length ≤ k ∧ ∃ cs, H[k]? = some cs ∧ mxL cs ≤ H₀.length) ∧ frH H₀.length keep H = H' ∧ Fr H₀.length keep H (resOne vs) r
theorem b_retK {fn : Func} {H₀ H' : List (List AV)} {r : AV} {x : XE} {rs : List ResultVar} (hx : x = .ret ∨ x = .normal) (hf : fn.results.toList = rs) (h : rK P rs [] (RetV H₀ r H' H) ⟨e, L, H⟩) : RetQ P fn H₀ r H' x ⟨e, L, H⟩ := by
  obtain ⟨vs, h1, keep, h2, h3, h4, h5⟩ := h
  subst hf
  exact ⟨by rcases hx with rfl | rfl <;> trivial, vs, keep, h1, h2, h3, h4, by simpa using h5⟩
section
variable {H₀ A N : List (List AV)} {n : Nat}
/-- nothing new is kept; the value is of old -/
theorem rv_old {r : AV} {vs : List AV} (hA : A.length = H₀.length) (hm : mx (resOne vs) ≤ H₀.length) (hr : resOne vs = r) : RetV H₀ r A (A ++ N) vs := by
  subst hr
  exact ⟨[], List.nodup_nil, by simp, by simp [frH, ← hA], Fr.old hm⟩
/-- nothing new is kept, but as what nobody writes -/
theorem rv_fr {r : AV} {vs : List AV} (hA : A.length = H₀.length) (hr : Fr H₀.length [] (A ++ N) (resOne vs) r) : RetV H₀ r A (A ++ N) vs :=
  ⟨[], List.nodup_nil, by simp, by simp [frH, ← hA], hr⟩
/-- one new block is kept -/
theorem rv_kp {r : AV} {vs cs : List AV} {j : Nat} (hA : A.length = H₀.length) (hj : N[j]? = some cs) (hm : mxL cs ≤ H₀.length) (hr : Fr H₀.length [H₀.length + j] (A ++ N) (resOne vs) r) : RetV H₀ r (A ++ [cs]) (A ++ N) vs := by
  have hg := hg_new (A := A) hA hj
  refine ⟨[H₀.length + j], by simp, ?_, ?_, hr⟩
  · intro k hk
    simp only [List.mem_singleton] at hk; subst hk
    exact ⟨by omega, cs, hg, hm⟩
  · simp [frH, ← hA, hg]
    rw [← hA] at hg; simp [hg]
end
theorem OldOk.app {A N N' : List (List AV)} {n : Nat} (h : n ≤ A.length) : OldOk n (A ++ N) (A ++ N') := by
  intro id cs hid hc
  rw [List.getElem?_append_left (by omega)] at hc ⊢
  exact .inl hc
theorem OldOk.set {A N N' : List (List AV)} {n i : Nat} {cs : List AV} (h : n ≤ A.length) (hm : mxL cs ≤ n) : OldOk n (A ++ N) (A.set i cs ++ N') := by
  intro id cs' hid hc
  rw [List.getElem?_append_left (by simp; omega)] at hc
  rw [List.getElem?_append_left (by omega)]
  rw [List.getElem?_set] at hc
  split at hc
  · split at hc
    · simp at hc; subst hc; exact .inr hm
    · simp at hc
  · exact .inl hc

/-! ### calls, what is kept named -/
end

section
variable {P : Program} {cfg : Cfg} {dr : Array Oper → (St → Prop) → St → Prop} {Q : XE → St → Prop} {K : St → Prop} {st : St}
theorem gateE {ops : Array Oper} {kn : Option (Nat × Bool)} {l : List Oper} (h : exOps P cfg ops kn l K st) : exOps P cfg ops kn l K st := h
theorem gateO {o : Oper} (h : opX P cfg o K st) : opX P cfg o K st := h
theorem gateD {ops : Array Oper} {nY : NY} {kn : Option (Nat × Bool)} {l : List (Nat × DFl)} (h : exD P cfg ops nY kn l K st) : exD P cfg ops nY kn l K st := h
theorem gateC {f : DFl} {nY : NY} {o : Oper} {s : St} (h : ckK f nY o st K s) : ckK f nY o st K s := h
theorem gateX {c : Code} (h : Ex P cfg dr c Q st) : Ex P cfg dr c Q st := h
theorem gateQ {fn : Func} {H₀ H' : List (List AV)} {r : AV} {x : XE} (h : RetQ P fn H₀ r H' x st) : RetQ P fn H₀ r H' x st := h
theorem gateK {id dd : Nat} {vs : List AV} (h : callK P cfg id vs dd K st) : callK P cfg id vs dd K st := h
theorem gateT {y : Code} {x : XE} (h : thenX P cfg dr y Q x st) : thenX P cfg dr y Q x st := h
theorem gateB {i : Nat} {x : XE} (h : blkX i Q x st) : blkX i Q x st := h
theorem gateL {x : XE} (h : lpX K Q x st) : lpX K Q x st := h
theorem gateR {rs : List ResultVar} {acc : List AV} {k : List AV → Prop} (h : rK P rs acc k st) : rK P rs acc k st := h
end
/-! ### a float up to its bits, a float by its bits -/
theorem LRep_raw1 {w : World} {g : Gh} {x : Nat} {rest : List AV} {vs : List Value} (h : LRep w g (.flt x :: rest) vs) : ∃ b, b < 2 ^ 64 ∧ cn b = x ∧ LRep w g (.fraw b :: rest) vs := by
  simp only [LRep] at h
  obtain ⟨v, r, rfl, h1, h2⟩ := h
  simp only [VRep] at h1
  obtain ⟨b, rfl, h3, h4⟩ := h1
  exact ⟨b, h3, h4, by simp only [LRep]; exact ⟨_, _, rfl, by simp only [VRep]; exact ⟨trivial, h3⟩, h2⟩⟩
theorem Spec.raw1 {P : Program} {f : Nat} {x : Nat} {rest : List AV} {H H' : List (List AV)} {r : AV} (h : ∀ b, b < 2 ^ 64 → cn b = x → Spec P f (.fraw b :: rest) H r H') : Spec P f (.flt x :: rest) H r H' := by
  intro w g cargs hw hl
  obtain ⟨b, h1, h2, h3⟩ := LRep_raw1 hl
  exact h b h1 h2 w g cargs hw h3
theorem Spec.raw2 {P : Program} {f : Nat} {x y : Nat} {rest : List AV} {H H' : List (List AV)} {r : AV} (h : ∀ b c, b < 2 ^ 64 → cn b = x → c < 2 ^ 64 → cn c = y → Spec P f (.fraw b :: .fraw c :: rest) H r H') : Spec P f (.flt x :: .flt y :: rest) H r H' := by
  intro w g cargs hw hl
  simp only [LRep] at hl
  obtain ⟨v, r', hv, h1, u, r'', rfl, h2, h3⟩ := hl
  simp only [VRep] at h1 h2
  obtain ⟨b, rfl, h4, h5⟩ := h1
  obtain ⟨c, rfl, h6, h7⟩ := h2
  refine h b c h4 h5 h6 h7 w g cargs hw ?_
  rw [hv]
  simp only [LRep, VRep]
  exact ⟨_, _, rfl, ⟨rfl, h4⟩, _, _, rfl, ⟨rfl, h6⟩, h3⟩
/-- a body's contract, the blocks told as those of old and those that are new -/
theorem Spec.intro' {P : Program} {f : Nat} {fn : Func} {body : Code} {args : List AV} {H H' : List (List AV)} {r : AV} (hf : P.funcs[f]? = some fn) (hb : fn.body = some body)
    (hd : dstsOk fn.ntmps body = true) (hn : args.length ≤ fn.ntmps) (esc : Bool) (fz : List Nat) {draw : Array Oper → (St → Prop) → St → Prop} (hdr : ∀ C : Cx, C.P = P → C.cfg = ⟨esc, H.length, fz⟩ → DrawOk C draw)
    (h : Ex P ⟨esc, H.length, fz⟩ draw body (RetQ P fn H r H') ⟨argE 0 args, [], H ++ []⟩) : Spec P f args H r H' :=
  Spec.intro hf hb hd hn esc fz hdr (by rw [List.append_nil] at h; exact h)
end Go.Sx

set_option linter.unusedVariables false
set_option linter.unusedSimpArgs false
namespace Go.Sx
section
variable {P : Program} {cfg : Cfg} {dr : Array Oper → (St → Prop) → St → Prop} {e : List (Nat × EV)} {L : List (Nat × List AV)} {H : List (List AV)} {Q : XE → St → Prop} {K : St → Prop}
variable {kn : Option (Nat × Bool)} {ops : Array Oper} {d : Option Tmp} {o : Op} {ty : TypeId} {pos : String} {aft : Array Edge} {rest : List Oper} {j : Nat} {b want : Bool} {gd : Option (Nat × Bool)} {dd : Nat}

/-- an element's address, its number a natural one -/
theorem b_iaN {t el : TypeId} {x y : Operand} [si : SlI P t el 1] {s : AV} {k : IntKind} {n : Nat} {len : Nat} (hx : St.ev ⟨e, L, H⟩ x = .val s) (hy : St.ev ⟨e, L, H⟩ y = .val (.int k (n : Int))) (hl : slen s = some len) (hi : n < len)
    (h : K ⟨(dd, .val (.eptr s n)) :: e, L, H⟩) : opX P cfg ⟨some dd, .indexAddr t x y, ty, pos, aft, gd⟩ K ⟨e, L, H⟩ :=
  b_ia hx hy hl rfl hi (by simpa using h)
theorem b_iaF {t el : TypeId} {x y : Operand} [si : SlI P t el 1] {s : AV} {k : IntKind} {i : Int} {len : Nat} (hx : St.ev ⟨e, L, H⟩ x = .val s) (hy : St.ev ⟨e, L, H⟩ y = .val (.int k i)) (hl : slen s = some len) (hi : 0 ≤ i ∧ i < len)
    (h : K ⟨(dd, .val (.eptr s i.toNat)) :: e, L, H⟩) : opX P cfg ⟨some dd, .indexAddr t x y, ty, pos, aft, gd⟩ K ⟨e, L, H⟩ :=
  b_ia (i := i.toNat) hx hy hl (by omega) (by omega) (by simpa using h)
theorem l_FL {t : TypeId} {D : AV} {k : Nat} {l : List Nat} [i : TyI P t 1 false] (hF : FL H D l) (hk : k < l.length) (h : K ⟨(dd, .val (.flt (l.getD k 0))) :: e, L, H⟩) : loadK P t dd K ⟨e, L, H⟩ (.val (.eptr D k)) :=
  l_ptr1 (hF.rd hk) h
/-- a list of whole numbers, wherever it lies -/
structure IL (H : List (List AV)) (D : AV) (l : List Int) : Prop where
  len : slen D = some l.length
  all : D ≠ .slnil → sread H D 0 l.length = some (il l)
  one : ∀ id g o n z, D = .slm id g o n z → z = 1
theorem IL.nil (H : List (List AV)) : IL H .slnil [] := ⟨rfl, fun h => absurd rfl h, by simp⟩
theorem IL.fz (H : List (List AV)) (tag : Option (Nat × Nat)) (l : List Int) : IL H (.sl tag l.length (il l)) l :=
  ⟨rfl, fun _ => by simp only [sread]; exact gc_all _ (by simp), by simp⟩
theorem IL.slm {H : List (List AV)} {id off n g : Nat} {l m : List Int} (h : H[id]? = some (il m)) (hg : g = m.length) (hn : off + n ≤ m.length) (hl : l = (m.drop off).take n) : IL H (.slm id g off n 1) l := by
  subst hl hg
  have e : ((m.drop off).take n).length = n := by simp; omega
  refine ⟨by simp [slen, e], fun _ => ?_, by simp; omega⟩
  simp only [sread, h, Option.bind_some, il_len, if_true, e, Nat.add_zero]
  rw [gc_take _ _ _ (by simpa using hn)]
  simp [il, List.map_drop, List.map_take]
theorem IL.rd {H : List (List AV)} {D : AV} {l : List Int} (h : IL H D l) {k : Nat} (hk : k < l.length) : sread H D k 1 = some [.int .i64 (l.getD k 0)] := by
  have hD : D ≠ .slnil := by rintro rfl; have := h.len; simp [slen] at this; omega
  have h1 := h.all hD
  cases D <;> simp only [sread, reduceCtorEq] at h1 ⊢
  · have := gc_sub h1 (il_get hk); simpa using this
  · rename_i id gen o len sz
    cases hi : H[id]? with
    | none => rw [hi] at h1; simp at h1
    | some cs =>
      rw [hi] at h1
      simp only [Option.bind_some] at h1 ⊢
      split at h1
      · rename_i hg; rw [if_pos hg]
        have := gc_sub h1 (il_get hk); simpa using this
      · simp at h1
theorem l_IL {t : TypeId} {D : AV} {k : Nat} {l : List Int} [i : TyI P t 1 false] (hF : IL H D l) (hk : k < l.length) (h : K ⟨(dd, .val (.int .i64 (l.getD k 0))) :: e, L, H⟩) : loadK P t dd K ⟨e, L, H⟩ (.val (.eptr D k)) :=
  l_ptr1 (hF.rd hk) h
theorem IL.app {H : List (List AV)} {D : AV} {l : List Int} (h : IL H D l) (N : List (List AV)) : IL (H ++ N) D l := by
  refine ⟨h.len, fun hD => ?_, h.one⟩
  have h1 := h.all hD
  cases D <;> simp only [sread] at h1 ⊢ <;> try exact h1
  rename_i id gen o len sz
  cases hi : H[id]? with
  | none => rw [hi] at h1; simp at h1
  | some cs =>
    rw [hi] at h1
    rw [List.getElem?_append_left (List.getElem?_eq_some_iff.1 hi).1, hi]; exact h1

/-! a store to an element of a block of old, of a new one -/
theorem b_stF {t : TypeId} {x v : Operand} {id gen o' len sz off : Nat} {m m' : List Nat} {f : Nat} [ti : TyI P t 1 false] {A N : List (List AV)} (hx : St.ev ⟨e, L, A ++ N⟩ x = .val (.eptr (.slm id gen o' len sz) off)) (hv : St.ev ⟨e, L, A ++ N⟩ v = .val (.flt f)) (hc : A[id]? = some (fl m))
    (hg : m.length = gen) (hle : o' + off < m.length) (hm : m.set (o' + off) f = m') (h : K ⟨e, L, A.set id (fl m') ++ N⟩) : opX P cfg ⟨none, .store t x v, ty, pos, aft, gd⟩ K ⟨e, L, A ++ N⟩ := by
  subst hm
  refine b_stH hx hv rfl rfl (hg_old hc) (by simpa using hg) (by simp; omega) (.inr (by simp [mxL, mx])) rfl ?_
  rw [sc_one, fl_set, hs_old (List.getElem?_eq_some_iff.1 hc).1]; exact h
theorem b_stN {t : TypeId} {x v : Operand} {n i gen o' len sz off : Nat} {m m' : List Nat} {f : Nat} [ti : TyI P t 1 false] {A N N' : List (List AV)} (hx : St.ev ⟨e, L, A ++ N⟩ x = .val (.eptr (.slm (n + i) gen o' len sz) off)) (hv : St.ev ⟨e, L, A ++ N⟩ v = .val (.flt f)) (hA : A.length = n) (hc : N[i]? = some (fl m))
    (hg : m.length = gen) (hle : o' + off < m.length) (hm : m.set (o' + off) f = m') (hN : N.set i (fl m') = N') (h : K ⟨e, L, A ++ N'⟩) : opX P cfg ⟨none, .store t x v, ty, pos, aft, gd⟩ K ⟨e, L, A ++ N⟩ := by
  subst hm
  refine b_stH hx hv rfl rfl (hg_new hA hc) (by simpa using hg) (by simp; omega) (.inr (by simp [mxL, mx])) rfl ?_
  rw [sc_one, fl_set, hs_new hA hN]; exact h
/-- what is appended to a new block -/
theorem b_appN {t tx : TypeId} {s x : Operand} {n i g g' q len by_ el' z' : Nat} {z : AV} {xs cs cs' : List AV} {A N N' : List (List AV)} [ei : EI P t 1 by_ [z]] [si : SlI P tx el' z'] {vx : AV} {m : Nat} (hs : St.ev ⟨e, L, A ++ N⟩ s = .val (.slm (n + i) g 0 len 1)) (hx : St.ev ⟨e, L, A ++ N⟩ x = .val vx) (hA : A.length = n) (hc : N[i]? = some cs) (hsrc : srcX (A ++ N) 1 vx = some (m, xs))
    (hg : cs.length = g) (hl : len = g) (hm : len + m ≤ 2 ^ 32) (hmx : cfg.n0 ≤ n ∨ mxL xs ≤ cfg.n0) (hz : (decide (by_ ≤ 2 ^ 10) && decide (0 < by_)) = true) (hcs : cs ++ xs = cs') (hN : N.set i cs' = N') (hg' : cs.length + xs.length = g') (hq : len + m = q)
    (h : K ⟨(dd, .val (.slm (n + i) g' 0 q 1)) :: e, L, A ++ N'⟩) :
    opX P cfg ⟨some dd, .call { callee := .builtin .append, args := #[s, x], argTypes := #[t, tx] }, ty, pos, aft, gd⟩ K ⟨e, L, A ++ N⟩ := by
  subst hcs hg' hq hl
  refine b_app1 hs hx hsrc (hg_new hA hc) hg (by omega) hm (by rcases hmx with h | h; exact .inl (by omega); exact .inr h) (by simpa using hz) ?_
  rw [hs_new hA hN]; exact h
/-- .. to nothing -/
theorem b_appZ {t tx : TypeId} {s x : Operand} {n i by_ el' z' g : Nat} {z : AV} {xs : List AV} {A N N' : List (List AV)} [ei : EI P t 1 by_ [z]] [si : SlI P tx el' z'] {vx : AV} {m : Nat} (hs : St.ev ⟨e, L, A ++ N⟩ s = .val .slnil) (hx : St.ev ⟨e, L, A ++ N⟩ x = .val vx) (hsrc : srcX (A ++ N) 1 vx = some (m, xs)) (hm : 0 < m ∧ m ≤ 2 ^ 32)
    (hA : A.length = n) (hi : N.length = i) (hz : (decide (by_ ≤ 2 ^ 10) && decide (0 < by_)) = true) (hN : N ++ [xs] = N') (hg : xs.length = g) (h : K ⟨(dd, .val (.slm (n + i) g 0 m 1)) :: e, L, A ++ N'⟩) :
    opX P cfg ⟨some dd, .call { callee := .builtin .append, args := #[s, x], argTypes := #[t, tx] }, ty, pos, aft, gd⟩ K ⟨e, L, A ++ N⟩ := by
  subst hN hg hA hi
  refine b_app0 hs hx hsrc hm (by simpa using hz) ?_
  simpa [List.append_assoc] using h
theorem src_fl' {A N : List (List AV)} {D : AV} {l : List Nat} (h : FL A D l) : srcX (A ++ N) 1 D = some (l.length, fl l) := src_fl (h.app N)
end

theorem k_ldT {nY : NY} {K : St → Prop} {d : Option Tmp} {ty : TypeId} {pos : String} {aft : Array Edge} {gd : Option (Nat × Bool)} {t : TypeId} {x : Operand} {st s : St} {v : AV} (hv : St.ev st x = .val v) (h : K s) : ckK (.ld true) nY ⟨d, .load t x, ty, pos, aft, gd⟩ st K s := by
  refine k_ld hv ?_ h
  unfold ldOk
  split <;> first | rfl | (rename_i he; cases he)
/-- how far two lists are alike -/
theorem first_diff : ∀ (la lb : List Nat), ∃ N, N ≤ la.length ∧ (∀ k, k < N → la.getD k 0 = lb.getD k 0) ∧ (N < la.length → la.getD N 0 ≠ lb.getD N 0)
  | [], lb => ⟨0, Nat.le_refl _, by simp, by simp⟩
  | a :: la, lb => by
    by_cases h : a = lb.getD 0 0
    · obtain ⟨N, h1, h2, h3⟩ := first_diff la (lb.drop 1)
      have e : ∀ k, (lb.drop 1).getD k 0 = lb.getD (k + 1) 0 := fun k => by simp [List.getD, Nat.add_comm]
      refine ⟨N + 1, by simp; omega, fun k hk => ?_, fun hN => ?_⟩
      · cases k with
        | zero => simpa using h
        | succ k => rw [← e]; simpa using h2 k (by omega)
      · rw [← e]; simpa using h3 (by simpa using hN)
    · exact ⟨0, Nat.zero_le _, by simp, fun _ => by simpa using h⟩
theorem eq_of_getD {la lb : List Nat} (hl : la.length = lb.length) (h : ∀ k, k < la.length → la.getD k 0 = lb.getD k 0) : la = lb := by
  apply List.ext_getElem hl
  intro i h1 h2
  have := h i h1
  simpa [List.getD, h1, h2] using this
/-! ### matrices -/
abbrev mt (D : AV) (off rows cols ld : Int) : AV := .agg [D, .int .i64 off, .int .i64 rows, .int .i64 cols, .int .i64 ld]
structure MI (n : Nat) (off rows cols ld : Int) : Prop where
  n : n ≤ 9223372036854775807
  o1 : -9223372036854775808 ≤ off
  o2 : off ≤ 9223372036854775807
  r1 : -9223372036854775808 ≤ rows
  r2 : rows ≤ 9223372036854775807
  c1 : -9223372036854775808 ≤ cols
  c2 : cols ≤ 9223372036854775807
  l1 : -9223372036854775808 ≤ ld
  l2 : ld ≤ 9223372036854775807
def GoodP (n : Nat) (off rows cols ld : Int) : Prop := 0 ≤ rows ∧ 0 ≤ cols ∧ 0 ≤ off ∧ 1 ≤ ld ∧ rows ≤ ld ∧ (rows = 0 ∨ cols = 0 ∨ (off < n ∧ rows - 1 < n - off ∧ (cols - 1) * ld ≤ n - 1 - off - (rows - 1)))
instance (n : Nat) (off rows cols ld : Int) : Decidable (GoodP n off rows cols ld) := by unfold GoodP; infer_instance
def SpanP (n : Nat) (off rows cols ld : Int) : Prop := GoodP n off rows cols ld ∧ rows ≠ 0 ∧ cols ≠ 0
instance (n : Nat) (off rows cols ld : Int) : Decidable (SpanP n off rows cols ld) := by unfold SpanP; infer_instance
def sF (n : Nat) (off rows cols ld : Int) : Int := if SpanP n off rows cols ld then off else 0
def sT (n : Nat) (off rows cols ld : Int) : Int := if SpanP n off rows cols ld then off + (cols - 1) * ld + rows - 1 else 0
theorem span_pos {n : Nat} {off rows cols ld : Int} (h : SpanP n off rows cols ld) : 0 < n := by
  obtain ⟨⟨h1, h2, h3, h4, h5, h6⟩, h7, h8⟩ := h
  omega
def PlaceP (n : Nat) (off rows cols ld i j : Int) : Prop := GoodP n off rows cols ld ∧ 0 ≤ i ∧ 0 ≤ j ∧ i < rows ∧ j < cols
instance (n : Nat) (off rows cols ld i j : Int) : Decidable (PlaceP n off rows cols ld i j) := by unfold PlaceP; infer_instance
def plV (n : Nat) (off rows cols ld i j : Int) : Int := if PlaceP n off rows cols ld i j then off + i + j * ld else -1
theorem good_place {n : Nat} {off rows cols ld i j : Int} (h : GoodP n off rows cols ld) (hi : 0 ≤ i) (hj : 0 ≤ j) (hi' : i < rows) (hj' : j < cols) : 0 ≤ j * ld ∧ 0 ≤ off + i + j * ld ∧ off + i + j * ld < n ∧ j * ld ≤ (cols - 1) * ld ∧ 0 ≤ off ∧ 1 ≤ ld := by
  obtain ⟨h1, h2, h3, h4, h5, h6⟩ := h
  have h7 : j * ld ≤ (cols - 1) * ld := Int.mul_le_mul_of_nonneg_right (by omega) (by omega)
  have h8 : 0 ≤ j * ld := Int.mul_nonneg hj (by omega)
  refine ⟨h8, by omega, ?_, h7, h3, h4⟩
  rcases h6 with h6 | h6 | h6 <;> omega
theorem pl_lt {n : Nat} {off rows cols ld i j : Int} (h : 0 ≤ plV n off rows cols ld i j) : plV n off rows cols ld i j < n := by
  unfold plV at h ⊢
  split
  · rename_i hp; obtain ⟨h1, h2, h3, h4, h5⟩ := hp; exact (good_place h1 h2 h3 h4 h5).2.2.1
  · rename_i hp; simp only [hp, if_false] at h; omega
end Go.Sx

set_option linter.unusedVariables false
set_option linter.unusedSimpArgs false
namespace Go.Sx
section
variable {e : List (Nat × EV)} {L : List (Nat × List AV)} {H : List (List AV)} {K : St → Prop} {dd : Nat}
/-! ### whole numbers from 0 on -/
theorem v_addN {x y : Nat} (hb : x + y ≤ 9223372036854775807) (h : K ⟨(dd, .val (.int .i64 ((x + y : Nat) : Int))) :: e, L, H⟩) : valK dd K ⟨e, L, H⟩ (some (True, .int .i64 (IntKind.i64.wrap ((x : Int) + (y : Int))))) :=
  v_w (by omega) (by simpa using h)
theorem v_mulN {x y : Nat} (hb : x * y ≤ 9223372036854775807) (h : K ⟨(dd, .val (.int .i64 ((x * y : Nat) : Int))) :: e, L, H⟩) : valK dd K ⟨e, L, H⟩ (some (True, .int .i64 (IntKind.i64.wrap ((x : Int) * (y : Int))))) := by
  have e1 : ((x : Int) * (y : Int)) = ((x * y : Nat) : Int) := by simp
  rw [e1]
  exact v_w (by omega) h
end
section
variable {P : Program} {cfg : Cfg} {e : List (Nat × EV)} {L : List (Nat × List AV)} {H : List (List AV)} {K : St → Prop} {ty : TypeId} {pos : String} {aft : Array Edge} {gd : Option (Nat × Bool)} {dd : Nat}
theorem b_binB {t t' : TypeId} [u : UI P t .bool] {x y : Operand} {p q : Bool} (hx : St.ev ⟨e, L, H⟩ x = .val (.bool p)) (hy : St.ev ⟨e, L, H⟩ y = .val (.bool q)) (h : valK dd K ⟨e, L, H⟩ (some (True, .bool (p == q)))) :
    opX P cfg ⟨some dd, .binOp .eql t x y t', ty, pos, aft, gd⟩ K ⟨e, L, H⟩ := by
  refine b_bin hx hy (r := some (True, .bool (p == q))) ?_ h
  simp only [binV, u.h]
theorem b_binBn {t t' : TypeId} [u : UI P t .bool] {x y : Operand} {p q : Bool} (hx : St.ev ⟨e, L, H⟩ x = .val (.bool p)) (hy : St.ev ⟨e, L, H⟩ y = .val (.bool q)) (h : valK dd K ⟨e, L, H⟩ (some (True, .bool (p != q)))) :
    opX P cfg ⟨some dd, .binOp .neq t x y t', ty, pos, aft, gd⟩ K ⟨e, L, H⟩ := by
  refine b_bin hx hy (r := some (True, .bool (p != q))) ?_ h
  simp only [binV, u.h]
theorem v_bbT {x y : Bool} (h : x = y) (hk : K ⟨(dd, .val (.bool true)) :: e, L, H⟩) : valK dd K ⟨e, L, H⟩ (some (True, .bool (x == y))) := by
  subst h; simp only [beq_self_eq_true]; exact ⟨trivial, hk⟩
end
theorem k_mnB {q : Bool} {nY : NY} {o : Oper} {e e' : List (Nat × EV)} {L : List (Nat × List AV)} {A N N' M : List (List AV)} {K : St → Prop} (hN : N ++ M = N') (h : K ⟨e', L, A ++ N'⟩) : ckK (.mn q) nY o ⟨e, L, A ++ N⟩ K ⟨e', L, A ++ N'⟩ := by
  subst hN
  rw [← List.append_assoc] at h ⊢
  exact k_mnA h
theorem plV_T {n : Nat} {off rows cols ld i j : Int} (h : PlaceP n off rows cols ld i j) : plV n off rows cols ld i j = off + i + j * ld ∧ 0 ≤ plV n off rows cols ld i j := by
  have h1 : plV n off rows cols ld i j = off + i + j * ld := by rw [plV, if_pos h]
  obtain ⟨h2, h3, h4, h5, h6⟩ := h
  exact ⟨h1, by rw [h1]; exact (good_place h2 h3 h4 h5 h6).2.1⟩
/-- a list of floats that is handed in -/
def aD (p : Nat × Nat) (l : List Nat) : AV := .sl (if l = [] then none else some p) l.length (fl l)
theorem aD_FL (H : List (List AV)) (p : Nat × Nat) (l : List Nat) : FL H (aD p l) l := FL.fz H _ l
theorem aD_len (p : Nat × Nat) (l : List Nat) : slen (aD p l) = some l.length := rfl
theorem gk_consF {e : List (Nat × EV)} {L : List (Nat × List AV)} {H : List (List AV)} {b : Nat} {xs : List Operand} {acc : List AV} {k : List AV → Prop} (hb : (decide (b < 2 ^ 64) && !isNaN b) = true) (h : gK xs (acc ++ [.flt b]) k ⟨e, L, H⟩) : gK (.const (.float .f64 b) :: xs) acc k ⟨e, L, H⟩ := by
  simp only [Bool.and_eq_true, decide_eq_true_eq, Bool.not_eq_true'] at hb
  refine gk_cons (v := .flt b) ?_ h
  have : aOf (.float .f64 b) = .flt b := by
    show aOf1 (.float .f64 b) = .flt b
    simp only [aOf1, hb.1, if_true, cn, hb.2, Bool.false_eq_true, if_false]
  show EV.val (aOf (.float .f64 b)) = _
  rw [this]
theorem gk_nilN {e : List (Nat × EV)} {L : List (Nat × List AV)} {H : List (List AV)} {acc acc' : List AV} {k : List AV → Prop} (ha : acc = acc') (h : k acc') : gK [] acc k ⟨e, L, H⟩ := by
  subst ha; exact gk_nil h

/-- a new block's list -/
theorem FL.blk {A N : List (List AV)} {n j g q : Nat} {l : List Nat} (hA : A.length = n) (hj : N[j]? = some (fl l)) (hg : g = l.length) (hq : q = l.length) : FL (A ++ N) (.slm (n + j) g 0 q 1) l :=
  FL.slm (hg_new hA hj) hg (by omega) (by subst hq; simp)
/-- a block's -/
theorem FL.old {H : List (List AV)} {id g q : Nat} {l : List Nat} (hj : H[id]? = some (fl l)) (hg : g = l.length) (hq : q = l.length) : FL H (.slm id g 0 q 1) l :=
  FL.slm hj hg (by omega) (by subst hq; simp)

/-! ### a new matrix, its numbers told row by row -/
end Go.Sx

set_option linter.unusedVariables false
set_option linter.unusedSimpArgs false
namespace Go.Sx
open Go.ChangeShapes Go.WideShapes Go.ChangeAt Go.RowKit Go.Deep
/-! ### from a law's contract to the row -/
def g0 (W : World) : Gh := ⟨fun _ _ => none, fun b => b < W.heap.size⟩
theorem wrep0 (W : World) : WRep W (g0 W) [] := ⟨fun id cs h => by simp at h, fun id id' cs cs' b δ δ' h => by simp at h, fun b h => h, fun id gen b δ h => by simp [g0] at h, fun id gen p h => by simp [g0] at h⟩
structure Stays (W W' : World) : Prop where
  kept : W.keptBut W' (fun _ => False)
  fro : ∀ a : Addr, a.block < W.heap.size → W'.frozen? a = W.frozen? a
  heap : ∀ b, b < W.heap.size → W'.heap[b]? = W.heap[b]?
theorem law_run {P : Program} {f : Nat} {args : List AV} {cargs : Array Value} {W : World} (hs : Spec P f args [] (.bool true) []) (hl : LRep W (g0 W) args cargs.toList) :
    Calls P f cargs W fun e W' => e = .returned (.bool true) ∧ Stays W W' := by
  refine (hs W (g0 W) cargs (wrep0 W) hl).mono fun e W' h => ?_
  obtain ⟨v, g', h1, h2, h3, h4⟩ := h
  simp only [VRep] at h4
  subst h4
  have hb : ∀ b, b < W.heap.size → W'.heap[b]? = W.heap[b]? := fun b hb => h3.keep b hb (by rintro ⟨id, cs, δ, hc, _⟩; simp at hc)
  refine ⟨h1, ⟨h3.same.1, h3.same.2.1, fun i hi => ?_⟩, h3.fro, hb⟩
  rw [hb i hi]
  exact (World.keptBut_refl W (fun _ => False)).2.2 i hi

section
variable {H : Type} {enc : TypeId × Value → H} {P : Program} {W : World} {base : Nat}
theorem trod_flt {t : TypeId} {n : Nat} {v : Value} {spare : Nat → Bool} {held : Bool} {x : DataW H × List MemPlace} (ht : P.underlying t = some (.float .f64)) (h : DataW.trod enc P W base spare held n t [v] = some x) : ∃ b, v = .float .f64 b ∧ b < 2 ^ 64 := by
  cases n with
  | zero => simp [DataW.trod] at h
  | succ n =>
    unfold DataW.trod at h
    rw [ht] at h
    split at h <;> simp_all
    subst_vars
    obtain ⟨⟨_, h1⟩, _⟩ := h
    simpa [Lit.wf] using h1
/-- a list of floats that came in -/
theorem open_fl {t e : TypeId} {n : Nat} {X : Value} {x : DataW H × List MemPlace} (ht : P.underlying t = some (.slice e)) (he : P.underlying e = some (.float .f64)) (hc : P.cellsOf e = 1) (h : DataW.trod enc P W base (fun _ => true) true n t [X] = some x) :
    ∃ p l, l.length ≤ 9223372036854775807 ∧ VRep W (g0 W) (aD p l) X := by
  rcases open_slice1 ht hc h with ⟨h1, _⟩ | ⟨a, len, cap, m, k, V, D, Pl, h1, hb, hl, hm, hmm, _, hx⟩
  · simp only [List.cons.injEq, and_true] at h1
    subst h1
    exact ⟨(0, 0), [], by simp, by simp only [aD, if_true, VRep]; exact ⟨0, Nat.le_refl _, .inl (by simp [fl])⟩⟩
  · simp only [List.cons.injEq, and_true] at h1
    subst h1
    simp only [if_true] at hmm
    have hf : ∀ i, i < len → ∃ b, V i = .float .f64 b ∧ b < 2 ^ 64 := fun i hi => trod_flt he (hx i (by omega)).2
    have hbs : ∃ bs : Nat → Nat, ∀ i, i < len → V i = .float .f64 (bs i) ∧ bs i < 2 ^ 64 :=
      ⟨fun i => if h : i < len then (hf i h).choose else 0, fun i hi => by simp only [hi, dif_pos]; exact (hf i hi).choose_spec⟩
    obtain ⟨bs, hbs⟩ := hbs
    have hml : maxLen = 9223372036854775807 := by decide
    refine ⟨(a.block, a.off), (List.range len).map fun i => cn (bs i), by simp; omega, ?_⟩
    by_cases h0 : len = 0
    · subst h0
      simp only [aD, List.range_zero, List.map_nil, if_true, VRep, List.length_nil]
      exact ⟨cap, Nat.zero_le _, .inl (by simp [fl])⟩
    · have hc0 := (hx 0 (by omega)).1
      have ha0 : a.add 0 = a := by simp [Addr.add]
      rw [ha0] at hc0
      obtain ⟨_, _, hsh, _, hsp⟩ := World.shape?_of_cell? hc0
      have hae : a = ⟨a.block, a.off, none⟩ := by cases a; simp_all
      have hne : ¬ ((List.range len).map fun i => cn (bs i)) = [] := by simp; omega
      simp only [aD, if_neg hne, VRep, List.length_map, List.length_range]
      have hblk : a.block < W.heap.size := by
        unfold World.shape? at hsh
        cases hq : W.heap[a.block]? with
        | none => rw [hq] at hsh; simp at hsh
        | some o => exact (Array.getElem?_eq_some_iff.1 hq).1
      refine ⟨cap, hl, .inr ⟨a.block, a.off, by rw [← hae], .inr rfl, hblk, ?_⟩⟩
      rw [CRep_iff]
      intro i c hi
      have hil : i < len := by
        have := (List.getElem?_eq_some_iff.1 hi).1
        simpa [fl] using this
      have hci := (hx i (by omega)).1
      have had : a.add i = ⟨a.block, a.off + i, none⟩ := by
        rw [hae]; exact Addr.add_mid _ _ _
      rw [had] at hci
      refine ⟨V i, hci, ?_, ?_⟩
      · rw [(hbs i hil).1]; rfl
      · simp [fl, hil] at hi
        subst hi
        simp only [VRep]
        exact ⟨bs i, (hbs i hil).1, (hbs i hil).2, rfl⟩
theorem trod_i64 {t : TypeId} {n : Nat} {v : Value} {spare : Nat → Bool} {held : Bool} {x : DataW H × List MemPlace} (ht : P.underlying t = some (.int .i64)) (h : DataW.trod enc P W base spare held n t [v] = some x) : ∃ i, v = .int .i64 i ∧ -9223372036854775808 ≤ i ∧ i ≤ 9223372036854775807 := by
  obtain ⟨i, h1, _, h2⟩ := DataW.trod_int ht h
  simp only [List.cons.injEq, and_true] at h1
  simp only [Lit.wf, IntKind.min, IntKind.max, IntKind.signed, IntKind.bits] at h2
  simp at h2
  exact ⟨i, h1, by omega, by omega⟩
/-- a matrix that came in -/
theorem open_mat {t ts tf ti : TypeId} {fs : Array Field} {v : Value} {d : DataW H} {ps : List MemPlace} {r : Reach} {b0 : Nat} (hs : P.underlying t = some (.struct fs)) (hone : oneCellFields P fs = true) (hty : fs.toList.map (·.type) = [ts, ti, ti, ti, ti]) (hC : P.cellsOf t = 5)
    (hts : P.underlying ts = some (.slice tf)) (htf : P.underlying tf = some (.float .f64)) (hcf : P.cellsOf tf = 1) (hti : P.underlying ti = some (.int .i64))
    (hv : Value.okWide P W r b0 t v) (h : DataW.Trod enc P W base (fun _ => true) true t v d ps) :
    ∃ p l off rows cols ld, MI l.length off rows cols ld ∧ VRep W (g0 W) (mt (aD p l) off rows cols ld) v := by
  obtain ⟨cs, rfl, hsz⟩ := okWide_struct hs hv
  obtain ⟨fuel, hf⟩ := h
  obtain ⟨xs, n, _, _, hcl, hlen, hg⟩ := DataW.trod_struct hs hf
  have hfl : fs.size = 5 := by have := congrArg List.length hty; simpa using this
  have get : ∀ i (hi : i < 5), ∃ c y, cs[i]? = some c ∧ DataW.trod enc P W base (fun _ => true) true n ((fs[i]'(by omega)).type) [c] = some y := by
    intro i hi
    have hfi : fs[i]? = some (fs[i]'(by omega)) := Array.getElem?_eq_getElem (by omega)
    obtain ⟨h1, h2⟩ := hone_of hone i _ hfi
    have h3 := hg i _ hfi
    rw [h1, h2] at h3
    have hci : i < cs.size := by omega
    have hd : ((Value.agg cs).cells.toList.drop i).take 1 = [cs[i]] := by
      show (cs.toList.drop i).take 1 = _
      rw [List.drop_eq_getElem_cons (by simpa using hci)]
      simp
    have hxi : i < xs.length := by omega
    have h3' : DataW.trod enc P W base (fun _ => true) true n ((fs[i]'(by omega)).type) (((Value.agg cs).cells.toList.drop i).take 1) = xs[i]? := h3
    rw [hd, List.getElem?_eq_getElem hxi] at h3'
    exact ⟨cs[i], _, by simp [hci], h3'⟩
  have hti' : ∀ i (hi : i < 5), (fs[i]'(by omega)).type = [ts, ti, ti, ti, ti][i]'(by simpa using hi) := by
    intro i hi
    have := congrArg (·[i]?) hty
    simp only [List.getElem?_map, Array.getElem?_toList] at this
    rw [Array.getElem?_eq_getElem (by omega)] at this
    rw [List.getElem?_eq_getElem (by simpa using hi)] at this
    simpa using this
  obtain ⟨c0, y0, e0, t0⟩ := get 0 (by omega)
  obtain ⟨c1, y1, e1, t1⟩ := get 1 (by omega)
  obtain ⟨c2, y2, e2, t2⟩ := get 2 (by omega)
  obtain ⟨c3, y3, e3, t3⟩ := get 3 (by omega)
  obtain ⟨c4, y4, e4, t4⟩ := get 4 (by omega)
  rw [hti' 0 (by omega)] at t0
  rw [hti' 1 (by omega)] at t1
  rw [hti' 2 (by omega)] at t2
  rw [hti' 3 (by omega)] at t3
  rw [hti' 4 (by omega)] at t4
  simp only [List.getElem_cons_zero, List.getElem_cons_succ] at t0 t1 t2 t3 t4
  obtain ⟨p, l, hl, hD⟩ := open_fl hts htf hcf t0
  obtain ⟨i1, rfl, a1, b1⟩ := trod_i64 hti t1
  obtain ⟨i2, rfl, a2, b2⟩ := trod_i64 hti t2
  obtain ⟨i3, rfl, a3, b3⟩ := trod_i64 hti t3
  obtain ⟨i4, rfl, a4, b4⟩ := trod_i64 hti t4
  have hcs : cs.toList = [c0, .int .i64 i1, .int .i64 i2, .int .i64 i3, .int .i64 i4] := by
    apply List.ext_getElem?
    intro i
    match i with
    | 0 => simpa using e0
    | 1 => simpa using e1
    | 2 => simpa using e2
    | 3 => simpa using e3
    | 4 => simpa using e4
    | i + 5 => rw [List.getElem?_eq_none (by simp; omega), List.getElem?_eq_none (by simp)]
  refine ⟨p, l, i1, i2, i3, i4, ⟨hl, a1, b1, a2, b2, a3, b3, a4, b4⟩, ?_⟩
  have ho0 : c0.oneCell' = true := by
    simp only [aD, VRep] at hD
    obtain ⟨cap, _, ⟨_, _, _, ao, rfl⟩ | ⟨b, o, rfl, _⟩⟩ := hD <;> rfl
  simp only [mt, VRep]
  refine ⟨cs, rfl, ?_, ?_⟩
  · rw [hcs]; simp only [List.mem_cons, List.not_mem_nil, or_false]
    rintro x (rfl | rfl | rfl | rfl | rfl) <;> first | exact ho0 | rfl
  · rw [hcs]
    simp only [LRep]
    exact ⟨_, _, rfl, hD, _, _, rfl, by simp [VRep], _, _, rfl, by simp [VRep], _, _, rfl, by simp [VRep], _, _, rfl, by simp [VRep], rfl⟩

/-- nothing that was there has turned: an argument reads as it did -/
theorem stays_trod {t : TypeId} (hl : laidOutB P = true) (hr : P.readableRec t = true) (hrow : t < P.types.size) {W' : World} {sp : Nat → Bool} {v : Value} {d : DataW H} {ps : List MemPlace}
    (h : DataW.Trod enc P W 0 (fun _ => true) true t v d ps) (hst : Stays W W') (hlt : ∀ p ∈ ps, p.block < W.heap.size) (hsp : ∀ p ∈ ps, sp p.block = true) : DataW.Trod enc P W' 0 sp true t v d ps := by
  refine Go.WideElems.Trod_stays hl hr hrow h (fun p hp => ?_) hsp
  have := hst.heap p.block (hlt p hp)
  cases p with
  | cell b o => exact cell_eq this
  | map b => exact this
theorem stays_all (hl : laidOutB P = true) {W' : World} {sp : Nat → Bool} (hst : Stays W W') : ∀ {ts : List TypeId} {vs : List Value} {ds : List (DataW H)} {ps : List MemPlace}, (∀ t ∈ ts, P.readableRec t = true ∧ t < P.types.size) →
    DataW.TrodAll enc P W 0 (fun _ => true) true ts vs ds ps → (∀ p ∈ ps, p.block < W.heap.size) → (∀ p ∈ ps, sp p.block = true) → DataW.TrodAll enc P W' 0 sp true ts vs ds ps
  | [], [], [], ps, _, h, _, _ => h
  | [], [], _ :: _, _, _, h, _, _ => h.elim
  | [], _ :: _, _, _, _, h, _, _ => by simp [DataW.TrodAll] at h
  | _ :: _, [], _, _, _, h, _, _ => by simp [DataW.TrodAll] at h
  | _ :: _, _ :: _, [], _, _, h, _, _ => h.elim
  | t :: ts, v :: vs, d :: ds, ps, hts, ⟨p, q, h1, h2, h3⟩, hlt, hsp => by
    subst h3
    exact ⟨p, q, stays_trod hl (hts t (by simp)).1 (hts t (by simp)).2 h1 hst (fun x hx => hlt x (by simp [hx])) (fun x hx => hsp x (by simp [hx])),
      stays_all hl hst (fun t ht => hts t (by simp [ht])) h2 (fun x hx => hlt x (by simp [hx])) (fun x hx => hsp x (by simp [hx])), rfl⟩
/-- THE WORD OF A LAW's ROW: it returned true, and nothing that was there has turned -/
theorem law_post {f : Func} {s : ChangeSpec} {apart fresh handsOn again : Bool} {W' : World} {args : Array Value} {ds gs : List (DataW H)} {before : List MemPlace} {tb : TypeId}
    (hW : DataW.Whole enc P f.params.toList s.vars apart W args.toList ds gs before) (hv0 : s.vars = []) (hst : Stays W W') (hres : f.resultTypes = #[tb]) (htb : P.underlying tb = some .bool)
    (hspec : s.fn H (ds ++ gs) = { results := [.lit (.bool true)], args := ds }) (hl : laidOutB P = true) (hts : ∀ t ∈ f.params.toList, P.readableRec t = true ∧ t < P.types.size) :
    s.post enc P f apart fresh handsOn again W args (.bool true) W' := by
  have hlt := hW.lt
  have hW' := hW
  obtain ⟨p, q, h1, h2, h3, h4, h5⟩ := hW
  rw [hv0] at h2
  have hgq : gs = [] ∧ q = [] := by
    cases gs with
    | nil => exact ⟨rfl, by simpa [DataW.TrodVars] using h2⟩
    | cons g gs => simp [DataW.TrodVars] at h2
  obtain ⟨rfl, rfl⟩ := hgq
  rw [List.append_nil] at h3
  subst h3
  have hR : ∀ (b : Nat) (sp : Nat → Bool) (hd : Bool), DataW.TrodAll enc P W' b sp hd f.resultTypes.toList ((Value.bool true).resultList f.resultTypes.size) [.lit (.bool true)] [] := by
    intro b sp hd
    rw [hres]
    exact ⟨[], [], shut_bool htb true, rfl, rfl⟩
  have hA : ∀ sp : Nat → Bool, (∀ x ∈ before, sp x.block = true) → DataW.TrodAll enc P W' 0 sp true f.params.toList args.toList ds before := fun sp hsp => stays_all hl hst hts h1 hlt hsp
  have hV : ∀ sp : Nat → Bool, DataW.TrodVars enc P W' sp s.vars ([] : List (DataW H)) [] := fun sp => by rw [hv0]; rfl
  refine ⟨ds, [], before, [], before, [], hW', by rw [hspec]; exact hR _ _ _, by rw [hspec]; exact hA _ (fun x hx => by simpa using hlt x hx), by rw [hspec]; exact hV _, World.keptBut_mono (fun p h => h.elim) hst.kept, fun _ => ?_⟩
  refine ⟨ok_one hres rfl (okWide_bool_mk htb true), [.lit (.bool true)] ++ ds, [], [] ++ before, ⟨[] ++ before, [], trodAll_append (hA _ (fun _ _ => rfl)) (hR _ _ _), hV _, by simp, ?_, ?_⟩, ?_⟩
  · intro b off hp
    rw [hst.fro _ (hlt _ (by simpa using hp))]
    exact h4 b off (by simpa using hp)
  · intro ha; simpa using h5 ha
  · intro x hx _; simpa using hx
end
end Go.Sx

set_option linter.unusedVariables false
set_option linter.unusedSimpArgs false
namespace Go.Sx
section
variable {P : Program} {cfg : Cfg} {dr : Array Oper → (St → Prop) → St → Prop} {e : List (Nat × EV)} {L : List (Nat × List AV)} {H : List (List AV)} {Q : XE → St → Prop} {K : St → Prop}
variable {d : Option Tmp} {ty : TypeId} {pos : String} {aft : Array Edge} {gd : Option (Nat × Bool)} {dd : Nat}

/-! ### constants -/
theorem aOf_cF {b : Nat} (hb : (decide (b < 2 ^ 64) && !isNaN b) = true) : aOf (.float .f64 b) = .flt b := by
  simp only [Bool.and_eq_true, decide_eq_true_eq, Bool.not_eq_true'] at hb
  show aOf1 (.float .f64 b) = .flt b
  simp only [aOf1, hb.1, if_true, cn, hb.2, Bool.false_eq_true, if_false]
theorem b_assignF {b : Nat} (hb : (decide (b < 2 ^ 64) && !isNaN b) = true) (h : K ⟨(dd, .val (.flt b)) :: e, L, H⟩) : opX P cfg ⟨some dd, .assign (.const (.float .f64 b)), ty, pos, aft, gd⟩ K ⟨e, L, H⟩ :=
  b_assign (by show EV.val (aOf (.float .f64 b)) = _; rw [aOf_cF hb]) h
theorem b_moveF {b : Nat} (hb : (decide (b < 2 ^ 64) && !isNaN b) = true) (h : K ⟨(dd, .val (.flt b)) :: e, L, H⟩) : opX P cfg ⟨some dd, .move (.const (.float .f64 b)), ty, pos, aft, gd⟩ K ⟨e, L, H⟩ :=
  b_move (by show EV.val (aOf (.float .f64 b)) = _; rw [aOf_cF hb]) h
theorem b_assignI {k : IntKind} {n : Int} (h : K ⟨(dd, .val (.int k n)) :: e, L, H⟩) : opX P cfg ⟨some dd, .assign (.const (.int k n)), ty, pos, aft, gd⟩ K ⟨e, L, H⟩ := b_assign rfl h
theorem b_moveI {k : IntKind} {n : Int} (h : K ⟨(dd, .val (.int k n)) :: e, L, H⟩) : opX P cfg ⟨some dd, .move (.const (.int k n)), ty, pos, aft, gd⟩ K ⟨e, L, H⟩ := b_move rfl h
theorem b_assignN (h : K ⟨(dd, .val .slnil) :: e, L, H⟩) : opX P cfg ⟨some dd, .assign (.const (.slice none 0 0)), ty, pos, aft, gd⟩ K ⟨e, L, H⟩ := b_assign rfl h
theorem a_consF {id : Nat} {xs : List Operand} {acc : List AV} {b : Nat} (hb : (decide (b < 2 ^ 64) && !isNaN b) = true) (h : argK P cfg id xs (acc ++ [.flt b]) dd K ⟨e, L, H⟩) : argK P cfg id (.const (.float .f64 b) :: xs) acc dd K ⟨e, L, H⟩ :=
  a_cons (by show EV.val (aOf (.float .f64 b)) = _; rw [aOf_cF hb]) h

/-! ### a call of a value -/
theorem b_callV {f : Operand} {id : Nat} {first caps : List AV} {args : Array Operand} {ts : Array TypeId} (hf : St.ev ⟨e, L, H⟩ f = .val (.func id first caps)) (h : gK args.toList [] (fun vs => callK P cfg id (first ++ vs ++ caps) dd K ⟨e, L, H⟩) ⟨e, L, H⟩) :
    opX P cfg ⟨some dd, .call { callee := .value f, args := args, argTypes := ts }, ty, pos, aft, gd⟩ K ⟨e, L, H⟩ := by
  obtain ⟨vs, ha, r, H', h1, h2, h3⟩ := h
  simp only [opX, opE, hf, ha]
  exact ⟨r, H', by simpa using h1, h2, h3⟩
theorem b_mkF {f : Nat} {first caps : Array Operand} (h : gK first.toList [] (fun vs => gK caps.toList [] (fun us => K ⟨(dd, .val (.func f vs us)) :: e, L, H⟩) ⟨e, L, H⟩) ⟨e, L, H⟩) :
    opX P cfg ⟨some dd, .makeFunc (.func f) first caps, ty, pos, aft, gd⟩ K ⟨e, L, H⟩ := by
  obtain ⟨vs, h1, us, h2, h⟩ := h
  rw [op_pure P cfg e L H K _ _ _ _ _ _ rfl]
  unfold argsX at h1 h2
  simp only [pureV, h1, h2, pureK]
  simp only [List.nil_append] at h
  exact ⟨trivial, h⟩

theorem l_nA {t : TypeId} {A N : List (List AV)} {n j g o len sz off k : Nat} {cs l : List AV} [i : TyI P t k true] (hA : A.length = n) (hj : N[j]? = some cs) (hg : cs.length = g) (hl : gc cs (o + off) k = some l) (hk : K ⟨(dd, .val (.agg l)) :: e, L, A ++ N⟩) : loadK P t dd K ⟨e, L, A ++ N⟩ (.val (.eptr (.slm (n + j) g o len sz) off)) :=
  l_ptrA (by simp only [sread, hg_new hA hj, Option.bind_some, hg, if_true]; exact hl) hk
theorem l_n1 {t : TypeId} {A N : List (List AV)} {n j g o len sz off : Nat} {cs : List AV} {c : AV} [i : TyI P t 1 false] (hA : A.length = n) (hj : N[j]? = some cs) (hg : cs.length = g) (hl : cs[o + off]? = some c) (hk : K ⟨(dd, .val c) :: e, L, A ++ N⟩) : loadK P t dd K ⟨e, L, A ++ N⟩ (.val (.eptr (.slm (n + j) g o len sz) off)) :=
  l_ptr1 (by simp only [sread, hg_new hA hj, Option.bind_some, hg, if_true]; exact gc_one hl) hk
theorem l_oA {t : TypeId} {A N : List (List AV)} {b g o len sz off k : Nat} {cs l : List AV} [i : TyI P t k true] (hj : A[b]? = some cs) (hg : cs.length = g) (hl : gc cs (o + off) k = some l) (hk : K ⟨(dd, .val (.agg l)) :: e, L, A ++ N⟩) : loadK P t dd K ⟨e, L, A ++ N⟩ (.val (.eptr (.slm b g o len sz) off)) :=
  l_ptrA (by simp only [sread, hg_old hj, Option.bind_some, hg, if_true]; exact hl) hk
theorem l_o1 {t : TypeId} {A N : List (List AV)} {b g o len sz off : Nat} {cs : List AV} {c : AV} [i : TyI P t 1 false] (hj : A[b]? = some cs) (hg : cs.length = g) (hl : cs[o + off]? = some c) (hk : K ⟨(dd, .val c) :: e, L, A ++ N⟩) : loadK P t dd K ⟨e, L, A ++ N⟩ (.val (.eptr (.slm b g o len sz) off)) :=
  l_ptr1 (by simp only [sread, hg_old hj, Option.bind_some, hg, if_true]; exact gc_one hl) hk
theorem a_consI {id : Nat} {xs : List Operand} {acc : List AV} {k : IntKind} {n : Int} (h : argK P cfg id xs (acc ++ [.int k n]) dd K ⟨e, L, H⟩) : argK P cfg id (.const (.int k n) :: xs) acc dd K ⟨e, L, H⟩ := a_cons rfl h

/-! ### a list that grows by one, from nothing on -/
def gV (n i k : Nat) : AV := if k = 0 then .slnil else .slm (n + i) k 0 k 1
def gN (l : List AV) : List (List AV) := if l = [] then [] else [l]
theorem b_grow {t tx : TypeId} {s x : Operand} {n i k by_ el' z' : Nat} {z v : AV} {l l' : List AV} {A N₀ : List (List AV)} [ei : EI P t 1 by_ [z]] [si : SlI P tx el' z'] (hs : St.ev ⟨e, L, A ++ (N₀ ++ gN l)⟩ s = .val (gV n i k)) (hx : St.ev ⟨e, L, A ++ (N₀ ++ gN l)⟩ x = .val (.sl none 1 [v]))
    (hA : A.length = n) (hi : N₀.length = i) (hk : l.length = k) (hm : k + 1 ≤ 2 ^ 32) (hn : cfg.n0 = n) (hz : (decide (by_ ≤ 2 ^ 10) && decide (0 < by_)) = true) (hl : l ++ [v] = l')
    (h : K ⟨(dd, .val (gV n i (k + 1))) :: e, L, A ++ (N₀ ++ gN l')⟩) :
    opX P cfg ⟨some dd, .call { callee := .builtin .append, args := #[s, x], argTypes := #[t, tx] }, ty, pos, aft, gd⟩ K ⟨e, L, A ++ (N₀ ++ gN l)⟩ := by
  subst hl
  have e1 : gV n i (k + 1) = .slm (n + i) (k + 1) 0 (k + 1) 1 := by simp [gV]
  have e2 : gN (l ++ [v]) = [l ++ [v]] := by simp [gN]
  rw [e1, e2] at h
  cases l with
  | nil =>
    simp only [List.length_nil] at hk; subst hk
    simp only [gN, if_true, List.append_nil, List.nil_append] at hs hx h ⊢
    exact b_appZ (n := n) (i := i) (xs := [v]) (m := 1) hs hx (src_fz rfl) (by omega) hA hi hz rfl rfl h
  | cons a l =>
    have hk0 : k ≠ 0 := by simp at hk; omega
    have e3 : gV n i k = .slm (n + i) k 0 k 1 := by simp [gV, hk0]
    have e4 : gN (a :: l) = [a :: l] := by simp [gN]
    rw [e3] at hs
    rw [e4] at hs hx ⊢
    subst hi
    exact b_appN (cs := a :: l) (xs := [v]) (m := 1) hs hx hA (by simp) (src_fz rfl) hk rfl hm (.inl (by omega)) hz rfl (by simp) (by simp at hk ⊢; omega) rfl h
/-- .. handed back, as what nobody writes -/
theorem gV_fr {n i k : Nat} {l : List AV} {A N₀ : List (List AV)} (hA : A.length = n) (hi : N₀.length = i) (hk : l.length = k) (hm : mxL l ≤ n) : Fr n [] (A ++ (N₀ ++ gN l)) (gV n i k) (.sl none k l) := by
  cases l with
  | nil =>
    simp only [List.length_nil] at hk; subst hk
    simp only [gV, if_true]; exact Fr.nil
  | cons a l =>
    have hk0 : k ≠ 0 := by simp at hk; omega
    simp only [gV, if_neg hk0]
    have : (A ++ (N₀ ++ gN (a :: l)))[n + i]? = some (a :: l) := by
      refine hg_new hA ?_
      subst hi; simp [gN]
    exact Fr.fz (by omega) (by simp) this hk (gc_all _ (by rw [hk]; omega)) (Frs.old hm)
theorem gV_FL {n i : Nat} {l : List Nat} {A N₀ : List (List AV)} (hA : A.length = n) (hi : N₀.length = i) : FL (A ++ (N₀ ++ gN (fl l))) (gV n i l.length) l := by
  cases l with
  | nil => exact FL.nil _
  | cons a l =>
    have : (A ++ (N₀ ++ gN (fl (a :: l))))[n + i]? = some (fl (a :: l)) := by
      refine hg_new hA ?_
      subst hi; simp [gN, fl]
    simp only [gV, List.length_cons, Nat.add_eq_zero_iff, Nat.succ_ne_zero, and_false, if_false]
    exact FL.old this (by simp) (by simp)
end

/-! ### folds, step by step -/
theorem take_succ' {l : List Nat} {k : Nat} (h : k < l.length) : l.take (k + 1) = l.take k ++ [l.getD k 0] := by
  rw [List.take_add_one]; simp [List.getD, h]
def fo (f : Nat → Nat → Nat) (s : Nat) (l : List Nat) (k : Nat) : Nat := (l.take k).foldl f s
theorem fo_succ {f : Nat → Nat → Nat} {s : Nat} {l : List Nat} {k : Nat} (h : k < l.length) : fo f s l (k + 1) = f (fo f s l k) (l.getD k 0) := by
  simp only [fo, take_succ' h, List.foldl_append, List.foldl_cons, List.foldl_nil]
theorem fo_all (f : Nat → Nat → Nat) (s : Nat) (l : List Nat) : fo f s l l.length = l.foldl f s := by simp [fo]
/-- the list of what is told of each -/
def mpl (f : Nat → Nat) (l : List Nat) (k : Nat) : List Nat := (l.take k).map f
theorem mpl_succ {f : Nat → Nat} {l : List Nat} {k : Nat} (h : k < l.length) : mpl f l (k + 1) = mpl f l k ++ [f (l.getD k 0)] := by simp [mpl, take_succ' h]
theorem mpl_all (f : Nat → Nat) (l : List Nat) : mpl f l l.length = l.map f := by simp [mpl]
@[simp] theorem mpl_len {f : Nat → Nat} {l : List Nat} {k : Nat} (h : k ≤ l.length) : (mpl f l k).length = k := by simp [mpl]; omega
/-! ### without its sign -/
def absF (x : Nat) : Nat := cn (x % 9223372036854775808)
theorem absF_cn (b : Nat) : absF (cn b) = cn (b % 9223372036854775808) := by
  unfold absF
  have key : ∀ b, isNaN (b % 9223372036854775808) = isNaN b := by
    intro b
    have e : ∀ x, isNaN x = decide (9218868437227405312 < x % 9223372036854775808) := by
      intro x
      have e1 : Ieee.double.signWeight = 9223372036854775808 := by decide
      have e2 : Ieee.double.binade = 4503599627370496 := by decide
      have e3 : Ieee.double.infRung = 9218868437227405312 := by decide
      unfold isNaN Ieee.Format.read
      simp only [e1, e2, e3]
      split
      · simp [Ieee.Datum.isNaN]; omega
      · split
        · simp [Ieee.Datum.isNaN]; omega
        · split
          · simp [Ieee.Datum.isNaN]; omega
          · simp [Ieee.Datum.isNaN]; omega
    rw [e, e, Nat.mod_mod]
  rcases cn_cases b with ⟨h1, h2⟩ | ⟨h1, h2⟩
  · rw [h2]
    have h3 : isNaN (b % 9223372036854775808) = true := by rw [key]; exact h1
    have h4 : isNaN (qn % 9223372036854775808) = true := by rw [key]; decide
    simp only [cn, h3, h4, if_true]
  · rw [h2]
/-- the greatest of numbers, and of 0; the first that is none, if there is one -/
def mxF (m x : Nat) : Nat := if flt m x then x else m
theorem mxF_T {m x : Nat} (h : flt m x = true) : mxF m x = x := by simp [mxF, h]
theorem mxF_F {m x : Nat} (h : flt m x = false) : mxF m x = m := by simp [mxF, h]
def greatF (l : List Nat) : Nat :=
  match l.find? (fun x => !feq x x) with
  | some x => x
  | none => l.foldl mxF 0
theorem first_nan : ∀ (l : List Nat), ∃ N, N ≤ l.length ∧ (∀ k, k < N → feq (l.getD k 0) (l.getD k 0) = true) ∧ (N < l.length → feq (l.getD N 0) (l.getD N 0) = false ∧ greatF l = l.getD N 0) ∧ (N = l.length → greatF l = l.foldl mxF 0)
  | l => by
    have key : ∀ l : List Nat, ∃ N, N ≤ l.length ∧ (∀ k, k < N → feq (l.getD k 0) (l.getD k 0) = true) ∧ (N < l.length → feq (l.getD N 0) (l.getD N 0) = false ∧ l.find? (fun x => !feq x x) = some (l.getD N 0)) ∧ (N = l.length → l.find? (fun x => !feq x x) = none) := by
      intro l
      induction l with
      | nil => exact ⟨0, Nat.le_refl _, by simp, by simp, by simp⟩
      | cons a l ih =>
        by_cases h : feq a a = true
        · obtain ⟨N, h1, h2, h3, h4⟩ := ih
          refine ⟨N + 1, by simp; omega, fun k hk => ?_, fun hN => ?_, fun hN => ?_⟩
          · cases k with
            | zero => simpa using h
            | succ k => simpa using h2 k (by omega)
          · have := h3 (by simp at hN; omega)
            refine ⟨by simpa using this.1, ?_⟩
            rw [List.find?_cons_of_neg (by simp [h])]
            simpa using this.2
          · rw [List.find?_cons_of_neg (by simp [h])]
            exact h4 (by simp at hN; omega)
        · refine ⟨0, by omega, by simp, fun _ => ⟨by simpa using h, ?_⟩, by simp⟩
          rw [List.find?_cons_of_pos (by simpa using h)]; simp
    obtain ⟨N, h1, h2, h3, h4⟩ := key l
    refine ⟨N, h1, h2, fun h => ⟨(h3 h).1, ?_⟩, fun h => ?_⟩
    · unfold greatF; rw [(h3 h).2]
    · unfold greatF; rw [h4 h]
def asumF (l : List Nat) : Nat := l.foldl (fun s x => fadd s (absF x)) 0
def sumF (l : List Nat) : Nat := l.foldl fadd 0
theorem asum_sum (l : List Nat) : sumF (l.map absF) = asumF l := by simp [sumF, asumF, List.foldl_map]
theorem andn63 (b : Nat) (h : b < 2 ^ 64) : bitsI .andNot .u64 b 9223372036854775808 = ((b % 9223372036854775808 : Nat) : Int) := by
  have e1 : (BitVec.ofInt 64 (b : Int)).toNat = b := by
    rw [BitVec.toNat_ofInt]
    omega
  have e2 : ~~~(BitVec.ofInt 64 (9223372036854775808 : Int)) = BitVec.ofNat 64 (2 ^ 63 - 1) := by decide
  simp only [bitsI]
  show IntKind.u64.wrap ((BitVec.ofInt 64 (b : Int) &&& ~~~(BitVec.ofInt 64 (9223372036854775808 : Int))).toNat : Int) = _
  rw [e2, BitVec.toNat_and, e1, BitVec.toNat_ofNat]
  have e3 : (2 ^ 63 - 1) % 2 ^ 64 = 2 ^ 63 - 1 := by decide
  rw [e3, Nat.and_two_pow_sub_one_eq_mod]
  rw [wrapU (by omega)]
theorem v_andn {e : List (Nat × EV)} {L : List (Nat × List AV)} {H : List (List AV)} {K : St → Prop} {dd b : Nat} (hb : b < 2 ^ 64) (h : K ⟨(dd, .val (.int .u64 ((b % 9223372036854775808 : Nat) : Int))) :: e, L, H⟩) : valK dd K ⟨e, L, H⟩ (some (True, .int .u64 (bitsI .andNot .u64 (b : Int) 9223372036854775808))) := by
  rw [andn63 b hb]; exact ⟨trivial, h⟩
/-! ### vectors -/
abbrev vt (D : AV) (off n inc : Int) : AV := .agg [D, .int .i64 off, .int .i64 n, .int .i64 inc]
structure VI (m : Nat) (off n inc : Int) : Prop where
  m : m ≤ 9223372036854775807
  o1 : -9223372036854775808 ≤ off
  o2 : off ≤ 9223372036854775807
  n1 : -9223372036854775808 ≤ n
  n2 : n ≤ 9223372036854775807
  i1 : -9223372036854775808 ≤ inc
  i2 : inc ≤ 9223372036854775807
def RightP (m : Nat) (off n inc : Int) : Prop := 0 ≤ n ∧ 1 ≤ inc ∧ 0 ≤ off ∧ (n = 0 ∨ (off < m ∧ (n - 1) * inc ≤ m - 1 - off))
instance (m : Nat) (off n inc : Int) : Decidable (RightP m off n inc) := by unfold RightP; infer_instance
theorem right_at {m : Nat} {off n inc i : Int} (h : RightP m off n inc) (hi : 0 ≤ i) (hi' : i < n) : 0 ≤ i * inc ∧ 0 ≤ off + i * inc ∧ off + i * inc < m ∧ 0 ≤ off ∧ 1 ≤ inc := by
  obtain ⟨h1, h2, h3, h4⟩ := h
  have h7 : i * inc ≤ (n - 1) * inc := Int.mul_le_mul_of_nonneg_right (by omega) (by omega)
  have h8 : 0 ≤ i * inc := Int.mul_nonneg hi (by omega)
  exact ⟨h8, by omega, by omega, h3, h2⟩
/-- the numbers of a vector -/
def vecL (l : List Nat) (off n inc : Int) : List Nat := (List.range n.toNat).map fun (k : Nat) => l.getD (off + (k : Int) * inc).toNat 0
@[simp] theorem vecL_len (l : List Nat) (off n inc : Int) : (vecL l off n inc).length = n.toNat := by simp [vecL]
theorem vecL_get {l : List Nat} {off n inc : Int} {k : Nat} (h : k < n.toNat) : (vecL l off n inc).getD k 0 = l.getD (off + (k : Int) * inc).toNat 0 := by
  simp [vecL, List.getD, h]
end Go.Sx

set_option linter.unusedVariables false
set_option linter.unusedSimpArgs false
namespace Go.Sx
theorem cells_of_len {D : AV} {n : Nat} (h : slen D = some n) : D.cells = some [D] := by
  cases D <;> first | rfl | (simp [slen] at h; done)
def cOff (off rows ld j : Int) : Int := if 0 < rows then off + j * ld else off
def rOff (off cols i : Int) : Int := if 0 < cols then off + i else off
theorem col_right {n : Nat} {off rows cols ld j : Int} (h : GoodP n off rows cols ld) (hj : 0 ≤ j) (hj' : j < cols) : RightP n (cOff off rows ld j) rows 1 := by
  obtain ⟨h1, h2, h3, h4, h5, h6⟩ := id h
  unfold cOff
  split
  · rename_i hr
    have hp := good_place h (i := 0) (j := j) (by omega) hj hr hj'
    have hq := good_place h (i := rows - 1) (j := j) (by omega) hj (by omega) hj'
    refine ⟨h1, by omega, by omega, ?_⟩
    omega
  · exact ⟨h1, by omega, h3, .inl (by omega)⟩
theorem cOff_le {n : Nat} {off rows cols ld j : Int} (h : GoodP n off rows cols ld) (hj : 0 ≤ j) (hj' : j < cols) (hn : n ≤ 9223372036854775807) (ho : off ≤ 9223372036854775807 := by omega) : cOff off rows ld j ≤ 9223372036854775807 := by
  unfold cOff
  split
  · have := good_place h (i := 0) (j := j) (by omega) hj (by assumption) hj'
    omega
  · exact ho
theorem right_VI {n : Nat} {off m inc : Int} (h : RightP n off m inc) (hn : n ≤ 9223372036854775807) (hm : m ≤ 9223372036854775807) (hi : inc ≤ 9223372036854775807) (ho : off ≤ 9223372036854775807) : VI n off m inc := by
  obtain ⟨h1, h2, h3, h4⟩ := h
  exact ⟨hn, by omega, ho, by omega, hm, by omega, hi⟩
/-- what is told of each of the first -/
def rml (g : Nat → Nat) (k : Nat) : List Nat := (List.range k).map g
@[simp] theorem rml_len (g : Nat → Nat) (k : Nat) : (rml g k).length = k := by simp [rml]
theorem rml_succ (g : Nat → Nat) (k : Nat) : rml g (k + 1) = rml g k ++ [g k] := by simp [rml, List.range_succ]
theorem rml_fl (g : Nat → Nat) (k : Nat) : fl (rml g k) ++ [.flt (g k)] = fl (rml g (k + 1)) := by rw [rml_succ]; simp [fl]
theorem rml_get {g : Nat → Nat} {n k : Nat} (h : k < n) : (rml g n).getD k 0 = g k := by simp [rml, List.getD, h]
theorem rml_congr {g g' : Nat → Nat} {n : Nat} (h : ∀ k, k < n → g k = g' k) : rml g n = rml g' n := by
  unfold rml; exact List.map_congr_left (fun k hk => h k (by simpa using hk))
/-- a matrix' number -/
def mel (l : List Nat) (off ld : Int) (i j : Nat) : Nat := l.getD (off + (i : Int) + (j : Int) * ld).toNat 0
/-- a column's numbers, a row's -/
def colL (g : Nat → Nat → Nat) (r j : Nat) : List Nat := rml (fun i => g i j) r
theorem vec_col (l : List Nat) (off rows ld : Int) (j : Nat) (h : 0 ≤ rows) : vecL l (cOff off rows ld j) rows 1 = colL (mel l off ld) rows.toNat j := by
  unfold vecL colL rml
  apply List.map_congr_left
  intro k hk
  simp only [List.mem_range] at hk
  have : 0 < rows := by omega
  simp only [cOff, this, if_true, mel, Int.mul_one]
  congr 2; omega
end Go.Sx

set_option linter.unusedVariables false
set_option linter.unusedSimpArgs false
namespace Go.Sx
/-! ### tables, row by row -/
abbrev mM (A : AV) (r c : Int) : AV := .agg [.int .i64 r, .int .i64 c, A]
def rmA (g : Nat → Nat → Nat) (r c : Nat) : List Nat := rml (fun k => g (k / c) (k % c)) (r * c)
@[simp] theorem rmA_len (g : Nat → Nat → Nat) (r c : Nat) : (rmA g r c).length = r * c := by simp [rmA]
theorem ix_lt {r c i j : Nat} (hi : i < r) (hj : j < c) : i * c + j < r * c := by
  have h1 : (i + 1) * c ≤ r * c := Nat.mul_le_mul_right _ hi
  rw [Nat.add_mul, Nat.one_mul] at h1
  omega
theorem ix_div {c i j : Nat} (hj : j < c) : (i * c + j) / c = i := by
  rw [Nat.mul_comm, Nat.mul_add_div (by omega), Nat.div_eq_of_lt hj, Nat.add_zero]
theorem ix_mod {c i j : Nat} (hj : j < c) : (i * c + j) % c = j := by
  rw [Nat.mul_comm, Nat.mul_add_mod, Nat.mod_eq_of_lt hj]
theorem rmA_get {g : Nat → Nat → Nat} {r c i j : Nat} (hi : i < r) (hj : j < c) : (rmA g r c).getD (i * c + j) 0 = g i j := by
  rw [rmA, rml_get (ix_lt hi hj), ix_div hj, ix_mod hj]
/-- a table filled so far -/
def ofL (g : Nat → Nat → Nat) (r c n : Nat) : List Nat := rml (fun k => if k < n then g (k / c) (k % c) else 0) (r * c)
@[simp] theorem ofL_len (g : Nat → Nat → Nat) (r c n : Nat) : (ofL g r c n).length = r * c := by simp [ofL]
theorem ofL_zero (g : Nat → Nat → Nat) (r c : Nat) : ofL g r c 0 = List.replicate (r * c) 0 := by
  apply List.ext_getElem
  · simp
  · intro i h1 h2; simp [ofL, rml]
theorem ofL_all (g : Nat → Nat → Nat) (r c : Nat) : ofL g r c (r * c) = rmA g r c := by
  unfold ofL rmA
  exact rml_congr fun k hk => by rw [if_pos hk]
theorem ofL_set {g : Nat → Nat → Nat} {r c i j : Nat} (hi : i < r) (hj : j < c) {x : Nat} (hx : x = g i j) : (ofL g r c (i * c + j)).set (i * c + j) x = ofL g r c (i * c + j + 1) := by
  have hlt := ix_lt hi hj
  subst hx
  apply List.ext_getElem
  · simp
  · intro k h1 h2
    simp only [ofL_len] at h2
    rw [List.getElem_set]
    split
    · rename_i hk
      subst hk
      simp [ofL, rml, ix_div hj, ix_mod hj]
    · rename_i hk
      simp only [ofL, rml, List.getElem_map, List.getElem_range]
      by_cases h : k < i * c + j
      · rw [if_pos h, if_pos (by omega)]
      · rw [if_neg h, if_neg (by omega)]
end Go.Sx

set_option linter.unusedVariables false
set_option linter.unusedSimpArgs false
namespace Go.Sx
/-! ### steps whose facts are found by themselves -/
section
variable {P : Program} {cfg : Cfg} {dr : Array Oper → (St → Prop) → St → Prop} {e : List (Nat × EV)} {L : List (Nat × List AV)} {H : List (List AV)} {Q : XE → St → Prop} {K : St → Prop}
variable {kn : Option (Nat × Bool)} {ops : Array Oper} {d : Option Tmp} {o : Op} {ty : TypeId} {pos : String} {aft : Array Edge} {rest : List Oper} {j : Nat} {b want : Bool} {gd : Option (Nat × Bool)} {dd : Nat}
theorem m00 {op : BinOp} {t t' : TypeId} {x y : Operand} {vx vy : EV} {r : Option (Prop × AV)} (h : valK dd K ⟨e, L, H⟩ r) (hx : St.ev ⟨e, L, H⟩ x = vx := by (conv => {lhs; whnf}); done) (hy : St.ev ⟨e, L, H⟩ y = vy := by (conv => {lhs; whnf}); done) (hr : binV P op t vx vy = r := by (conv => {lhs; whnf}); done) : opX P cfg ⟨some dd, .binOp op t x y t', ty, pos, aft, gd⟩ K ⟨e, L, H⟩ := b_bin hx hy hr h
end
section
variable {P : Program} {cfg : Cfg} {dr : Array Oper → (St → Prop) → St → Prop} {e : List (Nat × EV)} {L : List (Nat × List AV)} {H : List (List AV)} {Q : XE → St → Prop} {K : St → Prop}
variable {kn : Option (Nat × Bool)} {ops : Array Oper} {d : Option Tmp} {o : Op} {ty : TypeId} {pos : String} {aft : Array Edge} {rest : List Oper} {j : Nat} {b want : Bool} {gd : Option (Nat × Bool)} {dd : Nat}
theorem m01 {t : TypeId} {x : Operand} {vx : EV} {r : Option (List AV)} {cs : List AV} (h : K ⟨(dd, .loc dd 0) :: e, (dd, cs) :: L, H⟩) (hx : St.ev ⟨e, L, H⟩ x = vx := by (conv => {lhs; whnf}); done) (hr : vx.asV.bind AV.cells = r := by exact rfl) (hcs : r = some cs := by exact rfl) (hesc : cfg.esc = false := by exact rfl) (hn : noLoc dd e = true := by exact rfl) : opX P cfg ⟨some dd, .box t x, ty, pos, aft, gd⟩ K ⟨e, L, H⟩ := b_box hx hr hcs hesc hn h
end
section
variable {P : Program} {cfg : Cfg} {dr : Array Oper → (St → Prop) → St → Prop} {e : List (Nat × EV)} {L : List (Nat × List AV)} {H : List (List AV)} {Q : XE → St → Prop} {K : St → Prop}
variable {kn : Option (Nat × Bool)} {ops : Array Oper} {d : Option Tmp} {o : Op} {ty : TypeId} {pos : String} {aft : Array Edge} {rest : List Oper} {j : Nat} {b want : Bool} {gd : Option (Nat × Bool)} {dd : Nat}
theorem m02 {x t n : Nat} {rs : List ResultVar} {acc : List AV} {k : List AV → Prop} [ti : TyI P t n true] {key off : Nat} {cs l : List AV} (h : rK P rs (acc ++ [.agg l]) k ⟨e, L, H⟩) (hx : St.ev ⟨e, L, H⟩ (.tmp x) = .loc key off := by (conv => {lhs; whnf}); done) (hc : lk L key = some cs := by exact rfl) (hl : gc cs off n = some l := by exact rfl) : rK P (.cell x t :: rs) acc k ⟨e, L, H⟩ := rk_cellA hx hc hl h
end
section
variable {P : Program} {cfg : Cfg} {dr : Array Oper → (St → Prop) → St → Prop} {e : List (Nat × EV)} {L : List (Nat × List AV)} {H : List (List AV)} {Q : XE → St → Prop} {K : St → Prop}
variable {kn : Option (Nat × Bool)} {ops : Array Oper} {d : Option Tmp} {o : Op} {ty : TypeId} {pos : String} {aft : Array Edge} {rest : List Oper} {j : Nat} {b want : Bool} {gd : Option (Nat × Bool)} {dd : Nat}
theorem m03 {x t : Nat} {rs : List ResultVar} {acc : List AV} {k : List AV → Prop} [ti : TyI P t 1 false] {key off : Nat} {cs : List AV} {v : AV} (h : rK P rs (acc ++ [v]) k ⟨e, L, H⟩) (hx : St.ev ⟨e, L, H⟩ (.tmp x) = .loc key off := by (conv => {lhs; whnf}); done) (hc : lk L key = some cs := by exact rfl) (hl : cs[off]? = some v := by exact rfl) : rK P (.cell x t :: rs) acc k ⟨e, L, H⟩ := rk_cell1 hx hc hl h
end
section
variable {P : Program} {cfg : Cfg} {dr : Array Oper → (St → Prop) → St → Prop} {e : List (Nat × EV)} {L : List (Nat × List AV)} {H : List (List AV)} {Q : XE → St → Prop} {K : St → Prop}
variable {kn : Option (Nat × Bool)} {ops : Array Oper} {d : Option Tmp} {o : Op} {ty : TypeId} {pos : String} {aft : Array Edge} {rest : List Oper} {j : Nat} {b want : Bool} {gd : Option (Nat × Bool)} {dd : Nat}
theorem m04 {t : Nat} {rs : List ResultVar} {acc : List AV} {k : List AV → Prop} {v : AV} (h : rK P rs (acc ++ [v]) k ⟨e, L, H⟩) (hv : St.ev ⟨e, L, H⟩ (.tmp t) = .val v := by (conv => {lhs; whnf}); done) : rK P (.tmp t :: rs) acc k ⟨e, L, H⟩ := rk_tmp hv h
end
section
variable {P : Program} {cfg : Cfg} {dr : Array Oper → (St → Prop) → St → Prop} {e : List (Nat × EV)} {L : List (Nat × List AV)} {H : List (List AV)} {Q : XE → St → Prop} {K : St → Prop}
variable {kn : Option (Nat × Bool)} {ops : Array Oper} {d : Option Tmp} {o : Op} {ty : TypeId} {pos : String} {aft : Array Edge} {rest : List Oper} {j : Nat} {b want : Bool} {gd : Option (Nat × Bool)} {dd : Nat}
theorem m05 {fn : Func} {H₀ H' : List (List AV)} {r : AV} {x : XE} {rs : List ResultVar} (h : rK P rs [] (RetV H₀ r H' H) ⟨e, L, H⟩) (hx : x = .ret ∨ x = .normal := by simp) (hf : fn.results.toList = rs := by (conv => {lhs; whnf}); done) : RetQ P fn H₀ r H' x ⟨e, L, H⟩ := b_retK hx hf h
end
section
variable {P : Program} {cfg : Cfg} {dr : Array Oper → (St → Prop) → St → Prop} {e : List (Nat × EV)} {L : List (Nat × List AV)} {H : List (List AV)} {Q : XE → St → Prop} {K : St → Prop}
variable {kn : Option (Nat × Bool)} {ops : Array Oper} {d : Option Tmp} {o : Op} {ty : TypeId} {pos : String} {aft : Array Edge} {rest : List Oper} {j : Nat} {b want : Bool} {gd : Option (Nat × Bool)} {dd : Nat}
theorem m06 {c : Operand} {x y : Code} {v : EV} (h : condK P cfg dr x y Q ⟨e, L, H⟩ v) (hv : St.ev ⟨e, L, H⟩ c = v := by (conv => {lhs; whnf}); done) : Ex P cfg dr (.cond c x y) Q ⟨e, L, H⟩ := b_cond hv h
end
section
variable {P : Program} {cfg : Cfg} {dr : Array Oper → (St → Prop) → St → Prop} {e : List (Nat × EV)} {L : List (Nat × List AV)} {H : List (List AV)} {Q : XE → St → Prop} {K : St → Prop}
variable {kn : Option (Nat × Bool)} {ops : Array Oper} {d : Option Tmp} {o : Op} {ty : TypeId} {pos : String} {aft : Array Edge} {rest : List Oper} {j : Nat} {b want : Bool} {gd : Option (Nat × Bool)} {dd : Nat}
theorem m07 {t : TypeId} {x : Operand} {v : EV} (h : loadK P t dd K ⟨e, L, H⟩ v) (hv : St.ev ⟨e, L, H⟩ x = v := by (conv => {lhs; whnf}); done) : opX P cfg ⟨some dd, .load t x, ty, pos, aft, gd⟩ K ⟨e, L, H⟩ := b_load hv h
end
section
variable {P : Program} {cfg : Cfg} {dr : Array Oper → (St → Prop) → St → Prop} {e : List (Nat × EV)} {L : List (Nat × List AV)} {H : List (List AV)} {Q : XE → St → Prop} {K : St → Prop}
variable {kn : Option (Nat × Bool)} {ops : Array Oper} {d : Option Tmp} {o : Op} {ty : TypeId} {pos : String} {aft : Array Edge} {rest : List Oper} {j : Nat} {b want : Bool} {gd : Option (Nat × Bool)} {dd : Nat}
theorem m08 {x : Operand} {v : EV} (h : K ⟨(dd, v) :: e, L, H⟩) (hv : St.ev ⟨e, L, H⟩ x = v := by (conv => {lhs; whnf}); done) : opX P cfg ⟨some dd, .assign x, ty, pos, aft, gd⟩ K ⟨e, L, H⟩ := b_assign hv h
end
section
variable {P : Program} {cfg : Cfg} {dr : Array Oper → (St → Prop) → St → Prop} {e : List (Nat × EV)} {L : List (Nat × List AV)} {H : List (List AV)} {Q : XE → St → Prop} {K : St → Prop}
variable {kn : Option (Nat × Bool)} {ops : Array Oper} {d : Option Tmp} {o : Op} {ty : TypeId} {pos : String} {aft : Array Edge} {rest : List Oper} {j : Nat} {b want : Bool} {gd : Option (Nat × Bool)} {dd : Nat}
theorem m09 {t j' : Nat} {b' : Bool} {v : EV} (h : guardK P cfg ops ⟨d, o, ty, pos, aft, some (j, want)⟩ j want t rest K ⟨e, L, H⟩ v) (ht : (ops[j]?).bind (·.dst) = some t := by exact rfl) (hd : (d == some t) = false := by exact rfl) (hj : (j' == j) = false := by exact rfl) (hv : St.ev ⟨e, L, H⟩ (.tmp t) = v := by (conv => {lhs; whnf}); done) : exOps P cfg ops (some (j', b')) (⟨d, o, ty, pos, aft, some (j, want)⟩ :: rest) K ⟨e, L, H⟩ := b_g1 ht hd hj hv h
end
section
variable {P : Program} {cfg : Cfg} {dr : Array Oper → (St → Prop) → St → Prop} {e : List (Nat × EV)} {L : List (Nat × List AV)} {H : List (List AV)} {Q : XE → St → Prop} {K : St → Prop}
variable {kn : Option (Nat × Bool)} {ops : Array Oper} {d : Option Tmp} {o : Op} {ty : TypeId} {pos : String} {aft : Array Edge} {rest : List Oper} {j : Nat} {b want : Bool} {gd : Option (Nat × Bool)} {dd : Nat}
theorem m10 {t : Nat} {v : EV} (h : guardK P cfg ops ⟨d, o, ty, pos, aft, some (j, want)⟩ j want t rest K ⟨e, L, H⟩ v) (ht : (ops[j]?).bind (·.dst) = some t := by exact rfl) (hd : (d == some t) = false := by exact rfl) (hv : St.ev ⟨e, L, H⟩ (.tmp t) = v := by (conv => {lhs; whnf}); done) : exOps P cfg ops none (⟨d, o, ty, pos, aft, some (j, want)⟩ :: rest) K ⟨e, L, H⟩ := b_g0 ht hd hv h
end
section
variable {P : Program} {cfg : Cfg} {dr : Array Oper → (St → Prop) → St → Prop} {e : List (Nat × EV)} {L : List (Nat × List AV)} {H : List (List AV)} {Q : XE → St → Prop} {K : St → Prop}
variable {kn : Option (Nat × Bool)} {ops : Array Oper} {d : Option Tmp} {o : Op} {ty : TypeId} {pos : String} {aft : Array Edge} {rest : List Oper} {j : Nat} {b want : Bool} {gd : Option (Nat × Bool)} {dd : Nat}
theorem m11 {t : Nat} (h : exOps P cfg ops kn rest K ⟨(dd, .val (.tup [])) :: e, L, H⟩) (ht : (ops[j]?).bind (·.dst) = some t := by exact rfl) (hd : (dd == t) = false := by exact rfl) (hk : kn ≠ some (j, want) ∧ kn ≠ some (j, !want) := by constructor <;> simp) (hv : St.ev ⟨e, L, H⟩ (.tmp t) = .val (.tup []) := by exact rfl) (hn : kn.any (fun p => ((ops[p.1]?).bind (·.dst)) == some dd) = false := by exact rfl) : exOps P cfg ops kn (⟨some dd, o, ty, pos, aft, some (j, want)⟩ :: rest) K ⟨e, L, H⟩ := b_gU ht hd hk hv hn h
end
section
variable {P : Program} {cfg : Cfg} {dr : Array Oper → (St → Prop) → St → Prop} {e : List (Nat × EV)} {L : List (Nat × List AV)} {H : List (List AV)} {Q : XE → St → Prop} {K : St → Prop}
variable {kn : Option (Nat × Bool)} {ops : Array Oper} {d : Option Tmp} {o : Op} {ty : TypeId} {pos : String} {aft : Array Edge} {rest : List Oper} {j : Nat} {b want : Bool} {gd : Option (Nat × Bool)} {dd : Nat}
theorem m12 {t : Nat} (h : exOps P cfg ops (some (j, b)) rest K ⟨(dd, .val (.tup [])) :: e, L, H⟩) (ht : (ops[j]?).bind (·.dst) = some t := by exact rfl) (hd : (dd == t) = false := by exact rfl) (hb : b = !want := by exact rfl) : exOps P cfg ops (some (j, b)) (⟨some dd, o, ty, pos, aft, some (j, want)⟩ :: rest) K ⟨e, L, H⟩ := b_gF ht hd hb h
end
section
variable {P : Program} {cfg : Cfg} {dr : Array Oper → (St → Prop) → St → Prop} {e : List (Nat × EV)} {L : List (Nat × List AV)} {H : List (List AV)} {Q : XE → St → Prop} {K : St → Prop}
variable {kn : Option (Nat × Bool)} {ops : Array Oper} {d : Option Tmp} {o : Op} {ty : TypeId} {pos : String} {aft : Array Edge} {rest : List Oper} {j : Nat} {b want : Bool} {gd : Option (Nat × Bool)} {dd : Nat}
theorem m13 {t : Nat} (h : opX P cfg ⟨d, o, ty, pos, aft, some (j, want)⟩ (exOps P cfg ops (some (j, want)) rest K) ⟨e, L, H⟩) (ht : (ops[j]?).bind (·.dst) = some t := by exact rfl) (hd : (d == some t) = false := by exact rfl) : exOps P cfg ops (some (j, want)) (⟨d, o, ty, pos, aft, some (j, want)⟩ :: rest) K ⟨e, L, H⟩ := b_gT ht hd h
end
section
variable {P : Program} {cfg : Cfg} {dr : Array Oper → (St → Prop) → St → Prop} {e : List (Nat × EV)} {L : List (Nat × List AV)} {H : List (List AV)} {Q : XE → St → Prop} {K : St → Prop}
variable {kn : Option (Nat × Bool)} {ops : Array Oper} {d : Option Tmp} {o : Op} {ty : TypeId} {pos : String} {aft : Array Edge} {rest : List Oper} {j : Nat} {b want : Bool} {gd : Option (Nat × Bool)} {dd : Nat}
theorem m14 {x : Operand} {v : EV} (h : K ⟨(dd, v) :: e, L, H⟩) (hv : St.ev ⟨e, L, H⟩ x = v := by (conv => {lhs; whnf}); done) : opX P cfg ⟨some dd, .move x, ty, pos, aft, gd⟩ K ⟨e, L, H⟩ := b_move hv h
end
section
variable {P : Program} {cfg : Cfg} {dr : Array Oper → (St → Prop) → St → Prop} {e : List (Nat × EV)} {L : List (Nat × List AV)} {H : List (List AV)} {Q : XE → St → Prop} {K : St → Prop}
variable {kn : Option (Nat × Bool)} {ops : Array Oper} {d : Option Tmp} {o : Op} {ty : TypeId} {pos : String} {aft : Array Edge} {rest : List Oper} {j : Nat} {b want : Bool} {gd : Option (Nat × Bool)} {dd : Nat}
theorem m15 {t : TypeId} {key off : Nat} {cs : List AV} {c : AV} [i : TyI P t 1 false] (hk : K ⟨(dd, .val c) :: e, L, H⟩) (h1 : lk L key = some cs := by exact rfl) (h2 : cs[off]? = some c := by exact rfl) : loadK P t dd K ⟨e, L, H⟩ (.loc key off) := l_loc1 h1 h2 hk
end
section
variable {P : Program} {cfg : Cfg} {dr : Array Oper → (St → Prop) → St → Prop} {e : List (Nat × EV)} {L : List (Nat × List AV)} {H : List (List AV)} {Q : XE → St → Prop} {K : St → Prop}
variable {kn : Option (Nat × Bool)} {ops : Array Oper} {d : Option Tmp} {o : Op} {ty : TypeId} {pos : String} {aft : Array Edge} {rest : List Oper} {j : Nat} {b want : Bool} {gd : Option (Nat × Bool)} {dd : Nat}
theorem m16 {t : TypeId} {key off n : Nat} {cs l : List AV} [i : TyI P t n true] (hk : K ⟨(dd, .val (.agg l)) :: e, L, H⟩) (h1 : lk L key = some cs := by exact rfl) (h2 : gc cs off n = some l := by exact rfl) : loadK P t dd K ⟨e, L, H⟩ (.loc key off) := l_locA h1 h2 hk
end
section
variable {P : Program} {cfg : Cfg} {dr : Array Oper → (St → Prop) → St → Prop} {e : List (Nat × EV)} {L : List (Nat × List AV)} {H : List (List AV)} {Q : XE → St → Prop} {K : St → Prop}
variable {kn : Option (Nat × Bool)} {ops : Array Oper} {d : Option Tmp} {o : Op} {ty : TypeId} {pos : String} {aft : Array Edge} {rest : List Oper} {j : Nat} {b want : Bool} {gd : Option (Nat × Bool)} {dd : Nat}
theorem m17 {t : TypeId} {x : Operand} {i off : Nat} {ft : TypeId} [fi : FldI P t i off ft] {v : EV} (h : faK dd K off ⟨e, L, H⟩ v) (hv : St.ev ⟨e, L, H⟩ x = v := by (conv => {lhs; whnf}); done) : opX P cfg ⟨some dd, .fieldAddr t x i, ty, pos, aft, gd⟩ K ⟨e, L, H⟩ := b_fa hv h
end
section
variable {P : Program} {cfg : Cfg} {dr : Array Oper → (St → Prop) → St → Prop} {e : List (Nat × EV)} {L : List (Nat × List AV)} {H : List (List AV)} {Q : XE → St → Prop} {K : St → Prop}
variable {kn : Option (Nat × Bool)} {ops : Array Oper} {d : Option Tmp} {o : Op} {ty : TypeId} {pos : String} {aft : Array Edge} {rest : List Oper} {j : Nat} {b want : Bool} {gd : Option (Nat × Bool)} {dd : Nat}
theorem m18 {s : AV} {off o m : Nat} (h : K ⟨(dd, .val (.eptr s m)) :: e, L, H⟩) (hm : off + o = m := by (conv => {lhs; whnf}); done) : faK dd K o ⟨e, L, H⟩ (.val (.eptr s off)) := f_ptr hm h
end
section
variable {P : Program} {cfg : Cfg} {dr : Array Oper → (St → Prop) → St → Prop} {e : List (Nat × EV)} {L : List (Nat × List AV)} {H : List (List AV)} {Q : XE → St → Prop} {K : St → Prop}
variable {kn : Option (Nat × Bool)} {ops : Array Oper} {d : Option Tmp} {o : Op} {ty : TypeId} {pos : String} {aft : Array Edge} {rest : List Oper} {j : Nat} {b want : Bool} {gd : Option (Nat × Bool)} {dd : Nat}
theorem m19 {key off o m : Nat} (h : K ⟨(dd, .loc key m) :: e, L, H⟩) (hm : off + o = m := by (conv => {lhs; whnf}); done) : faK dd K o ⟨e, L, H⟩ (.loc key off) := f_loc hm h
end
section
variable {P : Program} {cfg : Cfg} {dr : Array Oper → (St → Prop) → St → Prop} {e : List (Nat × EV)} {L : List (Nat × List AV)} {H : List (List AV)} {Q : XE → St → Prop} {K : St → Prop}
variable {kn : Option (Nat × Bool)} {ops : Array Oper} {d : Option Tmp} {o : Op} {ty : TypeId} {pos : String} {aft : Array Edge} {rest : List Oper} {j : Nat} {b want : Bool} {gd : Option (Nat × Bool)} {dd : Nat}
theorem m20 {op : UnOp} {t : TypeId} {x : Operand} {vx : EV} {r : Option (Prop × AV)} (h : valK dd K ⟨e, L, H⟩ r) (hx : St.ev ⟨e, L, H⟩ x = vx := by (conv => {lhs; whnf}); done) (hr : unV op vx = r := by (conv => {lhs; whnf}); done) : opX P cfg ⟨some dd, .unOp op t x, ty, pos, aft, gd⟩ K ⟨e, L, H⟩ := b_un hx hr h
end
section
theorem m21 {P : Program} {cfg : Cfg} {e : List (Nat × EV)} {L : List (Nat × List AV)} {H : List (List AV)} {K : St → Prop} {dd id : Nat} {acc : List AV} {x : Operand} {xs : List Operand} {v : AV} (h : argK P cfg id xs (acc ++ [v]) dd K ⟨e, L, H⟩) (hv : St.ev ⟨e, L, H⟩ x = .val v := by (conv => {lhs; whnf}); done) : argK P cfg id (x :: xs) acc dd K ⟨e, L, H⟩ := a_cons hv h
end
section
variable {P : Program} {cfg : Cfg} {dr : Array Oper → (St → Prop) → St → Prop} {e : List (Nat × EV)} {L : List (Nat × List AV)} {H : List (List AV)} {Q : XE → St → Prop} {K : St → Prop}
variable {kn : Option (Nat × Bool)} {ops : Array Oper} {d : Option Tmp} {o : Op} {ty : TypeId} {pos : String} {aft : Array Edge} {rest : List Oper} {j : Nat} {b want : Bool} {gd : Option (Nat × Bool)} {dd : Nat}
theorem m22 {x y z : Operand} {v : EV} (h : pickK dd K y z ⟨e, L, H⟩ v) (hv : St.ev ⟨e, L, H⟩ x = v := by (conv => {lhs; whnf}); done) : opX P cfg ⟨some dd, .pick x y z, ty, pos, aft, gd⟩ K ⟨e, L, H⟩ := b_pick hv h
end
section
variable {P : Program} {cfg : Cfg} {e e' : List (Nat × EV)} {L : List (Nat × List AV)} {H : List (List AV)} {Q : XE → St → Prop} {K : St → Prop}
variable {kn : Option (Nat × Bool)} {ops : Array Oper} {nY : NY} {d : Option Tmp} {o : Op} {ty : TypeId} {pos : String} {aft : Array Edge} {rest : List (Nat × DFl)} {i j : Nat} {f : DFl} {b want : Bool} {gd : Option (Nat × Bool)} {dd : Nat}
theorem m23 {x : Operand} {n : Nat} {vs : List AV} {v : AV} (h : K ⟨(dd, .val v) :: e, L, H⟩) (hx : St.ev ⟨e, L, H⟩ x = .val (.tup vs) := by (conv => {lhs; whnf}); done) (hv : vs[n]? = some v := by exact rfl) : opX P cfg ⟨some dd, .extract x n, ty, pos, aft, gd⟩ K ⟨e, L, H⟩ := b_ext hx hv h
end
section
variable {P : Program} {cfg : Cfg} {dr : Array Oper → (St → Prop) → St → Prop} {e : List (Nat × EV)} {L : List (Nat × List AV)} {H : List (List AV)} {Q : XE → St → Prop} {K : St → Prop}
variable {kn : Option (Nat × Bool)} {ops : Array Oper} {d : Option Tmp} {o : Op} {ty : TypeId} {pos : String} {aft : Array Edge} {rest : List Oper} {j : Nat} {b want : Bool} {gd : Option (Nat × Bool)} {dd : Nat}
theorem m24 {t : TypeId} {cs : List AV} [z : ZI P t cs] (h : K ⟨(dd, .loc dd 0) :: e, (dd, cs) :: L, H⟩) (hesc : cfg.esc = false := by exact rfl) (hn : noLoc dd e = true := by exact rfl) : opX P cfg ⟨some dd, .alloc t, ty, pos, aft, gd⟩ K ⟨e, L, H⟩ := b_alloc hesc hn h
end
section
variable {P : Program} {cfg : Cfg} {e e' : List (Nat × EV)} {L : List (Nat × List AV)} {H : List (List AV)} {Q : XE → St → Prop} {K : St → Prop}
variable {kn : Option (Nat × Bool)} {ops : Array Oper} {nY : NY} {d : Option Tmp} {o : Op} {ty : TypeId} {pos : String} {aft : Array Edge} {rest : List (Nat × DFl)} {i j : Nat} {f : DFl} {b want : Bool} {gd : Option (Nat × Bool)} {dd : Nat}
theorem m25 {t : TypeId} {x v : Operand} {key off n : Nat} {a : Bool} {cs vs cs' : List AV} [ti : TyI P t n a] {ev : EV} (h : K ⟨e, (key, cs') :: L, H⟩) (hx : St.ev ⟨e, L, H⟩ x = .loc key off := by (conv => {lhs; whnf}); done) (hv : St.ev ⟨e, L, H⟩ v = ev := by (conv => {lhs; whnf}); done) (hvs : ev.asV.bind AV.cells = some vs := by first | exact rfl | exact cells_of_len (FL.len (by assumption)) | exact cells_of_len (IL.len (by assumption)) | fail) (hn : vs.length = n := by exact rfl) (hc : lk L key = some cs := by exact rfl) (hle : off + vs.length ≤ cs.length := by exact Nat.le_of_ble_eq_true rfl) (hcs : sc cs off vs = cs' := by (conv => {lhs; simp only [sc, List.set_cons_zero, List.set_cons_succ]}); done) : opX P cfg ⟨none, .store t x v, ty, pos, aft, gd⟩ K ⟨e, L, H⟩ := b_stL hx hv hvs hn hc hle hcs h
end
section
variable {P : Program} {cfg : Cfg} {dr : Array Oper → (St → Prop) → St → Prop} {e : List (Nat × EV)} {L : List (Nat × List AV)} {H : List (List AV)} {Q : XE → St → Prop} {K : St → Prop}
variable {kn : Option (Nat × Bool)} {ops : Array Oper} {d : Option Tmp} {o : Op} {ty : TypeId} {pos : String} {aft : Array Edge} {rest : List Oper} {j : Nat} {b want : Bool} {gd : Option (Nat × Bool)} {dd : Nat}
theorem m26 {y z : Operand} {v : EV} (h : K ⟨(dd, v) :: e, L, H⟩) (hv : St.ev ⟨e, L, H⟩ y = v := by (conv => {lhs; whnf}); done) : pickK dd K y z ⟨e, L, H⟩ (.val (.bool true)) := p_T hv h
end
section
variable {P : Program} {cfg : Cfg} {dr : Array Oper → (St → Prop) → St → Prop} {e : List (Nat × EV)} {L : List (Nat × List AV)} {H : List (List AV)} {Q : XE → St → Prop} {K : St → Prop}
variable {kn : Option (Nat × Bool)} {ops : Array Oper} {d : Option Tmp} {o : Op} {ty : TypeId} {pos : String} {aft : Array Edge} {rest : List Oper} {j : Nat} {b want : Bool} {gd : Option (Nat × Bool)} {dd : Nat}
theorem m27 {y z : Operand} {v : EV} (h : K ⟨(dd, v) :: e, L, H⟩) (hv : St.ev ⟨e, L, H⟩ z = v := by (conv => {lhs; whnf}); done) : pickK dd K y z ⟨e, L, H⟩ (.val (.bool false)) := p_F hv h
end
section
variable {P : Program} {cfg : Cfg} {e e' : List (Nat × EV)} {L : List (Nat × List AV)} {H : List (List AV)} {Q : XE → St → Prop} {K : St → Prop}
variable {kn : Option (Nat × Bool)} {ops : Array Oper} {nY : NY} {d : Option Tmp} {o : Op} {ty : TypeId} {pos : String} {aft : Array Edge} {rest : List (Nat × DFl)} {i j : Nat} {f : DFl} {b want : Bool} {gd : Option (Nat × Bool)} {dd : Nat}
theorem m28 {t : Nat} {v : EV} (h : guardD P cfg ops nY f ⟨d, o, ty, pos, aft, some (j, want)⟩ j want t rest K ⟨e, L, H⟩ v) (ho : ops[i]? = some ⟨d, o, ty, pos, aft, some (j, want)⟩ := by exact rfl) (ht : (ops[j]?).bind (·.dst) = some t := by exact rfl) (hd : (d == some t) = false := by exact rfl) (hv : St.ev ⟨e, L, H⟩ (.tmp t) = v := by (conv => {lhs; whnf}); done) : exD P cfg ops nY none ((i, f) :: rest) K ⟨e, L, H⟩ := d_g0 ho ht hd hv h
end
section
variable {P : Program} {cfg : Cfg} {e e' : List (Nat × EV)} {L : List (Nat × List AV)} {H : List (List AV)} {Q : XE → St → Prop} {K : St → Prop}
variable {kn : Option (Nat × Bool)} {ops : Array Oper} {nY : NY} {d : Option Tmp} {o : Op} {ty : TypeId} {pos : String} {aft : Array Edge} {rest : List (Nat × DFl)} {i j : Nat} {f : DFl} {b want : Bool} {gd : Option (Nat × Bool)} {dd : Nat}
theorem m29 {t j' : Nat} {b' : Bool} {v : EV} (h : guardD P cfg ops nY f ⟨d, o, ty, pos, aft, some (j, want)⟩ j want t rest K ⟨e, L, H⟩ v) (ho : ops[i]? = some ⟨d, o, ty, pos, aft, some (j, want)⟩ := by exact rfl) (ht : (ops[j]?).bind (·.dst) = some t := by exact rfl) (hd : (d == some t) = false := by exact rfl) (hj : (j' == j) = false := by exact rfl) (hv : St.ev ⟨e, L, H⟩ (.tmp t) = v := by (conv => {lhs; whnf}); done) : exD P cfg ops nY (some (j', b')) ((i, f) :: rest) K ⟨e, L, H⟩ := d_g1 ho ht hd hj hv h
end
section
variable {P : Program} {cfg : Cfg} {e e' : List (Nat × EV)} {L : List (Nat × List AV)} {H : List (List AV)} {Q : XE → St → Prop} {K : St → Prop}
variable {kn : Option (Nat × Bool)} {ops : Array Oper} {nY : NY} {d : Option Tmp} {o : Op} {ty : TypeId} {pos : String} {aft : Array Edge} {rest : List (Nat × DFl)} {i j : Nat} {f : DFl} {b want : Bool} {gd : Option (Nat × Bool)} {dd : Nat}
theorem m30 {t : Nat} (h : exD P cfg ops nY kn rest K ⟨(dd, .val (.tup [])) :: e, L, H⟩) (ho : ops[i]? = some ⟨some dd, o, ty, pos, aft, some (j, want)⟩ := by exact rfl) (ht : (ops[j]?).bind (·.dst) = some t := by exact rfl) (hd : (dd == t) = false := by exact rfl) (hk : kn ≠ some (j, want) ∧ kn ≠ some (j, !want) := by constructor <;> simp) (hv : St.ev ⟨e, L, H⟩ (.tmp t) = .val (.tup []) := by exact rfl) (hn : kn.any (fun p => ((ops[p.1]?).bind (·.dst)) == some dd) = false := by exact rfl) : exD P cfg ops nY kn ((i, f) :: rest) K ⟨e, L, H⟩ := d_gU ho ht hd hk hv hn h
end
section
variable {P : Program} {cfg : Cfg} {e e' : List (Nat × EV)} {L : List (Nat × List AV)} {H : List (List AV)} {Q : XE → St → Prop} {K : St → Prop}
variable {kn : Option (Nat × Bool)} {ops : Array Oper} {nY : NY} {d : Option Tmp} {o : Op} {ty : TypeId} {pos : String} {aft : Array Edge} {rest : List (Nat × DFl)} {i j : Nat} {f : DFl} {b want : Bool} {gd : Option (Nat × Bool)} {dd : Nat}
theorem m31 {t : Nat} (h : exD P cfg ops nY (some (j, b)) rest K ⟨(dd, .val (.tup [])) :: e, L, H⟩) (ho : ops[i]? = some ⟨some dd, o, ty, pos, aft, some (j, want)⟩ := by exact rfl) (ht : (ops[j]?).bind (·.dst) = some t := by exact rfl) (hd : (dd == t) = false := by exact rfl) (hb : b = !want := by exact rfl) : exD P cfg ops nY (some (j, b)) ((i, f) :: rest) K ⟨e, L, H⟩ := d_gF ho ht hd hb h
end
section
variable {P : Program} {cfg : Cfg} {e e' : List (Nat × EV)} {L : List (Nat × List AV)} {H : List (List AV)} {Q : XE → St → Prop} {K : St → Prop}
variable {kn : Option (Nat × Bool)} {ops : Array Oper} {nY : NY} {d : Option Tmp} {o : Op} {ty : TypeId} {pos : String} {aft : Array Edge} {rest : List (Nat × DFl)} {i j : Nat} {f : DFl} {b want : Bool} {gd : Option (Nat × Bool)} {dd : Nat}
theorem m32 {t : Nat} (h : opX P cfg ⟨d, o, ty, pos, aft, some (j, want)⟩ (ckK f nY ⟨d, o, ty, pos, aft, some (j, want)⟩ ⟨e, L, H⟩ (exD P cfg ops nY (some (j, want)) rest K)) ⟨e, L, H⟩) (ho : ops[i]? = some ⟨d, o, ty, pos, aft, some (j, want)⟩ := by exact rfl) (ht : (ops[j]?).bind (·.dst) = some t := by exact rfl) (hd : (d == some t) = false := by exact rfl) : exD P cfg ops nY (some (j, want)) ((i, f) :: rest) K ⟨e, L, H⟩ := d_gT ho ht hd h
end
section
variable {P : Program} {cfg : Cfg} {e e' : List (Nat × EV)} {L : List (Nat × List AV)} {H : List (List AV)} {Q : XE → St → Prop} {K : St → Prop}
variable {kn : Option (Nat × Bool)} {ops : Array Oper} {nY : NY} {d : Option Tmp} {o : Op} {ty : TypeId} {pos : String} {aft : Array Edge} {rest : List (Nat × DFl)} {i j : Nat} {f : DFl} {b want : Bool} {gd : Option (Nat × Bool)} {dd : Nat}
theorem m33 {hl : Bool} {op : BinOp} {t t' : TypeId} {x y : Operand} {st s : St} {v : EV} (h : K s) (hv : St.ev st x = v := by (conv => {lhs; whnf}); done) (hk : (hl || !isEp v) = true := by exact rfl) : ckK (.ld hl) nY ⟨d, .binOp op t x y t', ty, pos, aft, gd⟩ st K s := k_bin hv hk h
end
section
variable {P : Program} {cfg : Cfg} {e e' : List (Nat × EV)} {L : List (Nat × List AV)} {H : List (List AV)} {Q : XE → St → Prop} {K : St → Prop}
variable {kn : Option (Nat × Bool)} {ops : Array Oper} {nY : NY} {d : Option Tmp} {o : Op} {ty : TypeId} {pos : String} {aft : Array Edge} {rest : List (Nat × DFl)} {i j : Nat} {f : DFl} {b want : Bool} {gd : Option (Nat × Bool)} {dd : Nat}
theorem m34 {hl : Bool} {t : TypeId} {x : Operand} {st s : St} {v : EV} (h : K s) (hv : St.ev st x = v := by (conv => {lhs; whnf}); done) (hk : ldOk nY hl v = true := by exact rfl) : ckK (.ld hl) nY ⟨d, .load t x, ty, pos, aft, gd⟩ st K s := k_ld hv hk h
end
section
theorem m35 {nY : NY} {K : St → Prop} {d : Option Tmp} {ty : TypeId} {pos : String} {aft : Array Edge} {gd : Option (Nat × Bool)} {t : TypeId} {x : Operand} {st s : St} {v : AV} (h : K s) (hv : St.ev st x = .val v := by (conv => {lhs; whnf}); done) : ckK (.ld true) nY ⟨d, .load t x, ty, pos, aft, gd⟩ st K s := k_ldT hv h
end
section
variable {P : Program} {cfg : Cfg} {e e' : List (Nat × EV)} {L : List (Nat × List AV)} {H : List (List AV)} {Q : XE → St → Prop} {K : St → Prop}
variable {kn : Option (Nat × Bool)} {ops : Array Oper} {nY : NY} {d : Option Tmp} {o : Op} {ty : TypeId} {pos : String} {aft : Array Edge} {rest : List (Nat × DFl)} {i j : Nat} {f : DFl} {b want : Bool} {gd : Option (Nat × Bool)} {dd : Nat}
theorem m36  (h : opX P cfg ⟨d, o, ty, pos, aft, none⟩ (ckK f nY ⟨d, o, ty, pos, aft, none⟩ ⟨e, L, H⟩ (exD P cfg ops nY none rest K)) ⟨e, L, H⟩) (ho : ops[i]? = some ⟨d, o, ty, pos, aft, none⟩ := by exact rfl) : exD P cfg ops nY none ((i, f) :: rest) K ⟨e, L, H⟩ := d_c0 ho h
end
section
variable {P : Program} {cfg : Cfg} {e e' : List (Nat × EV)} {L : List (Nat × List AV)} {H : List (List AV)} {Q : XE → St → Prop} {K : St → Prop}
variable {kn : Option (Nat × Bool)} {ops : Array Oper} {nY : NY} {d : Option Tmp} {o : Op} {ty : TypeId} {pos : String} {aft : Array Edge} {rest : List (Nat × DFl)} {i j : Nat} {f : DFl} {b want : Bool} {gd : Option (Nat × Bool)} {dd : Nat}
theorem m37  (h : opX P cfg ⟨d, o, ty, pos, aft, none⟩ (ckK f nY ⟨d, o, ty, pos, aft, none⟩ ⟨e, L, H⟩ (exD P cfg ops nY (some (j, b)) rest K)) ⟨e, L, H⟩) (ho : ops[i]? = some ⟨d, o, ty, pos, aft, none⟩ := by exact rfl) (hj : (((ops[j]?).bind (·.dst)) == d) = false := by exact rfl) : exD P cfg ops nY (some (j, b)) ((i, f) :: rest) K ⟨e, L, H⟩ := d_c1 ho hj h
end
section
variable {P : Program} {cfg : Cfg} {dr : Array Oper → (St → Prop) → St → Prop} {e : List (Nat × EV)} {L : List (Nat × List AV)} {H : List (List AV)} {Q : XE → St → Prop} {K : St → Prop}
variable {kn : Option (Nat × Bool)} {ops : Array Oper} {d : Option Tmp} {o : Op} {ty : TypeId} {pos : String} {aft : Array Edge} {rest : List Oper} {j : Nat} {b want : Bool} {gd : Option (Nat × Bool)} {dd : Nat}
theorem m38  (h : opX P cfg ⟨d, o, ty, pos, aft, none⟩ (exOps P cfg ops (some (j, b)) rest K) ⟨e, L, H⟩) (hj : (((ops[j]?).bind (·.dst)) == d) = false := by exact rfl) : exOps P cfg ops (some (j, b)) (⟨d, o, ty, pos, aft, none⟩ :: rest) K ⟨e, L, H⟩ := b_c1 hj h
end
section
variable {P : Program} {cfg : Cfg} {dr : Array Oper → (St → Prop) → St → Prop} {e : List (Nat × EV)} {L : List (Nat × List AV)} {H : List (List AV)} {Q : XE → St → Prop} {K : St → Prop}
variable {d : Option Tmp} {ty : TypeId} {pos : String} {aft : Array Edge} {gd : Option (Nat × Bool)} {dd : Nat}
theorem m39 {f : Operand} {id : Nat} {first caps : List AV} {args : Array Operand} {ts : Array TypeId} (h : gK args.toList [] (fun vs => callK P cfg id (first ++ vs ++ caps) dd K ⟨e, L, H⟩) ⟨e, L, H⟩) (hf : St.ev ⟨e, L, H⟩ f = .val (.func id first caps) := by first | (conv => {lhs; whnf}; done) | exact (by exact rfl) | fail) : opX P cfg ⟨some dd, .call { callee := .value f, args := args, argTypes := ts }, ty, pos, aft, gd⟩ K ⟨e, L, H⟩ := b_callV hf h
end
section
variable {P : Program} {cfg : Cfg} {dr : Array Oper → (St → Prop) → St → Prop} {e : List (Nat × EV)} {L : List (Nat × List AV)} {H : List (List AV)} {Q : XE → St → Prop} {K : St → Prop}
variable {kn : Option (Nat × Bool)} {ops : Array Oper} {d : Option Tmp} {o : Op} {ty : TypeId} {pos : String} {aft : Array Edge} {rest : List Oper} {j : Nat} {b want : Bool} {gd : Option (Nat × Bool)} {dd : Nat}
theorem m40 {acc : List AV} {k : List AV → Prop} {x : Operand} {xs : List Operand} {v : AV} (h : gK xs (acc ++ [v]) k ⟨e, L, H⟩) (hv : St.ev ⟨e, L, H⟩ x = .val v := by (conv => {lhs; whnf}); done) : gK (x :: xs) acc k ⟨e, L, H⟩ := gk_cons hv h
end
section
variable {P : Program} {cfg : Cfg} {dr : Array Oper → (St → Prop) → St → Prop} {e : List (Nat × EV)} {L : List (Nat × List AV)} {H : List (List AV)} {Q : XE → St → Prop} {K : St → Prop}
variable {d : Option Tmp} {ty : TypeId} {pos : String} {aft : Array Edge} {gd : Option (Nat × Bool)} {dd : Nat}
theorem m41 {b : Nat} (h : K ⟨(dd, .val (.flt b)) :: e, L, H⟩) (hb : (decide (b < 2 ^ 64) && !isNaN b) = true := by kernel_rfl) : opX P cfg ⟨some dd, .move (.const (.float .f64 b)), ty, pos, aft, gd⟩ K ⟨e, L, H⟩ := b_moveF hb h
end
section
variable {P : Program} {cfg : Cfg} {dr : Array Oper → (St → Prop) → St → Prop} {e : List (Nat × EV)} {L : List (Nat × List AV)} {H : List (List AV)} {Q : XE → St → Prop} {K : St → Prop}
variable {d : Option Tmp} {ty : TypeId} {pos : String} {aft : Array Edge} {gd : Option (Nat × Bool)} {dd : Nat}
theorem m42 {b : Nat} (h : K ⟨(dd, .val (.flt b)) :: e, L, H⟩) (hb : (decide (b < 2 ^ 64) && !isNaN b) = true := by kernel_rfl) : opX P cfg ⟨some dd, .assign (.const (.float .f64 b)), ty, pos, aft, gd⟩ K ⟨e, L, H⟩ := b_assignF hb h
end
section
variable {P : Program} {cfg : Cfg} {dr : Array Oper → (St → Prop) → St → Prop} {e : List (Nat × EV)} {L : List (Nat × List AV)} {H : List (List AV)} {Q : XE → St → Prop} {K : St → Prop}
variable {d : Option Tmp} {ty : TypeId} {pos : String} {aft : Array Edge} {gd : Option (Nat × Bool)} {dd : Nat}
theorem m43 {id : Nat} {xs : List Operand} {acc : List AV} {b : Nat} (h : argK P cfg id xs (acc ++ [.flt b]) dd K ⟨e, L, H⟩) (hb : (decide (b < 2 ^ 64) && !isNaN b) = true := by kernel_rfl) : argK P cfg id (.const (.float .f64 b) :: xs) acc dd K ⟨e, L, H⟩ := a_consF hb h
end
section
theorem m44 {e : List (Nat × EV)} {L : List (Nat × List AV)} {H : List (List AV)} {b : Nat} {xs : List Operand} {acc : List AV} {k : List AV → Prop} (h : gK xs (acc ++ [.flt b]) k ⟨e, L, H⟩) (hb : (decide (b < 2 ^ 64) && !isNaN b) = true := by kernel_rfl) : gK (.const (.float .f64 b) :: xs) acc k ⟨e, L, H⟩ := gk_consF hb h
end
section
variable {P : Program} {cfg : Cfg} {e : List (Nat × EV)} {L : List (Nat × List AV)} {H : List (List AV)} {K : St → Prop} {ty : TypeId} {pos : String} {aft : Array Edge} {gd : Option (Nat × Bool)} {dd : Nat}
theorem m45 {t t' : TypeId} [u : UI P t .bool] {x y : Operand} {p q : Bool} (h : valK dd K ⟨e, L, H⟩ (some (True, .bool (p == q)))) (hx : St.ev ⟨e, L, H⟩ x = .val (.bool p) := by first | (conv => {lhs; whnf}; done) | exact (by exact rfl) | fail) (hy : St.ev ⟨e, L, H⟩ y = .val (.bool q) := by first | (conv => {lhs; whnf}; done) | exact (by exact rfl) | fail) : opX P cfg ⟨some dd, .binOp .eql t x y t', ty, pos, aft, gd⟩ K ⟨e, L, H⟩ := b_binB hx hy h
end
section
variable {P : Program} {cfg : Cfg} {dr : Array Oper → (St → Prop) → St → Prop} {e : List (Nat × EV)} {L : List (Nat × List AV)} {H : List (List AV)} {Q : XE → St → Prop} {K : St → Prop}
variable {kn : Option (Nat × Bool)} {ops : Array Oper} {d : Option Tmp} {o : Op} {ty : TypeId} {pos : String} {aft : Array Edge} {rest : List Oper} {j : Nat} {b want : Bool} {gd : Option (Nat × Bool)} {dd : Nat}
theorem m46 {src dst : TypeId} {x : Operand} {k k' : IntKind} {n : Int} {td : TypeDesc} [u : UI P dst (.int k)] [us : UI P src td] (h : valK dd K ⟨e, L, H⟩ (some (True, .int k (k.wrap n)))) (hx : St.ev ⟨e, L, H⟩ x = .val (.int k' n) := by first | (conv => {lhs; whnf}; done) | exact (by exact rfl) | fail) : opX P cfg ⟨some dd, .convert src dst x, ty, pos, aft, gd⟩ K ⟨e, L, H⟩ := b_cnvI hx h
end
section
variable {P : Program} {cfg : Cfg} {dr : Array Oper → (St → Prop) → St → Prop} {e : List (Nat × EV)} {L : List (Nat × List AV)} {H : List (List AV)} {Q : XE → St → Prop} {K : St → Prop}
variable {kn : Option (Nat × Bool)} {ops : Array Oper} {d : Option Tmp} {o : Op} {ty : TypeId} {pos : String} {aft : Array Edge} {rest : List Oper} {j : Nat} {b want : Bool} {gd : Option (Nat × Bool)} {dd : Nat}
theorem m47 {p : Prop} [Decidable p] (h : K ⟨(dd, .val (.bool true)) :: e, L, H⟩) (hp : p := by omega) : valK dd K ⟨e, L, H⟩ (some (True, .bool (decide p))) := v_T hp h
end
section
variable {P : Program} {cfg : Cfg} {dr : Array Oper → (St → Prop) → St → Prop} {e : List (Nat × EV)} {L : List (Nat × List AV)} {H : List (List AV)} {Q : XE → St → Prop} {K : St → Prop}
variable {kn : Option (Nat × Bool)} {ops : Array Oper} {d : Option Tmp} {o : Op} {ty : TypeId} {pos : String} {aft : Array Edge} {rest : List Oper} {j : Nat} {b want : Bool} {gd : Option (Nat × Bool)} {dd : Nat}
theorem m48 {p : Prop} [Decidable p] (h : K ⟨(dd, .val (.bool false)) :: e, L, H⟩) (hp : ¬ p := by omega) : valK dd K ⟨e, L, H⟩ (some (True, .bool (decide p))) := v_F hp h
end
section
variable {P : Program} {cfg : Cfg} {dr : Array Oper → (St → Prop) → St → Prop} {e : List (Nat × EV)} {L : List (Nat × List AV)} {H : List (List AV)} {Q : XE → St → Prop} {K : St → Prop}
variable {kn : Option (Nat × Bool)} {ops : Array Oper} {d : Option Tmp} {o : Op} {ty : TypeId} {pos : String} {aft : Array Edge} {rest : List Oper} {j : Nat} {b want : Bool} {gd : Option (Nat × Bool)} {dd : Nat}
theorem m49 {n : Int} (h : K ⟨(dd, .val (.int .i64 n)) :: e, L, H⟩) (hw : -9223372036854775808 ≤ n ∧ n ≤ 9223372036854775807 := by omega) : valK dd K ⟨e, L, H⟩ (some (True, .int .i64 (IntKind.i64.wrap n))) := v_w hw h
end
section
variable {P : Program} {cfg : Cfg} {dr : Array Oper → (St → Prop) → St → Prop} {e : List (Nat × EV)} {L : List (Nat × List AV)} {H : List (List AV)} {Q : XE → St → Prop} {K : St → Prop}
variable {kn : Option (Nat × Bool)} {ops : Array Oper} {d : Option Tmp} {o : Op} {ty : TypeId} {pos : String} {aft : Array Edge} {rest : List Oper} {j : Nat} {b want : Bool} {gd : Option (Nat × Bool)} {dd : Nat}
theorem m50 {n : Int} (h : K ⟨(dd, .val (.int .u64 n)) :: e, L, H⟩) (hw : 0 ≤ n ∧ n ≤ 18446744073709551615 := by omega) : valK dd K ⟨e, L, H⟩ (some (True, .int .u64 (IntKind.u64.wrap n))) := v_wu hw h
end
section
variable {P : Program} {cfg : Cfg} {dr : Array Oper → (St → Prop) → St → Prop} {e : List (Nat × EV)} {L : List (Nat × List AV)} {H : List (List AV)} {Q : XE → St → Prop} {K : St → Prop}
variable {kn : Option (Nat × Bool)} {ops : Array Oper} {d : Option Tmp} {o : Op} {ty : TypeId} {pos : String} {aft : Array Edge} {rest : List Oper} {j : Nat} {b want : Bool} {gd : Option (Nat × Bool)} {dd : Nat}
theorem m51 {c : Prop} {v : AV} (h : valK dd K ⟨e, L, H⟩ (some (True, v))) (hc : c := by omega) : valK dd K ⟨e, L, H⟩ (some (c, v)) := v_c hc h
end
section
variable {P : Program} {cfg : Cfg} {e e' : List (Nat × EV)} {L : List (Nat × List AV)} {H : List (List AV)} {Q : XE → St → Prop} {K : St → Prop}
variable {kn : Option (Nat × Bool)} {ops : Array Oper} {nY : NY} {d : Option Tmp} {o : Op} {ty : TypeId} {pos : String} {aft : Array Edge} {rest : List (Nat × DFl)} {i j : Nat} {f : DFl} {b want : Bool} {gd : Option (Nat × Bool)} {dd : Nat}
theorem m52 {x y : Int} (h : K ⟨(dd, .val (.bool true)) :: e, L, H⟩) (hp : x = y := by omega) : valK dd K ⟨e, L, H⟩ (some (True, .bool (x == y))) := v_eT hp h
end
section
variable {P : Program} {cfg : Cfg} {e e' : List (Nat × EV)} {L : List (Nat × List AV)} {H : List (List AV)} {Q : XE → St → Prop} {K : St → Prop}
variable {kn : Option (Nat × Bool)} {ops : Array Oper} {nY : NY} {d : Option Tmp} {o : Op} {ty : TypeId} {pos : String} {aft : Array Edge} {rest : List (Nat × DFl)} {i j : Nat} {f : DFl} {b want : Bool} {gd : Option (Nat × Bool)} {dd : Nat}
theorem m53 {x y : Int} (h : K ⟨(dd, .val (.bool false)) :: e, L, H⟩) (hp : x ≠ y := by omega) : valK dd K ⟨e, L, H⟩ (some (True, .bool (x == y))) := v_eF hp h
end
section
variable {P : Program} {cfg : Cfg} {e e' : List (Nat × EV)} {L : List (Nat × List AV)} {H : List (List AV)} {Q : XE → St → Prop} {K : St → Prop}
variable {kn : Option (Nat × Bool)} {ops : Array Oper} {nY : NY} {d : Option Tmp} {o : Op} {ty : TypeId} {pos : String} {aft : Array Edge} {rest : List (Nat × DFl)} {i j : Nat} {f : DFl} {b want : Bool} {gd : Option (Nat × Bool)} {dd : Nat}
theorem m54 {x y : Int} (h : K ⟨(dd, .val (.bool true)) :: e, L, H⟩) (hp : x ≠ y := by omega) : valK dd K ⟨e, L, H⟩ (some (True, .bool (x != y))) := v_neT hp h
end
section
variable {P : Program} {cfg : Cfg} {e e' : List (Nat × EV)} {L : List (Nat × List AV)} {H : List (List AV)} {Q : XE → St → Prop} {K : St → Prop}
variable {kn : Option (Nat × Bool)} {ops : Array Oper} {nY : NY} {d : Option Tmp} {o : Op} {ty : TypeId} {pos : String} {aft : Array Edge} {rest : List (Nat × DFl)} {i j : Nat} {f : DFl} {b want : Bool} {gd : Option (Nat × Bool)} {dd : Nat}
theorem m55 {x y : Int} (h : K ⟨(dd, .val (.bool false)) :: e, L, H⟩) (hp : x = y := by omega) : valK dd K ⟨e, L, H⟩ (some (True, .bool (x != y))) := v_neF hp h
end
section
theorem m56 {q : Bool} {nY : NY} {o : Oper} {e e' : List (Nat × EV)} {L : List (Nat × List AV)} {A N N' M : List (List AV)} {K : St → Prop} (h : K ⟨e', L, A ++ N'⟩) (hN : N ++ M = N' := by exact rfl) : ckK (.mn q) nY o ⟨e, L, A ++ N⟩ K ⟨e', L, A ++ N'⟩ := k_mnB hN h
end
section
variable {P : Program} {cfg : Cfg} {dr : Array Oper → (St → Prop) → St → Prop} {e : List (Nat × EV)} {L : List (Nat × List AV)} {H : List (List AV)} {Q : XE → St → Prop} {K : St → Prop}
variable {kn : Option (Nat × Bool)} {ops : Array Oper} {d : Option Tmp} {o : Op} {ty : TypeId} {pos : String} {aft : Array Edge} {rest : List Oper} {j : Nat} {b want : Bool} {gd : Option (Nat × Bool)} {dd : Nat}
theorem m57 {i k : Nat} (h : Q (.exit k) ⟨e, L, H⟩) (hik : (k == i) = false := by exact rfl) : blkX i Q (.exit k) ⟨e, L, H⟩ := b_blo hik h
end
section
variable {P : Program} {cfg : Cfg} {dr : Array Oper → (St → Prop) → St → Prop} {e : List (Nat × EV)} {L : List (Nat × List AV)} {H : List (List AV)} {Q : XE → St → Prop} {K : St → Prop}
variable {kn : Option (Nat × Bool)} {ops : Array Oper} {d : Option Tmp} {o : Op} {ty : TypeId} {pos : String} {aft : Array Edge} {rest : List Oper} {j : Nat} {b want : Bool} {gd : Option (Nat × Bool)} {dd : Nat}
theorem m58 {pl : List (Nat × Nat)} {zc zc' vs : List AV} {i off sz : Nat} {x : Operand} {ps : List (Nat × Operand)} {k : List AV → Prop} {v : AV} (h : fK pl zc' ps k ⟨e, L, H⟩) (hx : St.ev ⟨e, L, H⟩ x = .val v := by (conv => {lhs; whnf}); done) (hc : v.cells = some vs := by first | exact rfl | exact cells_of_len (FL.len (by assumption)) | exact cells_of_len (IL.len (by assumption)) | fail) (hp : pl[i]? = some (off, sz) := by exact rfl) (hl : (vs.length == sz && decide (off + vs.length ≤ zc.length)) = true := by exact rfl) (hz : sc zc off vs = zc' := by (conv => {lhs; simp only [sc, List.set_cons_zero, List.set_cons_succ]}); done) : fK pl zc ((i, x) :: ps) k ⟨e, L, H⟩ := fk_cons hx hc hp hl hz h
end
end Go.Sx

set_option linter.unusedVariables false
set_option linter.unusedSimpArgs false
namespace Go.Sx
open Go.ChangeShapes Go.WideShapes Go.ChangeAt Go.RowKit Go.Deep
/-! ### arguments of any shape that these laws have -/
def aI (p : Nat × Nat) (l : List Int) : AV := .sl (if l = [] then none else some p) l.length (il l)
theorem aI_IL (H : List (List AV)) (p : Nat × Nat) (l : List Int) : IL H (aI p l) l := IL.fz H _ l
inductive Shp where
  | flt
  | bool
  | int (k : IntKind)
  | fls
  | ils
  | st (l : List Shp)
mutual
/-- how many cells -/
def Shp.n : Shp → Nat
  | .st l => Shp.ns l
  | _ => 1
def Shp.ns : List Shp → Nat
  | [] => 0
  | s :: r => s.n + Shp.ns r
end
mutual
/-- the values that stand for what came in -/
def Shp.Dom : Shp → List AV → Prop
  | .flt, cz => ∃ x, cz = [.flt x]
  | .bool, cz => ∃ b, cz = [.bool b]
  | .int k, cz => ∃ i, cz = [.int k i] ∧ k.min ≤ i ∧ i ≤ k.max
  | .fls, cz => ∃ p l, cz = [aD p l] ∧ l.length ≤ 9223372036854775807
  | .ils, cz => ∃ p l, cz = [aI p l] ∧ l.length ≤ 9223372036854775807 ∧ ∀ x ∈ l, -9223372036854775808 ≤ x ∧ x ≤ 9223372036854775807
  | .st l, cz => Shp.Doms l cz
def Shp.Doms : List Shp → List AV → Prop
  | [], cz => cz = []
  | s :: r, cz => ∃ a b, cz = a ++ b ∧ s.Dom a ∧ Shp.Doms r b
end
/-- does a type have a shape? -/
def isTy (P : Program) (t : TypeId) (d : TypeDesc) : Bool :=
  match P.underlying t, d with
  | some (.float .f64), .float .f64 => true
  | some .bool, .bool => true
  | some (.int k), .int k' => decide (k = k')
  | _, _ => false
mutual
def Shp.ok (P : Program) : Nat → Shp → TypeId → Bool
  | 0, _, _ => false
  | d + 1, s, t =>
    match s, P.underlying t with
    | .flt, some (.float .f64) => P.cellsOf t == 1
    | .bool, some .bool => P.cellsOf t == 1
    | .int k, some (.int k') => decide (k = k') && P.cellsOf t == 1
    | .fls, some (.slice e) => isTy P e (.float .f64) && P.cellsOf e == 1 && P.cellsOf t == 1
    | .ils, some (.slice e) => isTy P e (.int .i64) && P.cellsOf e == 1 && P.cellsOf t == 1
    | .st l, some (.struct fs) => P.cellsOf t == Shp.ns l && Shp.oks P d l fs.toList 0
    | _, _ => false
def Shp.oks (P : Program) : Nat → List Shp → List Field → Nat → Bool
  | 0, _, _, _ => false
  | _ + 1, [], [], _ => true
  | d + 1, s :: r, f :: fs, o => f.offset == o && P.cellsOf f.type == s.n && Shp.ok P d s f.type && Shp.oks P d r fs (o + s.n)
  | _, _, _, _ => false
end

section
variable {H : Type} {enc : TypeId × Value → H} {P : Program} {W : World} {base : Nat}
theorem open_il {t e : TypeId} {n : Nat} {X : Value} {x : DataW H × List MemPlace} (ht : P.underlying t = some (.slice e)) (he : P.underlying e = some (.int .i64)) (hc : P.cellsOf e = 1) (h : DataW.trod enc P W base (fun _ => true) true n t [X] = some x) :
    ∃ p l, (l.length ≤ 9223372036854775807 ∧ ∀ x ∈ l, -9223372036854775808 ≤ x ∧ x ≤ 9223372036854775807) ∧ VRep W (g0 W) (aI p l) X := by
  rcases open_slice1 ht hc h with ⟨h1, _⟩ | ⟨a, len, cap, m, k, V, D, Pl, h1, hb, hl, hm, hmm, _, hx⟩
  · simp only [List.cons.injEq, and_true] at h1
    subst h1
    exact ⟨(0, 0), [], by simp, by simp only [aI, if_true, VRep]; exact ⟨0, Nat.le_refl _, .inl (by simp [il])⟩⟩
  · simp only [List.cons.injEq, and_true] at h1
    subst h1
    simp only [if_true] at hmm
    have hf : ∀ i, i < len → ∃ b, V i = .int .i64 b ∧ -9223372036854775808 ≤ b ∧ b ≤ 9223372036854775807 := fun i hi => trod_i64 he (hx i (by omega)).2
    have hbs : ∃ bs : Nat → Int, ∀ i, i < len → V i = .int .i64 (bs i) ∧ -9223372036854775808 ≤ bs i ∧ bs i ≤ 9223372036854775807 :=
      ⟨fun i => if h : i < len then (hf i h).choose else 0, fun i hi => by simp only [hi, dif_pos]; exact (hf i hi).choose_spec⟩
    obtain ⟨bs, hbs⟩ := hbs
    have hml : maxLen = 9223372036854775807 := by decide
    refine ⟨(a.block, a.off), (List.range len).map fun i => bs i, ⟨by simp; omega, ?_⟩, ?_⟩
    · intro x hxm
      simp only [List.mem_map, List.mem_range] at hxm
      obtain ⟨i, hi, rfl⟩ := hxm
      exact (hbs i hi).2
    by_cases h0 : len = 0
    · subst h0
      simp only [aI, List.range_zero, List.map_nil, if_true, VRep, List.length_nil]
      exact ⟨cap, Nat.zero_le _, .inl (by simp [il])⟩
    · have hc0 := (hx 0 (by omega)).1
      have ha0 : a.add 0 = a := by simp [Addr.add]
      rw [ha0] at hc0
      obtain ⟨_, _, hsh, _, hsp⟩ := World.shape?_of_cell? hc0
      have hae : a = ⟨a.block, a.off, none⟩ := by cases a; simp_all
      have hne : ¬ ((List.range len).map fun i => bs i) = [] := by simp; omega
      simp only [aI, if_neg hne, VRep, List.length_map, List.length_range]
      have hblk : a.block < W.heap.size := by
        unfold World.shape? at hsh
        cases hq : W.heap[a.block]? with
        | none => rw [hq] at hsh; simp at hsh
        | some o => exact (Array.getElem?_eq_some_iff.1 hq).1
      refine ⟨cap, hl, .inr ⟨a.block, a.off, by rw [← hae], .inr rfl, hblk, ?_⟩⟩
      rw [CRep_iff]
      intro i c hi
      have hil : i < len := by
        have := (List.getElem?_eq_some_iff.1 hi).1
        simpa [il] using this
      have hci := (hx i (by omega)).1
      have hadd : a.add i = ⟨a.block, a.off + i, none⟩ := by rw [hae]; simp [Addr.add]
      rw [hadd] at hci
      refine ⟨V i, hci, ?_, ?_⟩
      · rw [(hbs i hil).1]; rfl
      · simp [il, hil] at hi
        subst hi
        simp only [VRep]
        exact (hbs i hil).1
theorem one_of {cells : List Value} (h : cells.length = 1) : ∃ v, cells = [v] := by
  match cells, h with
  | [v], _ => exact ⟨v, rfl⟩
theorem isTy_flt {e : TypeId} (h : isTy P e (.float .f64) = true) : P.underlying e = some (.float .f64) := by
  unfold isTy at h
  split at h <;> simp_all
theorem isTy_int {e : TypeId} (h : isTy P e (.int .i64) = true) : P.underlying e = some (.int .i64) := by
  unfold isTy at h
  split at h <;> simp_all
def oneAll (cells : List Value) : Prop := ∀ x ∈ cells, x.oneCell' = true
theorem aD_one {p : Nat × Nat} {l : List Nat} {v : Value} (h : VRep W (g0 W) (aD p l) v) : v.oneCell' = true := by
  simp only [aD, VRep] at h
  obtain ⟨cap, _, ⟨_, _, _, ao, rfl⟩ | ⟨b, o, rfl, _⟩⟩ := h <;> rfl
theorem aI_one {p : Nat × Nat} {l : List Int} {v : Value} (h : VRep W (g0 W) (aI p l) v) : v.oneCell' = true := by
  simp only [aI, VRep] at h
  obtain ⟨cap, _, ⟨_, _, _, ao, rfl⟩ | ⟨b, o, rfl, _⟩⟩ := h <;> rfl
mutual
theorem Shp.opens : ∀ (d : Nat) (s : Shp) (t : TypeId) (n : Nat) (cells : List Value) (x : DataW H × List MemPlace), Shp.ok P d s t = true → DataW.trod enc P W base (fun _ => true) true n t cells = some x → cells.length = s.n →
    ∃ cz, s.Dom cz ∧ LRep W (g0 W) cz cells ∧ oneAll cells
  | 0, s, t, n, cells, x, h, _, _ => by simp [Shp.ok] at h
  | d + 1, s, t, n, cells, x, h, ht, hl => by
    unfold Shp.ok at h
    split at h
    · rename_i hu
      obtain ⟨v, rfl⟩ := one_of hl
      obtain ⟨b, rfl, hb⟩ := trod_flt hu ht
      exact ⟨[.flt (cn b)], ⟨_, rfl⟩, by simp only [LRep]; exact ⟨_, _, rfl, by simp only [VRep]; exact ⟨b, rfl, hb, rfl⟩, rfl⟩, by intro x hx; simp at hx; subst hx; rfl⟩
    · rename_i hu
      obtain ⟨b, h1, _⟩ := DataW.trod_bool hu ht
      subst h1
      exact ⟨[.bool b], ⟨_, rfl⟩, by simp only [LRep]; exact ⟨_, _, rfl, by simp [VRep], rfl⟩, by intro x hx; simp at hx; subst hx; rfl⟩
    · rename_i k k' hu
      simp only [Bool.and_eq_true, decide_eq_true_eq] at h
      obtain ⟨rfl, _⟩ := h
      obtain ⟨i, h1, _, h2⟩ := DataW.trod_int hu ht
      subst h1
      simp only [Lit.wf, Bool.and_eq_true, decide_eq_true_eq] at h2
      exact ⟨[.int k i], ⟨_, rfl, h2.1, h2.2⟩, by simp only [LRep]; exact ⟨_, _, rfl, by simp [VRep], rfl⟩, by intro x hx; simp at hx; subst hx; rfl⟩
    · rename_i e hu
      simp only [Bool.and_eq_true, beq_iff_eq] at h
      obtain ⟨v, rfl⟩ := one_of hl
      obtain ⟨p, l, h1, h2⟩ := open_fl hu (isTy_flt h.1.1) h.1.2 ht
      exact ⟨[aD p l], ⟨_, _, rfl, h1⟩, by simp only [LRep]; exact ⟨_, _, rfl, h2, rfl⟩, by intro x hx; simp at hx; subst hx; exact aD_one h2⟩
    · rename_i e hu
      simp only [Bool.and_eq_true, beq_iff_eq] at h
      obtain ⟨v, rfl⟩ := one_of hl
      obtain ⟨p, l, h1, h2⟩ := open_il hu (isTy_int h.1.1) h.1.2 ht
      exact ⟨[aI p l], ⟨_, _, rfl, h1⟩, by simp only [LRep]; exact ⟨_, _, rfl, h2, rfl⟩, by intro x hx; simp at hx; subst hx; exact aI_one h2⟩
    · rename_i l fs hu
      simp only [Bool.and_eq_true, beq_iff_eq] at h
      obtain ⟨xs, m, _, _, hcl, hlen, hg⟩ := DataW.trod_struct hu ht
      have := Shp.openss d l fs.toList 0 m cells h.2 (fun i f hi => ?_) (by rw [hcl, h.1, Nat.zero_add])
      · simpa [Shp.Dom] using this
      · have hi' : fs[i]? = some f := by simpa using hi
        have h3 := hg i f hi'
        have hlt : i < xs.length := by rw [hlen]; exact (Array.getElem?_eq_some_iff.1 hi').1
        exact ⟨xs[i], by rw [h3]; simp [hlt]⟩
    · cases h
theorem Shp.openss : ∀ (d : Nat) (l : List Shp) (fs : List Field) (o : Nat) (m : Nat) (cells : List Value), Shp.oks P d l fs o = true →
    (∀ (i : Nat) (f : Field), fs[i]? = some f → ∃ y, DataW.trod enc P W base (fun _ => true) true m f.type ((cells.drop f.offset).take (P.cellsOf f.type)) = some y) → cells.length = o + Shp.ns l →
    ∃ cz, Shp.Doms l cz ∧ LRep W (g0 W) cz (cells.drop o) ∧ oneAll (cells.drop o)
  | 0, _, _, _, _, _, h, _, _ => by simp [Shp.oks] at h
  | d + 1, [], [], o, m, cells, h, _, hl => by
    have : cells.drop o = [] := by rw [List.drop_eq_nil_iff]; simp [Shp.ns] at hl; omega
    exact ⟨[], by simp [Shp.Doms], by rw [this]; simp [LRep], by rw [this]; intro x hx; simp at hx⟩
  | d + 1, s :: r, f :: fs, o, m, cells, h, hg, hl => by
    simp only [Shp.oks, Bool.and_eq_true, beq_iff_eq] at h
    obtain ⟨⟨⟨h1, h2⟩, h3⟩, h4⟩ := h
    simp only [Shp.ns] at hl
    obtain ⟨y, hy⟩ := hg 0 f (by simp)
    rw [h1, h2] at hy
    obtain ⟨a, ha1, ha2, ha3⟩ := Shp.opens d s f.type m _ y h3 hy (by rw [List.length_take, List.length_drop]; omega)
    obtain ⟨b, hb1, hb2, hb3⟩ := Shp.openss d r fs (o + s.n) m cells h4 (fun i f' hi => hg (i + 1) f' (by simpa using hi)) (by omega)
    have e : cells.drop o = (cells.drop o).take s.n ++ cells.drop (o + s.n) := by
      rw [← List.drop_drop, List.take_append_drop]
    refine ⟨a ++ b, ?_, ?_, ?_⟩
    · simp only [Shp.Doms]; exact ⟨a, b, rfl, ha1, hb1⟩
    · rw [e]; exact LRep_append ha2 hb2
    · rw [e]; intro x hx
      rcases List.mem_append.1 hx with hx | hx
      · exact ha3 x hx
      · exact hb3 x hx
  | d + 1, [], _ :: _, o, m, cells, h, _, _ => by simp [Shp.oks] at h
  | d + 1, _ :: _, [], o, m, cells, h, _, _ => by simp [Shp.oks] at h
end
/-- a struct that came in -/
theorem open_st {t : TypeId} {l : List Shp} {v : Value} {d : DataW H} {ps : List MemPlace} {r : Reach} {b0 : Nat} {fs : Array Field} (hs : P.underlying t = some (.struct fs)) (hok : Shp.ok P 40 (.st l) t = true)
    (hv : Value.okWide P W r b0 t v) (h : DataW.Trod enc P W base (fun _ => true) true t v d ps) : ∃ cz, Shp.Doms l cz ∧ VRep W (g0 W) (.agg cz) v := by
  obtain ⟨cs, rfl, hsz⟩ := okWide_struct hs hv
  obtain ⟨fuel, hf⟩ := h
  have hn : cs.toList.length = (Shp.st l).n := by
    simp only [Shp.ok, hs, Bool.and_eq_true, beq_iff_eq] at hok
    simp only [Shp.n]
    rw [← hok.1, ← hsz]; simp
  obtain ⟨cz, h1, h2, h3⟩ := Shp.opens 40 (.st l) t fuel cs.toList _ hok hf hn
  exact ⟨cz, by simpa [Shp.Dom] using h1, by simp only [VRep]; exact ⟨cs, rfl, h3, h2⟩⟩
def i64S : Shp := .int .i64
theorem i64_min : IntKind.i64.min = -9223372036854775808 := by decide
theorem i64_max : IntKind.i64.max = 9223372036854775807 := by decide
def facS : List Shp := [.st [.fls, i64S, i64S, i64S, i64S], .ils]
theorem dom_fac {cz : List AV} (h : Shp.Doms facS cz) : ∃ p l off rows cols ld q m, MI l.length off rows cols ld ∧ m.length ≤ 9223372036854775807 ∧ (∀ x ∈ m, -9223372036854775808 ≤ x ∧ x ≤ 9223372036854775807) ∧ cz = [aD p l, .int .i64 off, .int .i64 rows, .int .i64 cols, .int .i64 ld, aI q m] := by
  simp only [facS, i64S, Shp.Doms, Shp.Dom, i64_min, i64_max] at h
  obtain ⟨a, b, rfl, ⟨a1, b1, rfl, ⟨p, l, rfl, hl⟩, a2, b2, rfl, ⟨off, rfl, h1, h2⟩, a3, b3, rfl, ⟨rows, rfl, h3, h4⟩, a4, b4, rfl, ⟨cols, rfl, h5, h6⟩, a5, b5, rfl, ⟨ld, rfl, h7, h8⟩, rfl⟩, a6, b6, rfl, ⟨q, m, rfl, hm, hx⟩, rfl⟩ := h
  exact ⟨p, l, off, rows, cols, ld, q, m, ⟨hl, h1, h2, h3, h4, h5, h6, h7, h8⟩, hm, hx, rfl⟩
end
end Go.Sx

set_option maxRecDepth 20000
namespace Go.Sx
open Go.Proofs
instance : TyI Tryz.prog 0 1 false := ⟨by kernel_rfl, by kernel_rfl⟩
instance : TyI Tryz.prog 1 1 false := ⟨by kernel_rfl, by kernel_rfl⟩
instance : ZI Tryz.prog 1 [.raw .nilFunc] := ⟨by kernel_rfl⟩
instance : TyI Tryz.prog 2 1 false := ⟨by kernel_rfl, by kernel_rfl⟩
instance : ZI Tryz.prog 2 [.int .i64 0] := ⟨by kernel_rfl⟩
instance : UI Tryz.prog 2 (.int .i64) := ⟨by kernel_rfl⟩
instance : TyI Tryz.prog 3 1 false := ⟨by kernel_rfl, by kernel_rfl⟩
instance : ZI Tryz.prog 3 [.int .i64 0] := ⟨by kernel_rfl⟩
instance : UI Tryz.prog 3 (.int .i64) := ⟨by kernel_rfl⟩
instance : TyI Tryz.prog 4 1 false := ⟨by kernel_rfl, by kernel_rfl⟩
instance : ZI Tryz.prog 4 [.bool false] := ⟨by kernel_rfl⟩
instance : UI Tryz.prog 4 (.bool) := ⟨by kernel_rfl⟩
instance : TyI Tryz.prog 5 1 false := ⟨by kernel_rfl, by kernel_rfl⟩
instance : ZI Tryz.prog 5 [.int .u8 0] := ⟨by kernel_rfl⟩
instance : UI Tryz.prog 5 (.int .u8) := ⟨by kernel_rfl⟩
instance : TyI Tryz.prog 6 1 false := ⟨by kernel_rfl, by kernel_rfl⟩
instance : ZI Tryz.prog 6 [.int .u8 0] := ⟨by kernel_rfl⟩
instance : UI Tryz.prog 6 (.int .u8) := ⟨by kernel_rfl⟩
instance : TyI Tryz.prog 7 4 true := ⟨by kernel_rfl, by kernel_rfl⟩
instance : FldI Tryz.prog 7 0 0 2 := ⟨by kernel_rfl, by kernel_rfl⟩
instance : FldI Tryz.prog 7 1 1 3 := ⟨by kernel_rfl, by kernel_rfl⟩
instance : FldI Tryz.prog 7 2 2 4 := ⟨by kernel_rfl, by kernel_rfl⟩
instance : FldI Tryz.prog 7 3 3 6 := ⟨by kernel_rfl, by kernel_rfl⟩
instance : ZI Tryz.prog 7 [.int .i64 0, .int .i64 0, .bool false, .int .u8 0] := ⟨by kernel_rfl⟩
instance : BdI Tryz.prog 7 [.int .i64 0, .int .i64 0, .bool false, .int .u8 0] [(0, 1), (1, 1), (2, 1), (3, 1)] := ⟨by kernel_rfl⟩
instance : TyI Tryz.prog 8 4 true := ⟨by kernel_rfl, by kernel_rfl⟩
instance : FldI Tryz.prog 8 0 0 2 := ⟨by kernel_rfl, by kernel_rfl⟩
instance : FldI Tryz.prog 8 1 1 3 := ⟨by kernel_rfl, by kernel_rfl⟩
instance : FldI Tryz.prog 8 2 2 4 := ⟨by kernel_rfl, by kernel_rfl⟩
instance : FldI Tryz.prog 8 3 3 6 := ⟨by kernel_rfl, by kernel_rfl⟩
instance : ZI Tryz.prog 8 [.int .i64 0, .int .i64 0, .bool false, .int .u8 0] := ⟨by kernel_rfl⟩
instance : BdI Tryz.prog 8 [.int .i64 0, .int .i64 0, .bool false, .int .u8 0] [(0, 1), (1, 1), (2, 1), (3, 1)] := ⟨by kernel_rfl⟩
instance : TyI Tryz.prog 9 1 false := ⟨by kernel_rfl, by kernel_rfl⟩
instance : ZI Tryz.prog 9 [.str .empty] := ⟨by kernel_rfl⟩
instance : UI Tryz.prog 9 (.string) := ⟨by kernel_rfl⟩
instance : TyI Tryz.prog 10 1 false := ⟨by kernel_rfl, by kernel_rfl⟩
instance : ZI Tryz.prog 10 [.str .empty] := ⟨by kernel_rfl⟩
instance : UI Tryz.prog 10 (.string) := ⟨by kernel_rfl⟩
instance : TyI Tryz.prog 11 1 false := ⟨by kernel_rfl, by kernel_rfl⟩
instance : ZI Tryz.prog 11 [.str .empty] := ⟨by kernel_rfl⟩
instance : UI Tryz.prog 11 (.string) := ⟨by kernel_rfl⟩
instance : TyI Tryz.prog 12 1 false := ⟨by kernel_rfl, by kernel_rfl⟩
instance : ZI Tryz.prog 12 [.int .u64 0] := ⟨by kernel_rfl⟩
instance : UI Tryz.prog 12 (.int .u64) := ⟨by kernel_rfl⟩
instance : TyI Tryz.prog 13 2 true := ⟨by kernel_rfl, by kernel_rfl⟩
instance : FldI Tryz.prog 13 0 0 9 := ⟨by kernel_rfl, by kernel_rfl⟩
instance : FldI Tryz.prog 13 1 1 12 := ⟨by kernel_rfl, by kernel_rfl⟩
instance : ZI Tryz.prog 13 [.str .empty, .int .u64 0] := ⟨by kernel_rfl⟩
instance : BdI Tryz.prog 13 [.str .empty, .int .u64 0] [(0, 1), (1, 1)] := ⟨by kernel_rfl⟩
instance : TyI Tryz.prog 14 2 true := ⟨by kernel_rfl, by kernel_rfl⟩
instance : FldI Tryz.prog 14 0 0 9 := ⟨by kernel_rfl, by kernel_rfl⟩
instance : FldI Tryz.prog 14 1 1 12 := ⟨by kernel_rfl, by kernel_rfl⟩
instance : ZI Tryz.prog 14 [.str .empty, .int .u64 0] := ⟨by kernel_rfl⟩
instance : BdI Tryz.prog 14 [.str .empty, .int .u64 0] [(0, 1), (1, 1)] := ⟨by kernel_rfl⟩
instance : TyI Tryz.prog 15 1 false := ⟨by kernel_rfl, by kernel_rfl⟩
instance : ZI Tryz.prog 15 [.raw (.pointer none)] := ⟨by kernel_rfl⟩
instance : PtI Tryz.prog 15 := ⟨by kernel_rfl⟩
instance : TyI Tryz.prog 16 1 false := ⟨by kernel_rfl, by kernel_rfl⟩
instance : ZI Tryz.prog 16 [.raw (.pointer none)] := ⟨by kernel_rfl⟩
instance : TyI Tryz.prog 17 1 false := ⟨by kernel_rfl, by kernel_rfl⟩
instance : ZI Tryz.prog 17 [.raw (.pointer none)] := ⟨by kernel_rfl⟩
instance : PtI Tryz.prog 17 := ⟨by kernel_rfl⟩
instance : TyI Tryz.prog 18 1 true := ⟨by kernel_rfl, by kernel_rfl⟩
instance : FldI Tryz.prog 18 0 0 17 := ⟨by kernel_rfl, by kernel_rfl⟩
instance : ZI Tryz.prog 18 [.raw (.pointer none)] := ⟨by kernel_rfl⟩
instance : BdI Tryz.prog 18 [.raw (.pointer none)] [(0, 1)] := ⟨by kernel_rfl⟩
instance : TyI Tryz.prog 19 1 true := ⟨by kernel_rfl, by kernel_rfl⟩
instance : FldI Tryz.prog 19 0 0 17 := ⟨by kernel_rfl, by kernel_rfl⟩
instance : ZI Tryz.prog 19 [.raw (.pointer none)] := ⟨by kernel_rfl⟩
instance : BdI Tryz.prog 19 [.raw (.pointer none)] [(0, 1)] := ⟨by kernel_rfl⟩
instance : TyI Tryz.prog 20 1 false := ⟨by kernel_rfl, by kernel_rfl⟩
instance : ZI Tryz.prog 20 [.raw .nilIface] := ⟨by kernel_rfl⟩
instance : TyI Tryz.prog 21 1 false := ⟨by kernel_rfl, by kernel_rfl⟩
instance : ZI Tryz.prog 21 [.int .i32 0] := ⟨by kernel_rfl⟩
instance : UI Tryz.prog 21 (.int .i32) := ⟨by kernel_rfl⟩
instance : TyI Tryz.prog 22 1 false := ⟨by kernel_rfl, by kernel_rfl⟩
instance : SlI Tryz.prog 22 30 1 := ⟨by kernel_rfl, by kernel_rfl⟩
instance : EI Tryz.prog 22 1 8 [.flt 0] := ⟨by kernel_rfl⟩
instance : ZI Tryz.prog 22 [.slnil] := ⟨by kernel_rfl⟩
instance : TyI Tryz.prog 23 5 true := ⟨by kernel_rfl, by kernel_rfl⟩
instance : FldI Tryz.prog 23 0 0 22 := ⟨by kernel_rfl, by kernel_rfl⟩
instance : FldI Tryz.prog 23 1 1 3 := ⟨by kernel_rfl, by kernel_rfl⟩
instance : FldI Tryz.prog 23 2 2 3 := ⟨by kernel_rfl, by kernel_rfl⟩
instance : FldI Tryz.prog 23 3 3 3 := ⟨by kernel_rfl, by kernel_rfl⟩
instance : FldI Tryz.prog 23 4 4 3 := ⟨by kernel_rfl, by kernel_rfl⟩
instance : ZI Tryz.prog 23 [.slnil, .int .i64 0, .int .i64 0, .int .i64 0, .int .i64 0] := ⟨by kernel_rfl⟩
instance : BdI Tryz.prog 23 [.slnil, .int .i64 0, .int .i64 0, .int .i64 0, .int .i64 0] [(0, 1), (1, 1), (2, 1), (3, 1), (4, 1)] := ⟨by kernel_rfl⟩
instance : TyI Tryz.prog 24 5 true := ⟨by kernel_rfl, by kernel_rfl⟩
instance : FldI Tryz.prog 24 0 0 22 := ⟨by kernel_rfl, by kernel_rfl⟩
instance : FldI Tryz.prog 24 1 1 3 := ⟨by kernel_rfl, by kernel_rfl⟩
instance : FldI Tryz.prog 24 2 2 3 := ⟨by kernel_rfl, by kernel_rfl⟩
instance : FldI Tryz.prog 24 3 3 3 := ⟨by kernel_rfl, by kernel_rfl⟩
instance : FldI Tryz.prog 24 4 4 3 := ⟨by kernel_rfl, by kernel_rfl⟩
instance : ZI Tryz.prog 24 [.slnil, .int .i64 0, .int .i64 0, .int .i64 0, .int .i64 0] := ⟨by kernel_rfl⟩
instance : BdI Tryz.prog 24 [.slnil, .int .i64 0, .int .i64 0, .int .i64 0, .int .i64 0] [(0, 1), (1, 1), (2, 1), (3, 1), (4, 1)] := ⟨by kernel_rfl⟩
instance : TyI Tryz.prog 25 1 false := ⟨by kernel_rfl, by kernel_rfl⟩
instance : SlI Tryz.prog 25 3 1 := ⟨by kernel_rfl, by kernel_rfl⟩
instance : EI Tryz.prog 25 1 8 [.int .i64 0] := ⟨by kernel_rfl⟩
instance : ZI Tryz.prog 25 [.slnil] := ⟨by kernel_rfl⟩
instance : TyI Tryz.prog 26 6 true := ⟨by kernel_rfl, by kernel_rfl⟩
instance : FldI Tryz.prog 26 0 0 24 := ⟨by kernel_rfl, by kernel_rfl⟩
instance : FldI Tryz.prog 26 1 5 25 := ⟨by kernel_rfl, by kernel_rfl⟩
instance : ZI Tryz.prog 26 [.slnil, .int .i64 0, .int .i64 0, .int .i64 0, .int .i64 0, .slnil] := ⟨by kernel_rfl⟩
instance : BdI Tryz.prog 26 [.slnil, .int .i64 0, .int .i64 0, .int .i64 0, .int .i64 0, .slnil] [(0, 5), (5, 1)] := ⟨by kernel_rfl⟩
instance : TyI Tryz.prog 27 6 true := ⟨by kernel_rfl, by kernel_rfl⟩
instance : FldI Tryz.prog 27 0 0 24 := ⟨by kernel_rfl, by kernel_rfl⟩
instance : FldI Tryz.prog 27 1 5 25 := ⟨by kernel_rfl, by kernel_rfl⟩
instance : ZI Tryz.prog 27 [.slnil, .int .i64 0, .int .i64 0, .int .i64 0, .int .i64 0, .slnil] := ⟨by kernel_rfl⟩
instance : BdI Tryz.prog 27 [.slnil, .int .i64 0, .int .i64 0, .int .i64 0, .int .i64 0, .slnil] [(0, 5), (5, 1)] := ⟨by kernel_rfl⟩
instance : TyI Tryz.prog 28 1 false := ⟨by kernel_rfl, by kernel_rfl⟩
instance : ZI Tryz.prog 28 [.raw .nilFunc] := ⟨by kernel_rfl⟩
instance : TyI Tryz.prog 29 1 false := ⟨by kernel_rfl, by kernel_rfl⟩
instance : ZI Tryz.prog 29 [.raw .nilFunc] := ⟨by kernel_rfl⟩
instance : TyI Tryz.prog 30 1 false := ⟨by kernel_rfl, by kernel_rfl⟩
instance : ZI Tryz.prog 30 [.flt 0] := ⟨by kernel_rfl⟩
instance : UI Tryz.prog 30 (.float .f64) := ⟨by kernel_rfl⟩
instance : TyI Tryz.prog 31 1 false := ⟨by kernel_rfl, by kernel_rfl⟩
instance : ZI Tryz.prog 31 [.int .i64 0] := ⟨by kernel_rfl⟩
instance : UI Tryz.prog 31 (.int .i64) := ⟨by kernel_rfl⟩
instance : TyI Tryz.prog 32 1 false := ⟨by kernel_rfl, by kernel_rfl⟩
instance : TyI Tryz.prog 33 1 false := ⟨by kernel_rfl, by kernel_rfl⟩
instance : ZI Tryz.prog 33 [.raw .nilFunc] := ⟨by kernel_rfl⟩
instance : TyI Tryz.prog 34 1 false := ⟨by kernel_rfl, by kernel_rfl⟩
instance : TyI Tryz.prog 35 1 false := ⟨by kernel_rfl, by kernel_rfl⟩
instance : ZI Tryz.prog 35 [.raw .nilFunc] := ⟨by kernel_rfl⟩
instance : TyI Tryz.prog 36 1 false := ⟨by kernel_rfl, by kernel_rfl⟩
instance : ZI Tryz.prog 36 [.raw .nilFunc] := ⟨by kernel_rfl⟩
instance : TyI Tryz.prog 37 3 true := ⟨by kernel_rfl, by kernel_rfl⟩
instance : FldI Tryz.prog 37 0 0 3 := ⟨by kernel_rfl, by kernel_rfl⟩
instance : FldI Tryz.prog 37 1 1 3 := ⟨by kernel_rfl, by kernel_rfl⟩
instance : FldI Tryz.prog 37 2 2 22 := ⟨by kernel_rfl, by kernel_rfl⟩
instance : ZI Tryz.prog 37 [.int .i64 0, .int .i64 0, .slnil] := ⟨by kernel_rfl⟩
instance : BdI Tryz.prog 37 [.int .i64 0, .int .i64 0, .slnil] [(0, 1), (1, 1), (2, 1)] := ⟨by kernel_rfl⟩
instance : TyI Tryz.prog 38 3 true := ⟨by kernel_rfl, by kernel_rfl⟩
instance : FldI Tryz.prog 38 0 0 3 := ⟨by kernel_rfl, by kernel_rfl⟩
instance : FldI Tryz.prog 38 1 1 3 := ⟨by kernel_rfl, by kernel_rfl⟩
instance : FldI Tryz.prog 38 2 2 22 := ⟨by kernel_rfl, by kernel_rfl⟩
instance : ZI Tryz.prog 38 [.int .i64 0, .int .i64 0, .slnil] := ⟨by kernel_rfl⟩
instance : BdI Tryz.prog 38 [.int .i64 0, .int .i64 0, .slnil] [(0, 1), (1, 1), (2, 1)] := ⟨by kernel_rfl⟩
instance : TyI Tryz.prog 39 1 false := ⟨by kernel_rfl, by kernel_rfl⟩
instance : ZI Tryz.prog 39 [.raw .nilFunc] := ⟨by kernel_rfl⟩
instance : TyI Tryz.prog 40 1 false := ⟨by kernel_rfl, by kernel_rfl⟩
instance : ZI Tryz.prog 40 [.raw .nilFunc] := ⟨by kernel_rfl⟩
instance : TyI Tryz.prog 41 1 false := ⟨by kernel_rfl, by kernel_rfl⟩
instance : TyI Tryz.prog 42 1 false := ⟨by kernel_rfl, by kernel_rfl⟩
instance : ZI Tryz.prog 42 [.raw .nilFunc] := ⟨by kernel_rfl⟩
instance : TyI Tryz.prog 43 1 false := ⟨by kernel_rfl, by kernel_rfl⟩
instance : ZI Tryz.prog 43 [.raw .nilFunc] := ⟨by kernel_rfl⟩
instance : TyI Tryz.prog 44 1 false := ⟨by kernel_rfl, by kernel_rfl⟩
instance : ZI Tryz.prog 44 [.raw .nilFunc] := ⟨by kernel_rfl⟩
instance : TyI Tryz.prog 45 1 false := ⟨by kernel_rfl, by kernel_rfl⟩
instance : ZI Tryz.prog 45 [.raw .nilFunc] := ⟨by kernel_rfl⟩
instance : TyI Tryz.prog 46 1 false := ⟨by kernel_rfl, by kernel_rfl⟩
instance : ZI Tryz.prog 46 [.raw .nilFunc] := ⟨by kernel_rfl⟩
instance : TyI Tryz.prog 47 1 false := ⟨by kernel_rfl, by kernel_rfl⟩
instance : ZI Tryz.prog 47 [.raw .nilFunc] := ⟨by kernel_rfl⟩
instance : TyI Tryz.prog 48 13 true := ⟨by kernel_rfl, by kernel_rfl⟩
instance : FldI Tryz.prog 48 0 0 24 := ⟨by kernel_rfl, by kernel_rfl⟩
instance : FldI Tryz.prog 48 1 5 27 := ⟨by kernel_rfl, by kernel_rfl⟩
instance : FldI Tryz.prog 48 2 11 25 := ⟨by kernel_rfl, by kernel_rfl⟩
instance : FldI Tryz.prog 48 3 12 25 := ⟨by kernel_rfl, by kernel_rfl⟩
instance : ZI Tryz.prog 48 [.slnil, .int .i64 0, .int .i64 0, .int .i64 0, .int .i64 0, .slnil, .int .i64 0, .int .i64 0, .int .i64 0, .int .i64 0, .slnil, .slnil, .slnil] := ⟨by kernel_rfl⟩
instance : BdI Tryz.prog 48 [.slnil, .int .i64 0, .int .i64 0, .int .i64 0, .int .i64 0, .slnil, .int .i64 0, .int .i64 0, .int .i64 0, .int .i64 0, .slnil, .slnil, .slnil] [(0, 5), (5, 6), (11, 1), (12, 1)] := ⟨by kernel_rfl⟩
instance : TyI Tryz.prog 49 13 true := ⟨by kernel_rfl, by kernel_rfl⟩
instance : FldI Tryz.prog 49 0 0 24 := ⟨by kernel_rfl, by kernel_rfl⟩
instance : FldI Tryz.prog 49 1 5 27 := ⟨by kernel_rfl, by kernel_rfl⟩
instance : FldI Tryz.prog 49 2 11 25 := ⟨by kernel_rfl, by kernel_rfl⟩
instance : FldI Tryz.prog 49 3 12 25 := ⟨by kernel_rfl, by kernel_rfl⟩
instance : ZI Tryz.prog 49 [.slnil, .int .i64 0, .int .i64 0, .int .i64 0, .int .i64 0, .slnil, .int .i64 0, .int .i64 0, .int .i64 0, .int .i64 0, .slnil, .slnil, .slnil] := ⟨by kernel_rfl⟩
instance : BdI Tryz.prog 49 [.slnil, .int .i64 0, .int .i64 0, .int .i64 0, .int .i64 0, .slnil, .int .i64 0, .int .i64 0, .int .i64 0, .int .i64 0, .slnil, .slnil, .slnil] [(0, 5), (5, 6), (11, 1), (12, 1)] := ⟨by kernel_rfl⟩
instance : TyI Tryz.prog 50 9 true := ⟨by kernel_rfl, by kernel_rfl⟩
instance : FldI Tryz.prog 50 0 0 38 := ⟨by kernel_rfl, by kernel_rfl⟩
instance : FldI Tryz.prog 50 1 3 38 := ⟨by kernel_rfl, by kernel_rfl⟩
instance : FldI Tryz.prog 50 2 6 25 := ⟨by kernel_rfl, by kernel_rfl⟩
instance : FldI Tryz.prog 50 3 7 25 := ⟨by kernel_rfl, by kernel_rfl⟩
instance : FldI Tryz.prog 50 4 8 25 := ⟨by kernel_rfl, by kernel_rfl⟩
instance : ZI Tryz.prog 50 [.int .i64 0, .int .i64 0, .slnil, .int .i64 0, .int .i64 0, .slnil, .slnil, .slnil, .slnil] := ⟨by kernel_rfl⟩
instance : BdI Tryz.prog 50 [.int .i64 0, .int .i64 0, .slnil, .int .i64 0, .int .i64 0, .slnil, .slnil, .slnil, .slnil] [(0, 3), (3, 3), (6, 1), (7, 1), (8, 1)] := ⟨by kernel_rfl⟩
instance : TyI Tryz.prog 51 9 true := ⟨by kernel_rfl, by kernel_rfl⟩
instance : FldI Tryz.prog 51 0 0 38 := ⟨by kernel_rfl, by kernel_rfl⟩
instance : FldI Tryz.prog 51 1 3 38 := ⟨by kernel_rfl, by kernel_rfl⟩
instance : FldI Tryz.prog 51 2 6 25 := ⟨by kernel_rfl, by kernel_rfl⟩
instance : FldI Tryz.prog 51 3 7 25 := ⟨by kernel_rfl, by kernel_rfl⟩
instance : FldI Tryz.prog 51 4 8 25 := ⟨by kernel_rfl, by kernel_rfl⟩
instance : ZI Tryz.prog 51 [.int .i64 0, .int .i64 0, .slnil, .int .i64 0, .int .i64 0, .slnil, .slnil, .slnil, .slnil] := ⟨by kernel_rfl⟩
instance : BdI Tryz.prog 51 [.int .i64 0, .int .i64 0, .slnil, .int .i64 0, .int .i64 0, .slnil, .slnil, .slnil, .slnil] [(0, 3), (3, 3), (6, 1), (7, 1), (8, 1)] := ⟨by kernel_rfl⟩
instance : TyI Tryz.prog 52 1 false := ⟨by kernel_rfl, by kernel_rfl⟩
instance : TyI Tryz.prog 53 1 false := ⟨by kernel_rfl, by kernel_rfl⟩
instance : ZI Tryz.prog 53 [.raw .nilFunc] := ⟨by kernel_rfl⟩
instance : TyI Tryz.prog 54 1 false := ⟨by kernel_rfl, by kernel_rfl⟩
instance : ZI Tryz.prog 54 [.raw .nilFunc] := ⟨by kernel_rfl⟩
instance : TyI Tryz.prog 55 1 false := ⟨by kernel_rfl, by kernel_rfl⟩
instance : ZI Tryz.prog 55 [.raw .nilFunc] := ⟨by kernel_rfl⟩
instance : TyI Tryz.prog 56 1 false := ⟨by kernel_rfl, by kernel_rfl⟩
instance : ZI Tryz.prog 56 [.raw .nilFunc] := ⟨by kernel_rfl⟩
instance : TyI Tryz.prog 57 1 false := ⟨by kernel_rfl, by kernel_rfl⟩
instance : TyI Tryz.prog 58 1 false := ⟨by kernel_rfl, by kernel_rfl⟩
instance : ZI Tryz.prog 58 [.raw .nilFunc] := ⟨by kernel_rfl⟩
instance : TyI Tryz.prog 59 1 false := ⟨by kernel_rfl, by kernel_rfl⟩
instance : ZI Tryz.prog 59 [.raw .nilFunc] := ⟨by kernel_rfl⟩
instance : TyI Tryz.prog 60 1 false := ⟨by kernel_rfl, by kernel_rfl⟩
instance : ZI Tryz.prog 60 [.raw .nilFunc] := ⟨by kernel_rfl⟩
instance : TyI Tryz.prog 61 1 false := ⟨by kernel_rfl, by kernel_rfl⟩
instance : SlI Tryz.prog 61 63 3 := ⟨by kernel_rfl, by kernel_rfl⟩
instance : EI Tryz.prog 61 3 40 [.bool false, .slnil, .int .i64 0] := ⟨by kernel_rfl⟩
instance : ZI Tryz.prog 61 [.slnil] := ⟨by kernel_rfl⟩
instance : TyI Tryz.prog 62 3 true := ⟨by kernel_rfl, by kernel_rfl⟩
instance : FldI Tryz.prog 62 0 0 4 := ⟨by kernel_rfl, by kernel_rfl⟩
instance : FldI Tryz.prog 62 1 1 25 := ⟨by kernel_rfl, by kernel_rfl⟩
instance : FldI Tryz.prog 62 2 2 3 := ⟨by kernel_rfl, by kernel_rfl⟩
instance : ZI Tryz.prog 62 [.bool false, .slnil, .int .i64 0] := ⟨by kernel_rfl⟩
instance : BdI Tryz.prog 62 [.bool false, .slnil, .int .i64 0] [(0, 1), (1, 1), (2, 1)] := ⟨by kernel_rfl⟩
instance : TyI Tryz.prog 63 3 true := ⟨by kernel_rfl, by kernel_rfl⟩
instance : FldI Tryz.prog 63 0 0 4 := ⟨by kernel_rfl, by kernel_rfl⟩
instance : FldI Tryz.prog 63 1 1 25 := ⟨by kernel_rfl, by kernel_rfl⟩
instance : FldI Tryz.prog 63 2 2 3 := ⟨by kernel_rfl, by kernel_rfl⟩
instance : ZI Tryz.prog 63 [.bool false, .slnil, .int .i64 0] := ⟨by kernel_rfl⟩
instance : BdI Tryz.prog 63 [.bool false, .slnil, .int .i64 0] [(0, 1), (1, 1), (2, 1)] := ⟨by kernel_rfl⟩
instance : TyI Tryz.prog 64 1 false := ⟨by kernel_rfl, by kernel_rfl⟩
instance : ZI Tryz.prog 64 [.raw .nilFunc] := ⟨by kernel_rfl⟩
instance : TyI Tryz.prog 65 1 false := ⟨by kernel_rfl, by kernel_rfl⟩
instance : ZI Tryz.prog 65 [.raw .nilFunc] := ⟨by kernel_rfl⟩
instance : TyI Tryz.prog 66 1 false := ⟨by kernel_rfl, by kernel_rfl⟩
instance : ZI Tryz.prog 66 [.raw .nilFunc] := ⟨by kernel_rfl⟩
instance : TyI Tryz.prog 67 1 false := ⟨by kernel_rfl, by kernel_rfl⟩
instance : ZI Tryz.prog 67 [.raw .nilFunc] := ⟨by kernel_rfl⟩
instance : TyI Tryz.prog 68 1 false := ⟨by kernel_rfl, by kernel_rfl⟩
instance : ZI Tryz.prog 68 [.raw .nilFunc] := ⟨by kernel_rfl⟩
instance : TyI Tryz.prog 69 1 false := ⟨by kernel_rfl, by kernel_rfl⟩
instance : ZI Tryz.prog 69 [.raw .nilFunc] := ⟨by kernel_rfl⟩
instance : TyI Tryz.prog 70 1 false := ⟨by kernel_rfl, by kernel_rfl⟩
instance : ZI Tryz.prog 70 [.raw .nilFunc] := ⟨by kernel_rfl⟩
instance : TyI Tryz.prog 71 1 false := ⟨by kernel_rfl, by kernel_rfl⟩
instance : ZI Tryz.prog 71 [.raw .nilFunc] := ⟨by kernel_rfl⟩
instance : TyI Tryz.prog 72 1 false := ⟨by kernel_rfl, by kernel_rfl⟩
instance : ZI Tryz.prog 72 [.raw .nilFunc] := ⟨by kernel_rfl⟩
instance : TyI Tryz.prog 73 1 false := ⟨by kernel_rfl, by kernel_rfl⟩
instance : TyI Tryz.prog 74 1 false := ⟨by kernel_rfl, by kernel_rfl⟩
instance : ZI Tryz.prog 74 [.raw .nilFunc] := ⟨by kernel_rfl⟩
instance : TyI Tryz.prog 75 1 false := ⟨by kernel_rfl, by kernel_rfl⟩
instance : ZI Tryz.prog 75 [.raw .nilFunc] := ⟨by kernel_rfl⟩
instance : TyI Tryz.prog 76 1 false := ⟨by kernel_rfl, by kernel_rfl⟩
instance : ZI Tryz.prog 76 [.raw .nilFunc] := ⟨by kernel_rfl⟩
instance : TyI Tryz.prog 77 1 false := ⟨by kernel_rfl, by kernel_rfl⟩
instance : ZI Tryz.prog 77 [.raw (.pointer none)] := ⟨by kernel_rfl⟩
instance : PtI Tryz.prog 77 := ⟨by kernel_rfl⟩
instance : TyI Tryz.prog 78 1 false := ⟨by kernel_rfl, by kernel_rfl⟩
instance : TyI Tryz.prog 79 1 false := ⟨by kernel_rfl, by kernel_rfl⟩
instance : ZI Tryz.prog 79 [.raw .nilFunc] := ⟨by kernel_rfl⟩
instance : TyI Tryz.prog 80 1 false := ⟨by kernel_rfl, by kernel_rfl⟩
instance : ZI Tryz.prog 80 [.raw .nilFunc] := ⟨by kernel_rfl⟩
instance : TyI Tryz.prog 81 4 true := ⟨by kernel_rfl, by kernel_rfl⟩
instance : FldI Tryz.prog 81 0 0 22 := ⟨by kernel_rfl, by kernel_rfl⟩
instance : FldI Tryz.prog 81 1 1 3 := ⟨by kernel_rfl, by kernel_rfl⟩
instance : FldI Tryz.prog 81 2 2 3 := ⟨by kernel_rfl, by kernel_rfl⟩
instance : FldI Tryz.prog 81 3 3 3 := ⟨by kernel_rfl, by kernel_rfl⟩
instance : ZI Tryz.prog 81 [.slnil, .int .i64 0, .int .i64 0, .int .i64 0] := ⟨by kernel_rfl⟩
instance : BdI Tryz.prog 81 [.slnil, .int .i64 0, .int .i64 0, .int .i64 0] [(0, 1), (1, 1), (2, 1), (3, 1)] := ⟨by kernel_rfl⟩
instance : TyI Tryz.prog 82 4 true := ⟨by kernel_rfl, by kernel_rfl⟩
instance : FldI Tryz.prog 82 0 0 22 := ⟨by kernel_rfl, by kernel_rfl⟩
instance : FldI Tryz.prog 82 1 1 3 := ⟨by kernel_rfl, by kernel_rfl⟩
instance : FldI Tryz.prog 82 2 2 3 := ⟨by kernel_rfl, by kernel_rfl⟩
instance : FldI Tryz.prog 82 3 3 3 := ⟨by kernel_rfl, by kernel_rfl⟩
instance : ZI Tryz.prog 82 [.slnil, .int .i64 0, .int .i64 0, .int .i64 0] := ⟨by kernel_rfl⟩
instance : BdI Tryz.prog 82 [.slnil, .int .i64 0, .int .i64 0, .int .i64 0] [(0, 1), (1, 1), (2, 1), (3, 1)] := ⟨by kernel_rfl⟩
instance : TyI Tryz.prog 83 1 false := ⟨by kernel_rfl, by kernel_rfl⟩
instance : ZI Tryz.prog 83 [.raw .nilFunc] := ⟨by kernel_rfl⟩
instance : TyI Tryz.prog 84 1 false := ⟨by kernel_rfl, by kernel_rfl⟩
instance : ZI Tryz.prog 84 [.raw .nilFunc] := ⟨by kernel_rfl⟩
instance : TyI Tryz.prog 85 1 false := ⟨by kernel_rfl, by kernel_rfl⟩
instance : ZI Tryz.prog 85 [.raw .nilFunc] := ⟨by kernel_rfl⟩
instance : TyI Tryz.prog 86 1 false := ⟨by kernel_rfl, by kernel_rfl⟩
instance : ZI Tryz.prog 86 [.raw .nilFunc] := ⟨by kernel_rfl⟩
instance : TyI Tryz.prog 87 1 false := ⟨by kernel_rfl, by kernel_rfl⟩
instance : ZI Tryz.prog 87 [.raw .nilFunc] := ⟨by kernel_rfl⟩
instance : TyI Tryz.prog 88 1 false := ⟨by kernel_rfl, by kernel_rfl⟩
instance : ZI Tryz.prog 88 [.raw .nilFunc] := ⟨by kernel_rfl⟩
instance : TyI Tryz.prog 89 1 false := ⟨by kernel_rfl, by kernel_rfl⟩
instance : ZI Tryz.prog 89 [.raw .nilFunc] := ⟨by kernel_rfl⟩
instance : TyI Tryz.prog 90 1 false := ⟨by kernel_rfl, by kernel_rfl⟩
instance : ZI Tryz.prog 90 [.raw .nilFunc] := ⟨by kernel_rfl⟩
instance : TyI Tryz.prog 91 1 false := ⟨by kernel_rfl, by kernel_rfl⟩
instance : ZI Tryz.prog 91 [.raw .nilFunc] := ⟨by kernel_rfl⟩
instance : TyI Tryz.prog 92 1 false := ⟨by kernel_rfl, by kernel_rfl⟩
instance : ZI Tryz.prog 92 [.raw (.pointer none)] := ⟨by kernel_rfl⟩
instance : PtI Tryz.prog 92 := ⟨by kernel_rfl⟩
instance : TyI Tryz.prog 93 7 true := ⟨by kernel_rfl, by kernel_rfl⟩
instance : FldI Tryz.prog 93 0 0 3 := ⟨by kernel_rfl, by kernel_rfl⟩
instance : FldI Tryz.prog 93 1 1 3 := ⟨by kernel_rfl, by kernel_rfl⟩
instance : FldI Tryz.prog 93 2 2 30 := ⟨by kernel_rfl, by kernel_rfl⟩
instance : FldI Tryz.prog 93 3 3 22 := ⟨by kernel_rfl, by kernel_rfl⟩
instance : FldI Tryz.prog 93 4 4 22 := ⟨by kernel_rfl, by kernel_rfl⟩
instance : FldI Tryz.prog 93 5 5 3 := ⟨by kernel_rfl, by kernel_rfl⟩
instance : FldI Tryz.prog 93 6 6 3 := ⟨by kernel_rfl, by kernel_rfl⟩
instance : ZI Tryz.prog 93 [.int .i64 0, .int .i64 0, .flt 0, .slnil, .slnil, .int .i64 0, .int .i64 0] := ⟨by kernel_rfl⟩
instance : BdI Tryz.prog 93 [.int .i64 0, .int .i64 0, .flt 0, .slnil, .slnil, .int .i64 0, .int .i64 0] [(0, 1), (1, 1), (2, 1), (3, 1), (4, 1), (5, 1), (6, 1)] := ⟨by kernel_rfl⟩
instance : TyI Tryz.prog 94 7 true := ⟨by kernel_rfl, by kernel_rfl⟩
instance : FldI Tryz.prog 94 0 0 3 := ⟨by kernel_rfl, by kernel_rfl⟩
instance : FldI Tryz.prog 94 1 1 3 := ⟨by kernel_rfl, by kernel_rfl⟩
instance : FldI Tryz.prog 94 2 2 30 := ⟨by kernel_rfl, by kernel_rfl⟩
instance : FldI Tryz.prog 94 3 3 22 := ⟨by kernel_rfl, by kernel_rfl⟩
instance : FldI Tryz.prog 94 4 4 22 := ⟨by kernel_rfl, by kernel_rfl⟩
instance : FldI Tryz.prog 94 5 5 3 := ⟨by kernel_rfl, by kernel_rfl⟩
instance : FldI Tryz.prog 94 6 6 3 := ⟨by kernel_rfl, by kernel_rfl⟩
instance : ZI Tryz.prog 94 [.int .i64 0, .int .i64 0, .flt 0, .slnil, .slnil, .int .i64 0, .int .i64 0] := ⟨by kernel_rfl⟩
instance : BdI Tryz.prog 94 [.int .i64 0, .int .i64 0, .flt 0, .slnil, .slnil, .int .i64 0, .int .i64 0] [(0, 1), (1, 1), (2, 1), (3, 1), (4, 1), (5, 1), (6, 1)] := ⟨by kernel_rfl⟩
instance : TyI Tryz.prog 95 1 false := ⟨by kernel_rfl, by kernel_rfl⟩
instance : TyI Tryz.prog 96 1 false := ⟨by kernel_rfl, by kernel_rfl⟩
instance : ZI Tryz.prog 96 [.raw .nilFunc] := ⟨by kernel_rfl⟩
instance : TyI Tryz.prog 97 1 false := ⟨by kernel_rfl, by kernel_rfl⟩
instance : TyI Tryz.prog 98 1 false := ⟨by kernel_rfl, by kernel_rfl⟩
instance : ZI Tryz.prog 98 [.raw .nilFunc] := ⟨by kernel_rfl⟩
instance : TyI Tryz.prog 99 1 false := ⟨by kernel_rfl, by kernel_rfl⟩
instance : ZI Tryz.prog 99 [.int .u64 0] := ⟨by kernel_rfl⟩
instance : UI Tryz.prog 99 (.int .u64) := ⟨by kernel_rfl⟩
instance : TyI Tryz.prog 100 1 false := ⟨by kernel_rfl, by kernel_rfl⟩
instance : TyI Tryz.prog 101 1 false := ⟨by kernel_rfl, by kernel_rfl⟩
instance : ZI Tryz.prog 101 [.raw .nilFunc] := ⟨by kernel_rfl⟩
instance : TyI Tryz.prog 102 1 false := ⟨by kernel_rfl, by kernel_rfl⟩
instance : ZI Tryz.prog 102 [.raw .nilFunc] := ⟨by kernel_rfl⟩
instance : TyI Tryz.prog 103 1 false := ⟨by kernel_rfl, by kernel_rfl⟩
instance : ZI Tryz.prog 103 [.raw .nilFunc] := ⟨by kernel_rfl⟩
instance : TyI Tryz.prog 104 1 false := ⟨by kernel_rfl, by kernel_rfl⟩
instance : ZI Tryz.prog 104 [.raw .nilFunc] := ⟨by kernel_rfl⟩
instance : TyI Tryz.prog 105 1 false := ⟨by kernel_rfl, by kernel_rfl⟩
instance : ZI Tryz.prog 105 [.raw .nilFunc] := ⟨by kernel_rfl⟩
instance : TyI Tryz.prog 106 1 false := ⟨by kernel_rfl, by kernel_rfl⟩
instance : TyI Tryz.prog 107 1 false := ⟨by kernel_rfl, by kernel_rfl⟩
instance : ZI Tryz.prog 107 [.raw .nilFunc] := ⟨by kernel_rfl⟩
instance : TyI Tryz.prog 108 1 false := ⟨by kernel_rfl, by kernel_rfl⟩
instance : TyI Tryz.prog 109 1 false := ⟨by kernel_rfl, by kernel_rfl⟩
instance : ZI Tryz.prog 109 [.raw .nilFunc] := ⟨by kernel_rfl⟩
instance : TyI Tryz.prog 110 1 false := ⟨by kernel_rfl, by kernel_rfl⟩
instance : ZI Tryz.prog 110 [.raw .nilFunc] := ⟨by kernel_rfl⟩
instance : TyI Tryz.prog 111 1 false := ⟨by kernel_rfl, by kernel_rfl⟩
instance : ZI Tryz.prog 111 [.raw .nilFunc] := ⟨by kernel_rfl⟩
instance : TyI Tryz.prog 112 1 false := ⟨by kernel_rfl, by kernel_rfl⟩
instance : TyI Tryz.prog 113 1 false := ⟨by kernel_rfl, by kernel_rfl⟩
instance : ZI Tryz.prog 113 [.raw .nilFunc] := ⟨by kernel_rfl⟩
instance : TyI Tryz.prog 114 1 false := ⟨by kernel_rfl, by kernel_rfl⟩
instance : ZI Tryz.prog 114 [.raw .nilFunc] := ⟨by kernel_rfl⟩
instance : TyI Tryz.prog 115 1 false := ⟨by kernel_rfl, by kernel_rfl⟩
instance : ZI Tryz.prog 115 [.raw .nilFunc] := ⟨by kernel_rfl⟩
instance : TyI Tryz.prog 116 1 false := ⟨by kernel_rfl, by kernel_rfl⟩
instance : ZI Tryz.prog 116 [.raw .nilFunc] := ⟨by kernel_rfl⟩
instance : TyI Tryz.prog 117 1 false := ⟨by kernel_rfl, by kernel_rfl⟩
instance : ZI Tryz.prog 117 [.raw .nilFunc] := ⟨by kernel_rfl⟩
instance : TyI Tryz.prog 118 1 false := ⟨by kernel_rfl, by kernel_rfl⟩
instance : ZI Tryz.prog 118 [.raw .nilFunc] := ⟨by kernel_rfl⟩
instance : TyI Tryz.prog 119 1 false := ⟨by kernel_rfl, by kernel_rfl⟩
instance : ZI Tryz.prog 119 [.raw .nilFunc] := ⟨by kernel_rfl⟩
instance : TyI Tryz.prog 120 1 false := ⟨by kernel_rfl, by kernel_rfl⟩
instance : TyI Tryz.prog 121 1 false := ⟨by kernel_rfl, by kernel_rfl⟩
instance : ZI Tryz.prog 121 [.raw .nilFunc] := ⟨by kernel_rfl⟩
instance : TyI Tryz.prog 122 1 false := ⟨by kernel_rfl, by kernel_rfl⟩
instance : ZI Tryz.prog 122 [.raw .nilFunc] := ⟨by kernel_rfl⟩
instance : TyI Tryz.prog 123 1 false := ⟨by kernel_rfl, by kernel_rfl⟩
instance : ZI Tryz.prog 123 [.raw .nilFunc] := ⟨by kernel_rfl⟩
instance : TyI Tryz.prog 124 1 false := ⟨by kernel_rfl, by kernel_rfl⟩
instance : ZI Tryz.prog 124 [.raw .nilFunc] := ⟨by kernel_rfl⟩
instance : TyI Tryz.prog 125 1 false := ⟨by kernel_rfl, by kernel_rfl⟩
instance : ZI Tryz.prog 125 [.raw .nilFunc] := ⟨by kernel_rfl⟩
instance : TyI Tryz.prog 126 1 false := ⟨by kernel_rfl, by kernel_rfl⟩
instance : TyI Tryz.prog 127 1 false := ⟨by kernel_rfl, by kernel_rfl⟩
instance : ZI Tryz.prog 127 [.raw .nilFunc] := ⟨by kernel_rfl⟩
instance : TyI Tryz.prog 128 1 false := ⟨by kernel_rfl, by kernel_rfl⟩
instance : TyI Tryz.prog 129 1 false := ⟨by kernel_rfl, by kernel_rfl⟩
instance : ZI Tryz.prog 129 [.raw .nilFunc] := ⟨by kernel_rfl⟩
instance : TyI Tryz.prog 130 1 false := ⟨by kernel_rfl, by kernel_rfl⟩
instance : ZI Tryz.prog 130 [.raw .nilFunc] := ⟨by kernel_rfl⟩
instance : TyI Tryz.prog 131 1 false := ⟨by kernel_rfl, by kernel_rfl⟩
instance : ZI Tryz.prog 131 [.raw .nilFunc] := ⟨by kernel_rfl⟩
instance : TyI Tryz.prog 132 1 false := ⟨by kernel_rfl, by kernel_rfl⟩
instance : ZI Tryz.prog 132 [.raw .nilFunc] := ⟨by kernel_rfl⟩
instance : TyI Tryz.prog 133 1 false := ⟨by kernel_rfl, by kernel_rfl⟩
instance : ZI Tryz.prog 133 [.raw .nilFunc] := ⟨by kernel_rfl⟩
instance : TyI Tryz.prog 134 1 false := ⟨by kernel_rfl, by kernel_rfl⟩
instance : ZI Tryz.prog 134 [.raw .nilFunc] := ⟨by kernel_rfl⟩
instance : TyI Tryz.prog 135 7 true := ⟨by kernel_rfl, by kernel_rfl⟩
instance : FldI Tryz.prog 135 0 0 3 := ⟨by kernel_rfl, by kernel_rfl⟩
instance : FldI Tryz.prog 135 1 1 3 := ⟨by kernel_rfl, by kernel_rfl⟩
instance : FldI Tryz.prog 135 2 2 30 := ⟨by kernel_rfl, by kernel_rfl⟩
instance : FldI Tryz.prog 135 3 3 22 := ⟨by kernel_rfl, by kernel_rfl⟩
instance : FldI Tryz.prog 135 4 4 22 := ⟨by kernel_rfl, by kernel_rfl⟩
instance : FldI Tryz.prog 135 5 5 3 := ⟨by kernel_rfl, by kernel_rfl⟩
instance : FldI Tryz.prog 135 6 6 3 := ⟨by kernel_rfl, by kernel_rfl⟩
instance : ZI Tryz.prog 135 [.int .i64 0, .int .i64 0, .flt 0, .slnil, .slnil, .int .i64 0, .int .i64 0] := ⟨by kernel_rfl⟩
instance : BdI Tryz.prog 135 [.int .i64 0, .int .i64 0, .flt 0, .slnil, .slnil, .int .i64 0, .int .i64 0] [(0, 1), (1, 1), (2, 1), (3, 1), (4, 1), (5, 1), (6, 1)] := ⟨by kernel_rfl⟩
instance : TyI Tryz.prog 136 7 true := ⟨by kernel_rfl, by kernel_rfl⟩
instance : FldI Tryz.prog 136 0 0 3 := ⟨by kernel_rfl, by kernel_rfl⟩
instance : FldI Tryz.prog 136 1 1 3 := ⟨by kernel_rfl, by kernel_rfl⟩
instance : FldI Tryz.prog 136 2 2 30 := ⟨by kernel_rfl, by kernel_rfl⟩
instance : FldI Tryz.prog 136 3 3 22 := ⟨by kernel_rfl, by kernel_rfl⟩
instance : FldI Tryz.prog 136 4 4 22 := ⟨by kernel_rfl, by kernel_rfl⟩
instance : FldI Tryz.prog 136 5 5 3 := ⟨by kernel_rfl, by kernel_rfl⟩
instance : FldI Tryz.prog 136 6 6 3 := ⟨by kernel_rfl, by kernel_rfl⟩
instance : ZI Tryz.prog 136 [.int .i64 0, .int .i64 0, .flt 0, .slnil, .slnil, .int .i64 0, .int .i64 0] := ⟨by kernel_rfl⟩
instance : BdI Tryz.prog 136 [.int .i64 0, .int .i64 0, .flt 0, .slnil, .slnil, .int .i64 0, .int .i64 0] [(0, 1), (1, 1), (2, 1), (3, 1), (4, 1), (5, 1), (6, 1)] := ⟨by kernel_rfl⟩
instance : TyI Tryz.prog 137 1 false := ⟨by kernel_rfl, by kernel_rfl⟩
instance : ZI Tryz.prog 137 [.raw .nilFunc] := ⟨by kernel_rfl⟩
instance : TyI Tryz.prog 138 1 false := ⟨by kernel_rfl, by kernel_rfl⟩
instance : ZI Tryz.prog 138 [.raw .nilFunc] := ⟨by kernel_rfl⟩
instance : TyI Tryz.prog 139 1 false := ⟨by kernel_rfl, by kernel_rfl⟩
instance : ZI Tryz.prog 139 [.raw .nilFunc] := ⟨by kernel_rfl⟩
instance : TyI Tryz.prog 140 1 false := ⟨by kernel_rfl, by kernel_rfl⟩
instance : ZI Tryz.prog 140 [.raw .nilFunc] := ⟨by kernel_rfl⟩
instance : TyI Tryz.prog 141 1 false := ⟨by kernel_rfl, by kernel_rfl⟩
instance : ZI Tryz.prog 141 [.raw .nilFunc] := ⟨by kernel_rfl⟩
instance : TyI Tryz.prog 142 1 false := ⟨by kernel_rfl, by kernel_rfl⟩
instance : ZI Tryz.prog 142 [.raw .nilFunc] := ⟨by kernel_rfl⟩
instance : TyI Tryz.prog 143 1 false := ⟨by kernel_rfl, by kernel_rfl⟩
instance : ZI Tryz.prog 143 [.raw .nilFunc] := ⟨by kernel_rfl⟩
instance : TyI Tryz.prog 144 1 false := ⟨by kernel_rfl, by kernel_rfl⟩
instance : ZI Tryz.prog 144 [.raw .nilFunc] := ⟨by kernel_rfl⟩
instance : TyI Tryz.prog 145 1 false := ⟨by kernel_rfl, by kernel_rfl⟩
instance : ZI Tryz.prog 145 [.int .u64 0] := ⟨by kernel_rfl⟩
instance : UI Tryz.prog 145 (.int .u64) := ⟨by kernel_rfl⟩
instance : TyI Tryz.prog 146 1 false := ⟨by kernel_rfl, by kernel_rfl⟩
instance : ZI Tryz.prog 146 [.raw .nilFunc] := ⟨by kernel_rfl⟩
instance : TyI Tryz.prog 147 1 false := ⟨by kernel_rfl, by kernel_rfl⟩
instance : ZI Tryz.prog 147 [.raw .nilFunc] := ⟨by kernel_rfl⟩
instance : TyI Tryz.prog 148 1 false := ⟨by kernel_rfl, by kernel_rfl⟩
instance : ZI Tryz.prog 148 [.raw .nilFunc] := ⟨by kernel_rfl⟩
instance : TyI Tryz.prog 149 1 false := ⟨by kernel_rfl, by kernel_rfl⟩
instance : ZI Tryz.prog 149 [.raw .nilFunc] := ⟨by kernel_rfl⟩
instance : TyI Tryz.prog 150 2 true := ⟨by kernel_rfl, by kernel_rfl⟩
instance : FldI Tryz.prog 150 0 0 115 := ⟨by kernel_rfl, by kernel_rfl⟩
instance : FldI Tryz.prog 150 1 1 149 := ⟨by kernel_rfl, by kernel_rfl⟩
instance : ZI Tryz.prog 150 [.raw .nilFunc, .raw .nilFunc] := ⟨by kernel_rfl⟩
instance : BdI Tryz.prog 150 [.raw .nilFunc, .raw .nilFunc] [(0, 1), (1, 1)] := ⟨by kernel_rfl⟩
instance : TyI Tryz.prog 151 2 true := ⟨by kernel_rfl, by kernel_rfl⟩
instance : FldI Tryz.prog 151 0 0 115 := ⟨by kernel_rfl, by kernel_rfl⟩
instance : FldI Tryz.prog 151 1 1 149 := ⟨by kernel_rfl, by kernel_rfl⟩
instance : ZI Tryz.prog 151 [.raw .nilFunc, .raw .nilFunc] := ⟨by kernel_rfl⟩
instance : BdI Tryz.prog 151 [.raw .nilFunc, .raw .nilFunc] [(0, 1), (1, 1)] := ⟨by kernel_rfl⟩
instance : TyI Tryz.prog 152 1 false := ⟨by kernel_rfl, by kernel_rfl⟩
instance : ZI Tryz.prog 152 [.raw .nilFunc] := ⟨by kernel_rfl⟩
instance : TyI Tryz.prog 153 1 false := ⟨by kernel_rfl, by kernel_rfl⟩
instance : ZI Tryz.prog 153 [.raw .nilFunc] := ⟨by kernel_rfl⟩
instance : TyI Tryz.prog 154 1 false := ⟨by kernel_rfl, by kernel_rfl⟩
instance : ZI Tryz.prog 154 [.raw .nilFunc] := ⟨by kernel_rfl⟩
instance : TyI Tryz.prog 155 1 false := ⟨by kernel_rfl, by kernel_rfl⟩
instance : ZI Tryz.prog 155 [.raw .nilFunc] := ⟨by kernel_rfl⟩
instance : TyI Tryz.prog 156 1 false := ⟨by kernel_rfl, by kernel_rfl⟩
instance : ZI Tryz.prog 156 [.raw .nilFunc] := ⟨by kernel_rfl⟩
instance : TyI Tryz.prog 157 1 false := ⟨by kernel_rfl, by kernel_rfl⟩
instance : ZI Tryz.prog 157 [.raw .nilFunc] := ⟨by kernel_rfl⟩
instance : TyI Tryz.prog 158 1 false := ⟨by kernel_rfl, by kernel_rfl⟩
instance : TyI Tryz.prog 159 1 false := ⟨by kernel_rfl, by kernel_rfl⟩
instance : ZI Tryz.prog 159 [.raw .nilFunc] := ⟨by kernel_rfl⟩
instance : TyI Tryz.prog 160 1 false := ⟨by kernel_rfl, by kernel_rfl⟩
instance : ZI Tryz.prog 160 [.raw .nilFunc] := ⟨by kernel_rfl⟩
instance : TyI Tryz.prog 161 1 false := ⟨by kernel_rfl, by kernel_rfl⟩
instance : ZI Tryz.prog 161 [.raw .nilFunc] := ⟨by kernel_rfl⟩
instance : TyI Tryz.prog 162 1 false := ⟨by kernel_rfl, by kernel_rfl⟩
instance : ZI Tryz.prog 162 [.raw .nilFunc] := ⟨by kernel_rfl⟩
instance : TyI Tryz.prog 163 1 false := ⟨by kernel_rfl, by kernel_rfl⟩
instance : ZI Tryz.prog 163 [.raw .nilFunc] := ⟨by kernel_rfl⟩
instance : TyI Tryz.prog 164 1 false := ⟨by kernel_rfl, by kernel_rfl⟩
instance : ZI Tryz.prog 164 [.raw .nilFunc] := ⟨by kernel_rfl⟩
instance : TyI Tryz.prog 165 1 false := ⟨by kernel_rfl, by kernel_rfl⟩
instance : ZI Tryz.prog 165 [.raw .nilFunc] := ⟨by kernel_rfl⟩
instance : TyI Tryz.prog 166 1 false := ⟨by kernel_rfl, by kernel_rfl⟩
instance : ZI Tryz.prog 166 [.raw (.pointer none)] := ⟨by kernel_rfl⟩
instance : PtI Tryz.prog 166 := ⟨by kernel_rfl⟩
instance : TyI Tryz.prog 167 1 false := ⟨by kernel_rfl, by kernel_rfl⟩
instance : ZI Tryz.prog 167 [.raw .nilFunc] := ⟨by kernel_rfl⟩
instance : TyI Tryz.prog 168 1 false := ⟨by kernel_rfl, by kernel_rfl⟩
instance : ZI Tryz.prog 168 [.raw .nilFunc] := ⟨by kernel_rfl⟩
instance : TyI Tryz.prog 169 1 false := ⟨by kernel_rfl, by kernel_rfl⟩
instance : ZI Tryz.prog 169 [.raw .nilFunc] := ⟨by kernel_rfl⟩
instance : TyI Tryz.prog 170 1 false := ⟨by kernel_rfl, by kernel_rfl⟩
instance : ZI Tryz.prog 170 [.raw .nilFunc] := ⟨by kernel_rfl⟩
instance : TyI Tryz.prog 171 1 false := ⟨by kernel_rfl, by kernel_rfl⟩
instance : ZI Tryz.prog 171 [.raw .nilFunc] := ⟨by kernel_rfl⟩
instance : TyI Tryz.prog 172 1 false := ⟨by kernel_rfl, by kernel_rfl⟩
instance : ZI Tryz.prog 172 [.raw .nilFunc] := ⟨by kernel_rfl⟩
instance : TyI Tryz.prog 173 1 false := ⟨by kernel_rfl, by kernel_rfl⟩
instance : ZI Tryz.prog 173 [.raw .nilFunc] := ⟨by kernel_rfl⟩
instance : TyI Tryz.prog 174 1 false := ⟨by kernel_rfl, by kernel_rfl⟩
instance : ZI Tryz.prog 174 [.raw .nilFunc] := ⟨by kernel_rfl⟩
instance : TyI Tryz.prog 175 1 false := ⟨by kernel_rfl, by kernel_rfl⟩
instance : ZI Tryz.prog 175 [.raw .nilFunc] := ⟨by kernel_rfl⟩
instance : TyI Tryz.prog 176 9 true := ⟨by kernel_rfl, by kernel_rfl⟩
instance : FldI Tryz.prog 176 0 0 24 := ⟨by kernel_rfl, by kernel_rfl⟩
instance : FldI Tryz.prog 176 1 5 82 := ⟨by kernel_rfl, by kernel_rfl⟩
instance : ZI Tryz.prog 176 [.slnil, .int .i64 0, .int .i64 0, .int .i64 0, .int .i64 0, .slnil, .int .i64 0, .int .i64 0, .int .i64 0] := ⟨by kernel_rfl⟩
instance : BdI Tryz.prog 176 [.slnil, .int .i64 0, .int .i64 0, .int .i64 0, .int .i64 0, .slnil, .int .i64 0, .int .i64 0, .int .i64 0] [(0, 5), (5, 4)] := ⟨by kernel_rfl⟩
instance : TyI Tryz.prog 177 9 true := ⟨by kernel_rfl, by kernel_rfl⟩
instance : FldI Tryz.prog 177 0 0 24 := ⟨by kernel_rfl, by kernel_rfl⟩
instance : FldI Tryz.prog 177 1 5 82 := ⟨by kernel_rfl, by kernel_rfl⟩
instance : ZI Tryz.prog 177 [.slnil, .int .i64 0, .int .i64 0, .int .i64 0, .int .i64 0, .slnil, .int .i64 0, .int .i64 0, .int .i64 0] := ⟨by kernel_rfl⟩
instance : BdI Tryz.prog 177 [.slnil, .int .i64 0, .int .i64 0, .int .i64 0, .int .i64 0, .slnil, .int .i64 0, .int .i64 0, .int .i64 0] [(0, 5), (5, 4)] := ⟨by kernel_rfl⟩
instance : TyI Tryz.prog 178 1 false := ⟨by kernel_rfl, by kernel_rfl⟩
instance : ZI Tryz.prog 178 [.raw .nilFunc] := ⟨by kernel_rfl⟩
instance : TyI Tryz.prog 179 1 false := ⟨by kernel_rfl, by kernel_rfl⟩
instance : ZI Tryz.prog 179 [.raw .nilFunc] := ⟨by kernel_rfl⟩
instance : TyI Tryz.prog 180 1 false := ⟨by kernel_rfl, by kernel_rfl⟩
instance : ZI Tryz.prog 180 [.raw .nilFunc] := ⟨by kernel_rfl⟩
instance : TyI Tryz.prog 181 1 false := ⟨by kernel_rfl, by kernel_rfl⟩
instance : ZI Tryz.prog 181 [.raw .nilFunc] := ⟨by kernel_rfl⟩
instance : TyI Tryz.prog 182 1 false := ⟨by kernel_rfl, by kernel_rfl⟩
instance : ZI Tryz.prog 182 [.raw .nilFunc] := ⟨by kernel_rfl⟩
instance : TyI Tryz.prog 183 1 false := ⟨by kernel_rfl, by kernel_rfl⟩
instance : ZI Tryz.prog 183 [.raw .nilFunc] := ⟨by kernel_rfl⟩
instance : TyI Tryz.prog 184 1 false := ⟨by kernel_rfl, by kernel_rfl⟩
instance : ZI Tryz.prog 184 [.raw .nilFunc] := ⟨by kernel_rfl⟩
instance : TyI Tryz.prog 185 1 false := ⟨by kernel_rfl, by kernel_rfl⟩
instance : TyI Tryz.prog 186 1 false := ⟨by kernel_rfl, by kernel_rfl⟩
instance : ZI Tryz.prog 186 [.raw .nilFunc] := ⟨by kernel_rfl⟩
instance : TyI Tryz.prog 187 1 false := ⟨by kernel_rfl, by kernel_rfl⟩
instance : ZI Tryz.prog 187 [.raw .nilFunc] := ⟨by kernel_rfl⟩
instance : TyI Tryz.prog 188 1 false := ⟨by kernel_rfl, by kernel_rfl⟩
instance : ZI Tryz.prog 188 [.raw .nilFunc] := ⟨by kernel_rfl⟩
instance : TyI Tryz.prog 189 1 false := ⟨by kernel_rfl, by kernel_rfl⟩
instance : ZI Tryz.prog 189 [.raw .nilFunc] := ⟨by kernel_rfl⟩
instance : TyI Tryz.prog 190 1 false := ⟨by kernel_rfl, by kernel_rfl⟩
instance : ZI Tryz.prog 190 [.raw .nilFunc] := ⟨by kernel_rfl⟩
instance : TyI Tryz.prog 191 1 false := ⟨by kernel_rfl, by kernel_rfl⟩
instance : TyI Tryz.prog 192 1 false := ⟨by kernel_rfl, by kernel_rfl⟩
instance : ZI Tryz.prog 192 [.raw .nilFunc] := ⟨by kernel_rfl⟩
instance : TyI Tryz.prog 193 1 false := ⟨by kernel_rfl, by kernel_rfl⟩
instance : ZI Tryz.prog 193 [.raw .nilFunc] := ⟨by kernel_rfl⟩
instance : TyI Tryz.prog 194 4 true := ⟨by kernel_rfl, by kernel_rfl⟩
instance : FldI Tryz.prog 194 0 0 17 := ⟨by kernel_rfl, by kernel_rfl⟩
instance : FldI Tryz.prog 194 1 1 17 := ⟨by kernel_rfl, by kernel_rfl⟩
instance : FldI Tryz.prog 194 2 2 17 := ⟨by kernel_rfl, by kernel_rfl⟩
instance : FldI Tryz.prog 194 3 3 9 := ⟨by kernel_rfl, by kernel_rfl⟩
instance : ZI Tryz.prog 194 [.raw (.pointer none), .raw (.pointer none), .raw (.pointer none), .str .empty] := ⟨by kernel_rfl⟩
instance : BdI Tryz.prog 194 [.raw (.pointer none), .raw (.pointer none), .raw (.pointer none), .str .empty] [(0, 1), (1, 1), (2, 1), (3, 1)] := ⟨by kernel_rfl⟩
instance : TyI Tryz.prog 195 4 true := ⟨by kernel_rfl, by kernel_rfl⟩
instance : FldI Tryz.prog 195 0 0 17 := ⟨by kernel_rfl, by kernel_rfl⟩
instance : FldI Tryz.prog 195 1 1 17 := ⟨by kernel_rfl, by kernel_rfl⟩
instance : FldI Tryz.prog 195 2 2 17 := ⟨by kernel_rfl, by kernel_rfl⟩
instance : FldI Tryz.prog 195 3 3 9 := ⟨by kernel_rfl, by kernel_rfl⟩
instance : ZI Tryz.prog 195 [.raw (.pointer none), .raw (.pointer none), .raw (.pointer none), .str .empty] := ⟨by kernel_rfl⟩
instance : BdI Tryz.prog 195 [.raw (.pointer none), .raw (.pointer none), .raw (.pointer none), .str .empty] [(0, 1), (1, 1), (2, 1), (3, 1)] := ⟨by kernel_rfl⟩
instance : TyI Tryz.prog 196 0 true := ⟨by kernel_rfl, by kernel_rfl⟩
instance : ZI Tryz.prog 196 [] := ⟨by kernel_rfl⟩
instance : TyI Tryz.prog 197 0 true := ⟨by kernel_rfl, by kernel_rfl⟩
instance : ZI Tryz.prog 197 [] := ⟨by kernel_rfl⟩
instance : BdI Tryz.prog 197 [] [(0, 0)] := ⟨by kernel_rfl⟩
instance : TyI Tryz.prog 198 0 true := ⟨by kernel_rfl, by kernel_rfl⟩
instance : ZI Tryz.prog 198 [] := ⟨by kernel_rfl⟩
instance : BdI Tryz.prog 198 [] [(0, 0)] := ⟨by kernel_rfl⟩
instance : TyI Tryz.prog 199 1 false := ⟨by kernel_rfl, by kernel_rfl⟩
instance : ZI Tryz.prog 199 [.int .u32 0] := ⟨by kernel_rfl⟩
instance : UI Tryz.prog 199 (.int .u32) := ⟨by kernel_rfl⟩
instance : TyI Tryz.prog 200 1 false := ⟨by kernel_rfl, by kernel_rfl⟩
instance : ZI Tryz.prog 200 [.int .u8 0] := ⟨by kernel_rfl⟩
instance : UI Tryz.prog 200 (.int .u8) := ⟨by kernel_rfl⟩
instance : TyI Tryz.prog 201 1 false := ⟨by kernel_rfl, by kernel_rfl⟩
instance : ZI Tryz.prog 201 [.int .u8 0] := ⟨by kernel_rfl⟩
instance : UI Tryz.prog 201 (.int .u8) := ⟨by kernel_rfl⟩
instance : TyI Tryz.prog 202 1 false := ⟨by kernel_rfl, by kernel_rfl⟩
instance : ZI Tryz.prog 202 [.raw .nilFunc] := ⟨by kernel_rfl⟩
instance : TyI Tryz.prog 203 1 false := ⟨by kernel_rfl, by kernel_rfl⟩
instance : ZI Tryz.prog 203 [.raw (.pointer none)] := ⟨by kernel_rfl⟩
instance : PtI Tryz.prog 203 := ⟨by kernel_rfl⟩
instance : TyI Tryz.prog 204 1 false := ⟨by kernel_rfl, by kernel_rfl⟩
instance : ZI Tryz.prog 204 [.int .i32 0] := ⟨by kernel_rfl⟩
instance : UI Tryz.prog 204 (.int .i32) := ⟨by kernel_rfl⟩
instance : TyI Tryz.prog 205 1 false := ⟨by kernel_rfl, by kernel_rfl⟩
instance : ZI Tryz.prog 205 [.int .i32 0] := ⟨by kernel_rfl⟩
instance : UI Tryz.prog 205 (.int .i32) := ⟨by kernel_rfl⟩
instance : TyI Tryz.prog 206 11 true := ⟨by kernel_rfl, by kernel_rfl⟩
instance : FldI Tryz.prog 206 0 0 12 := ⟨by kernel_rfl, by kernel_rfl⟩
instance : FldI Tryz.prog 206 1 1 12 := ⟨by kernel_rfl, by kernel_rfl⟩
instance : FldI Tryz.prog 206 2 2 199 := ⟨by kernel_rfl, by kernel_rfl⟩
instance : FldI Tryz.prog 206 3 3 200 := ⟨by kernel_rfl, by kernel_rfl⟩
instance : FldI Tryz.prog 206 4 4 5 := ⟨by kernel_rfl, by kernel_rfl⟩
instance : FldI Tryz.prog 206 5 5 5 := ⟨by kernel_rfl, by kernel_rfl⟩
instance : FldI Tryz.prog 206 6 6 201 := ⟨by kernel_rfl, by kernel_rfl⟩
instance : FldI Tryz.prog 206 7 7 202 := ⟨by kernel_rfl, by kernel_rfl⟩
instance : FldI Tryz.prog 206 8 8 203 := ⟨by kernel_rfl, by kernel_rfl⟩
instance : FldI Tryz.prog 206 9 9 204 := ⟨by kernel_rfl, by kernel_rfl⟩
instance : FldI Tryz.prog 206 10 10 205 := ⟨by kernel_rfl, by kernel_rfl⟩
instance : ZI Tryz.prog 206 [.int .u64 0, .int .u64 0, .int .u32 0, .int .u8 0, .int .u8 0, .int .u8 0, .int .u8 0, .raw .nilFunc, .raw (.pointer none), .int .i32 0, .int .i32 0] := ⟨by kernel_rfl⟩
instance : BdI Tryz.prog 206 [.int .u64 0, .int .u64 0, .int .u32 0, .int .u8 0, .int .u8 0, .int .u8 0, .int .u8 0, .raw .nilFunc, .raw (.pointer none), .int .i32 0, .int .i32 0] [(0, 1), (1, 1), (2, 1), (3, 1), (4, 1), (5, 1), (6, 1), (7, 1), (8, 1), (9, 1), (10, 1)] := ⟨by kernel_rfl⟩
instance : TyI Tryz.prog 207 11 true := ⟨by kernel_rfl, by kernel_rfl⟩
instance : FldI Tryz.prog 207 0 0 12 := ⟨by kernel_rfl, by kernel_rfl⟩
instance : FldI Tryz.prog 207 1 1 12 := ⟨by kernel_rfl, by kernel_rfl⟩
instance : FldI Tryz.prog 207 2 2 199 := ⟨by kernel_rfl, by kernel_rfl⟩
instance : FldI Tryz.prog 207 3 3 200 := ⟨by kernel_rfl, by kernel_rfl⟩
instance : FldI Tryz.prog 207 4 4 5 := ⟨by kernel_rfl, by kernel_rfl⟩
instance : FldI Tryz.prog 207 5 5 5 := ⟨by kernel_rfl, by kernel_rfl⟩
instance : FldI Tryz.prog 207 6 6 201 := ⟨by kernel_rfl, by kernel_rfl⟩
instance : FldI Tryz.prog 207 7 7 202 := ⟨by kernel_rfl, by kernel_rfl⟩
instance : FldI Tryz.prog 207 8 8 203 := ⟨by kernel_rfl, by kernel_rfl⟩
instance : FldI Tryz.prog 207 9 9 204 := ⟨by kernel_rfl, by kernel_rfl⟩
instance : FldI Tryz.prog 207 10 10 205 := ⟨by kernel_rfl, by kernel_rfl⟩
instance : ZI Tryz.prog 207 [.int .u64 0, .int .u64 0, .int .u32 0, .int .u8 0, .int .u8 0, .int .u8 0, .int .u8 0, .raw .nilFunc, .raw (.pointer none), .int .i32 0, .int .i32 0] := ⟨by kernel_rfl⟩
instance : BdI Tryz.prog 207 [.int .u64 0, .int .u64 0, .int .u32 0, .int .u8 0, .int .u8 0, .int .u8 0, .int .u8 0, .raw .nilFunc, .raw (.pointer none), .int .i32 0, .int .i32 0] [(0, 1), (1, 1), (2, 1), (3, 1), (4, 1), (5, 1), (6, 1), (7, 1), (8, 1), (9, 1), (10, 1)] := ⟨by kernel_rfl⟩
instance : TyI Tryz.prog 208 1 false := ⟨by kernel_rfl, by kernel_rfl⟩
instance : ZI Tryz.prog 208 [.raw (.pointer none)] := ⟨by kernel_rfl⟩
theorem fol : Tryz.prog.follows .mixedOrders = true := by kernel_rfl
theorem dOk {esc : Bool} {n : Nat} {fz : List Nat} (C : Cx) (h1 : C.P = Tryz.prog) (h2 : C.cfg = ⟨esc, n, fz⟩) : DrawOk C (drawX Tryz.prog ⟨esc, n, fz⟩) := by
  have := drawOk (C := C) (by rw [h1]; exact fol)
  rw [h1, h2] at this; exact this
end Go.Sx

set_option linter.unusedVariables false
set_option linter.unusedSimpArgs false
namespace Go.Sx
/-! ### a matrix within a list, written -/
def loc (off ld : Int) (r c p : Nat) : Option (Nat × Nat) :=
  if 0 ≤ (p : Int) - off ∧ (((p : Int) - off) % ld).toNat < r ∧ (((p : Int) - off) / ld).toNat < c then some ((((p : Int) - off) % ld).toNat, (((p : Int) - off) / ld).toNat) else none
def setM (L : List Nat) (off ld : Int) (r c : Nat) (g : Nat → Nat → Nat) : List Nat :=
  rml (fun p => match loc off ld r c p with | some q => g q.1 q.2 | none => L.getD p 0) L.length
@[simp] theorem setM_len (L : List Nat) (off ld : Int) (r c : Nat) (g : Nat → Nat → Nat) : (setM L off ld r c g).length = L.length := by simp [setM]
def pos (off ld : Int) (i j : Nat) : Nat := (off + (i : Int) + (j : Int) * ld).toNat
theorem mel_pos (l : List Nat) (off ld : Int) (i j : Nat) : mel l off ld i j = l.getD (pos off ld i j) 0 := rfl
section
variable {off ld : Int} {r c n : Nat}
theorem loc_pos (hG : GoodP n off r c ld) {i j : Nat} (hi : i < r) (hj : j < c) : loc off ld r c (pos off ld i j) = some (i, j) := by
  obtain ⟨h1, h2, h3, h4, h5, h6⟩ := id hG
  have hp := good_place hG (i := (i : Int)) (j := (j : Int)) (by omega) (by omega) (by omega) (by omega)
  have e : ((pos off ld i j : Nat) : Int) - off = (i : Int) + (j : Int) * ld := by unfold pos; omega
  have e1 : ((i : Int) + (j : Int) * ld) % ld = i := by
    rw [Int.add_mul_emod_self_right]; exact Int.emod_eq_of_lt (by omega) (by omega)
  have e2 : ((i : Int) + (j : Int) * ld) / ld = j := by
    rw [Int.add_mul_ediv_right _ _ (by omega), Int.ediv_eq_zero_of_lt (by omega) (by omega)]; omega
  unfold loc
  rw [e, e1, e2]
  rw [if_pos ⟨by omega, by omega, by omega⟩]
  simp
theorem loc_some {p i j : Nat} (h4 : 1 ≤ ld) (h3 : 0 ≤ off) (h : loc off ld r c p = some (i, j)) : i < r ∧ j < c ∧ p = pos off ld i j := by
  unfold loc at h
  split at h
  · rename_i hc
    simp only [Option.some.injEq, Prod.mk.injEq] at h
    obtain ⟨rfl, rfl⟩ := h
    refine ⟨hc.2.1, hc.2.2, ?_⟩
    unfold pos
    have e1 := Int.emod_nonneg ((p : Int) - off) (show ld ≠ 0 by omega)
    have e2 := Int.ediv_nonneg hc.1 (show 0 ≤ ld by omega)
    have e3 := Int.mul_ediv_add_emod ((p : Int) - off) ld
    rw [Int.toNat_of_nonneg e1, Int.toNat_of_nonneg e2]
    have : ((p : Int) - off) / ld * ld = ld * (((p : Int) - off) / ld) := Int.mul_comm _ _
    omega
  · cases h
theorem pos_lt (hG : GoodP n off r c ld) {i j : Nat} (hi : i < r) (hj : j < c) : pos off ld i j < n := by
  have hp := good_place hG (i := (i : Int)) (j := (j : Int)) (by omega) (by omega) (by omega) (by omega)
  unfold pos; omega
theorem mel_setM {L : List Nat} {g : Nat → Nat → Nat} (hG : GoodP L.length off r c ld) {i j : Nat} (hi : i < r) (hj : j < c) : mel (setM L off ld r c g) off ld i j = g i j := by
  rw [mel_pos, setM, rml_get (pos_lt hG hi hj), loc_pos hG hi hj]
theorem setM_congr {L : List Nat} {g g' : Nat → Nat → Nat} (h4 : 1 ≤ ld) (h3 : 0 ≤ off) (h : ∀ i j, i < r → j < c → g i j = g' i j) : setM L off ld r c g = setM L off ld r c g' := by
  unfold setM
  refine rml_congr fun p hp => ?_
  cases hl : loc off ld r c p with
  | some q =>
    obtain ⟨i, j⟩ := q
    obtain ⟨hi, hj, _⟩ := loc_some h4 h3 hl
    exact h i j hi hj
  | none => rfl
def updG (g : Nat → Nat → Nat) (i j x : Nat) : Nat → Nat → Nat := fun i' j' => if i' = i ∧ j' = j then x else g i' j'
theorem set_setM {L : List Nat} {g : Nat → Nat → Nat} (hG : GoodP L.length off r c ld) {i j x : Nat} (hi : i < r) (hj : j < c) : (setM L off ld r c g).set (pos off ld i j) x = setM L off ld r c (updG g i j x) := by
  obtain ⟨h1, h2, h3, h4, h5, h6⟩ := id hG
  apply List.ext_getElem
  · simp
  · intro p k1 k2
    simp only [setM_len] at k2
    rw [List.getElem_set]
    have val : ∀ g : Nat → Nat → Nat, (setM L off ld r c g)[p]'(by simpa using k2) = match loc off ld r c p with | some q => g q.1 q.2 | none => L.getD p 0 := by
      intro g; simp [setM, rml]
    rw [val, val]
    split
    · rename_i hp
      subst hp
      rw [loc_pos hG hi hj]
      simp [updG]
    · rename_i hp
      cases hl : loc off ld r c p with
      | some q =>
        obtain ⟨i', j'⟩ := q
        obtain ⟨hi', hj', rfl⟩ := loc_some h4 h3 hl
        simp only [updG]
        rw [if_neg]
        rintro ⟨rfl, rfl⟩; exact hp rfl
      | none => rfl
end
end Go.Sx

set_option linter.unusedVariables false
set_option linter.unusedSimpArgs false
namespace Go.Sx
section
variable {P : Program} {cfg : Cfg} {e : List (Nat × EV)} {L : List (Nat × List AV)} {H N : List (List AV)} {K : St → Prop}
variable {ty : TypeId} {pos : String} {aft : Array Edge} {gd : Option (Nat × Bool)} {dd : Nat}
/-! ### one block of old that is written over and over: the blocks are 'H.set b ..' -/
theorem hb_set {b : Nat} {cs : List AV} (h : b < H.length) : (H.set b cs)[b]? = some cs := by simp [h]
theorem l_bF {t : TypeId} {b g o len sz k : Nat} {X : List Nat} [i : TyI P t 1 false] (hb : b < H.length) (hg : X.length = g) (hk : o + k < X.length) (h : K ⟨(dd, .val (.flt (X.getD (o + k) 0))) :: e, L, H.set b (fl X) ++ N⟩) :
    loadK P t dd K ⟨e, L, H.set b (fl X) ++ N⟩ (.val (.eptr (.slm b g o len sz) k)) :=
  l_ptr1 (by simp only [sread, hg_old (hb_set hb), Option.bind_some, fl_len, hg, if_true]; exact gc_one (fl_get hk)) h
theorem b_stB {t : TypeId} {x v : Operand} {b g o len sz k : Nat} {X X' : List Nat} {f : Nat} [ti : TyI P t 1 false] (hx : St.ev ⟨e, L, H.set b (fl X) ++ N⟩ x = .val (.eptr (.slm b g o len sz) k)) (hv : St.ev ⟨e, L, H.set b (fl X) ++ N⟩ v = .val (.flt f)) (hb : b < H.length)
    (hg : X.length = g) (hk : o + k < X.length) (hX : X.set (o + k) f = X') (h : K ⟨e, L, H.set b (fl X') ++ N⟩) : opX P cfg ⟨none, .store t x v, ty, pos, aft, gd⟩ K ⟨e, L, H.set b (fl X) ++ N⟩ := by
  refine b_stF hx hv (hb_set hb) hg hk hX ?_
  rw [List.set_set]; exact h
theorem b_nilC {x : Operand} {s : AV} {o : Nat} (hx : St.ev ⟨e, L, H⟩ x = .val (.eptr s o)) (h : K ⟨(dd, .val (.eptr s o)) :: e, L, H⟩) : opX P cfg ⟨some dd, .nilCheck x, ty, pos, aft, gd⟩ K ⟨e, L, H⟩ := by
  rw [op_pure P cfg e L H K _ _ _ _ _ _ rfl]
  simp only [pureV, hx]
  exact ⟨trivial, h⟩
theorem b_iaM {m : Nat} {t el : TypeId} {x y : Operand} [si : SlI P t el 1] {s : AV} {k : IntKind} {i : Int} {len : Nat} (hx : St.ev ⟨e, L, H⟩ x = .val s) (hy : St.ev ⟨e, L, H⟩ y = .val (.int k i)) (hl : slen s = some len) (hi : i = (m : Int)) (hm : m < len)
    (h : K ⟨(dd, .val (.eptr s m)) :: e, L, H⟩) : opX P cfg ⟨some dd, .indexAddr t x y, ty, pos, aft, gd⟩ K ⟨e, L, H⟩ :=
  b_ia (i := m) hx hy hl hi hm (by simpa using h)
theorem FL.set {b g q : Nat} {X : List Nat} (hb : b < H.length) (hg : g = X.length) (hq : q = X.length) : FL (H.set b (fl X) ++ N) (.slm b g 0 q 1) X :=
  (FL.old (hb_set hb) hg hq).app N
end
/-- the place of the greatest number without its sign, among the first -/
def moN (x : List Nat) : Nat → Nat
  | 0 => 0
  | k + 1 => if k = 0 then 0 else if flt (absF (x.getD (moN x k) 0)) (absF (x.getD k 0)) then k else moN x k
theorem moN_T {x : List Nat} {k : Nat} (hk : 0 < k) (h : flt (absF (x.getD (moN x k) 0)) (absF (x.getD k 0)) = true) : moN x (k + 1) = k := by
  simp only [moN]; rw [if_neg (by omega), if_pos h]
theorem moN_F {x : List Nat} {k : Nat} (hk : 0 < k) (h : flt (absF (x.getD (moN x k) 0)) (absF (x.getD k 0)) = false) : moN x (k + 1) = moN x k := by
  simp only [moN]; rw [if_neg (by omega), h]; rfl
theorem moN_lt (x : List Nat) : ∀ k, 0 < k → moN x k < k
  | 0, h => by omega
  | k + 1, _ => by
    simp only [moN]
    split
    · omega
    · split
      · omega
      · have := moN_lt x k (by omega); omega
def moI (x : List Nat) (k : Nat) : Int := if k = 0 then -1 else (moN x k : Int)
theorem moI_zero (x : List Nat) : moI x 0 = -1 := rfl
theorem moI_pos {x : List Nat} {k : Nat} (h : 0 < k) : moI x k = (moN x k : Int) := by unfold moI; rw [if_neg (by omega)]
theorem moI_one (x : List Nat) : moI x (0 + 1) = 0 := rfl
end Go.Sx

set_option linter.unusedVariables false
set_option linter.unusedSimpArgs false
namespace Go.Sx
theorem OldOk.set2 {H N N' : List (List AV)} {n b : Nat} {X Y : List AV} (hb : b < H.length) (h : n ≤ H.length) (hm : mxL Y ≤ n) : OldOk n (H.set b X ++ N) (H.set b Y ++ N') := by
  have := OldOk.set (A := H.set b X) (N := N) (N' := N') (n := n) (i := b) (cs := Y) (by simpa using h) hm
  rwa [List.set_set] at this
/-! ### the factors, step by step -/
end Go.Sx

set_option linter.unusedVariables false
set_option linter.unusedSimpArgs false
namespace Go.Sx
section
variable {P : Program} {cfg : Cfg} {e : List (Nat × EV)} {L : List (Nat × List AV)} {H N : List (List AV)} {K : St → Prop}
variable {ty : TypeId} {pos : String} {aft : Array Edge} {gd : Option (Nat × Bool)} {dd : Nat}
end
theorem v_to {e : List (Nat × EV)} {L : List (Nat × List AV)} {H : List (List AV)} {K : St → Prop} {dd : Nat} (n' : Int) {n : Int} (hw : -9223372036854775808 ≤ n ∧ n ≤ 9223372036854775807) (hn : n = n') (h : K ⟨(dd, .val (.int .i64 n')) :: e, L, H⟩) : valK dd K ⟨e, L, H⟩ (some (True, .int .i64 (IntKind.i64.wrap n))) := by
  subst hn; exact v_w hw h
/-! ### a list that grows while others, too, have become -/
end Go.Sx

set_option linter.unusedVariables false
set_option linter.unusedSimpArgs false
namespace Go.Sx
/-! ### pivots -/
def pivP (p : List Int) : Prop := ∀ k, k < p.length → ((k : Int) ≤ p.getD k 0 ∧ p.getD k 0 < p.length)
instance (p : List Int) : Decidable (pivP p) := by unfold pivP; infer_instance
theorem first_bad (q : Nat → Prop) [DecidablePred q] : ∀ n, ∃ N, N ≤ n ∧ (∀ k, k < N → q k) ∧ (N < n → ¬ q N)
  | 0 => ⟨0, Nat.le_refl _, fun k hk => by omega, fun h => by omega⟩
  | n + 1 => by
    obtain ⟨N, h1, h2, h3⟩ := first_bad q n
    by_cases h : N < n
    · exact ⟨N, by omega, h2, fun _ => h3 h⟩
    · have : N = n := by omega
      subst this
      by_cases hq : q N
      · exact ⟨N + 1, Nat.le_refl _, fun k hk => by rcases Nat.lt_succ_iff_lt_or_eq.1 hk with h | h; exact h2 k h; exact h ▸ hq, fun h => by omega⟩
      · exact ⟨N, by omega, h2, fun _ => hq⟩
end Go.Sx
