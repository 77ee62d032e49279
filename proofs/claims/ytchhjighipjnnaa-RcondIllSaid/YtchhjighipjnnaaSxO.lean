/- A part of the proofs of this seat: SxO. No condition is set. -/
import Derived.Test.YtchhjighipjnnaaSxN
set_option linter.unusedVariables false
set_option linter.unusedSimpArgs false
namespace Go.Sx
/-- what is asked of an operation of a drawn region, and what follows -/
def ckK (f : DFl) (nY : NY) (o : Oper) (st : St) (K : St → Prop) (s : St) : Prop := ckX f nY o st s ∧ K s

section
variable {P : Program} {cfg : Cfg} {e e' : List (Nat × EV)} {L : List (Nat × List AV)} {H : List (List AV)} {Q : XE → St → Prop} {K : St → Prop}
variable {kn : Option (Nat × Bool)} {ops : Array Oper} {nY : NY} {d : Option Tmp} {o : Op} {ty : TypeId} {pos : String} {aft : Array Edge} {rest : List (Nat × DFl)} {i j : Nat} {f : DFl} {b want : Bool} {gd : Option (Nat × Bool)} {dd : Nat}

theorem b_draw {id : Nat} {l : List Oper} (nY ch : List Nat) (fl : List (Nat × DFl)) (hc : chkR cfg.esc l.toArray ch fl = true) (h : exD P cfg l.toArray ⟨nY, fun _ => false⟩ none fl (Q .normal) ⟨e, L, H⟩) (hb : boxFree cfg.esc e l = true := by kernel_rfl) : Ex P cfg (drawX P cfg) (.region id l.toArray true) Q ⟨e, L, H⟩ := by
  simp only [Ex, if_true]; exact ⟨⟨nY, fun _ => false⟩, ch, fl, hc, hb, h⟩
theorem b_drawW {id : Nat} {l : List Oper} (nY : NY) (ch : List Nat) (fl : List (Nat × DFl)) (hc : chkR cfg.esc l.toArray ch fl = true) (h : exD P cfg l.toArray nY none fl (Q .normal) ⟨e, L, H⟩) (hb : boxFree cfg.esc e l = true := by kernel_rfl) : Ex P cfg (drawX P cfg) (.region id l.toArray true) Q ⟨e, L, H⟩ := by
  simp only [Ex, if_true]; exact ⟨nY, ch, fl, hc, hb, h⟩
theorem d_nil (h : K ⟨e, L, H⟩) : exD P cfg ops nY kn [] K ⟨e, L, H⟩ := h
theorem d_c0 (ho : ops[i]? = some ⟨d, o, ty, pos, aft, none⟩) (h : opX P cfg ⟨d, o, ty, pos, aft, none⟩ (ckK f nY ⟨d, o, ty, pos, aft, none⟩ ⟨e, L, H⟩ (exD P cfg ops nY none rest K)) ⟨e, L, H⟩) : exD P cfg ops nY none ((i, f) :: rest) K ⟨e, L, H⟩ := by
  unfold exD; simp only [ho]; exact h
theorem d_c1 (ho : ops[i]? = some ⟨d, o, ty, pos, aft, none⟩) (hj : (((ops[j]?).bind (·.dst)) == d) = false) (h : opX P cfg ⟨d, o, ty, pos, aft, none⟩ (ckK f nY ⟨d, o, ty, pos, aft, none⟩ ⟨e, L, H⟩ (exD P cfg ops nY (some (j, b)) rest K)) ⟨e, L, H⟩) :
    exD P cfg ops nY (some (j, b)) ((i, f) :: rest) K ⟨e, L, H⟩ := by
  unfold exD; simp only [ho, Option.any_some, hj]; exact h
/-- a guard, its slot found -/
def guardD (P : Program) (cfg : Cfg) (ops : Array Oper) (nY : NY) (f : DFl) (o : Oper) (j : Nat) (want : Bool) (t : Nat) (rest : List (Nat × DFl)) (K : St → Prop) (st : St) (v : EV) : Prop :=
  St.ev st (.tmp t) = v →
  match v.asB with
  | none => False
  | some b =>
    (b = want → opX P cfg o (ckK f nY o st (exD P cfg ops nY (some (j, want)) rest K)) ⟨upd t (.val (.bool want)) st.env, st.L, st.H⟩) ∧
    (b = !want → exD P cfg ops nY (some (j, !want)) rest K (St.put ⟨upd t (.val (.bool (!want))) st.env, st.L, st.H⟩ o.dst (.val (.tup []))))
theorem ckX_upd {o : Oper} {t : Nat} {b : Bool} {s : St} (h : St.ev ⟨e, L, H⟩ (.tmp t) = .val (.bool b)) : ckX f nY o ⟨upd t (.val (.bool b)) e, L, H⟩ s = ckX f nY o ⟨e, L, H⟩ s := by
  rw [upd_same (ev_lk h)]
theorem d_gT {t : Nat} (ho : ops[i]? = some ⟨d, o, ty, pos, aft, some (j, want)⟩) (ht : (ops[j]?).bind (·.dst) = some t) (hd : (d == some t) = false)
    (h : opX P cfg ⟨d, o, ty, pos, aft, some (j, want)⟩ (ckK f nY ⟨d, o, ty, pos, aft, some (j, want)⟩ ⟨e, L, H⟩ (exD P cfg ops nY (some (j, want)) rest K)) ⟨e, L, H⟩) :
    exD P cfg ops nY (some (j, want)) ((i, f) :: rest) K ⟨e, L, H⟩ := by
  have hd' : d ≠ some t := by simpa using hd
  unfold exD; simp only [ho, ht, hd', if_false, if_true]; exact h
theorem d_gF {t : Nat} (ho : ops[i]? = some ⟨some dd, o, ty, pos, aft, some (j, want)⟩) (ht : (ops[j]?).bind (·.dst) = some t) (hd : (dd == t) = false) (hb : b = !want) (h : exD P cfg ops nY (some (j, b)) rest K ⟨(dd, .val (.tup [])) :: e, L, H⟩) :
    exD P cfg ops nY (some (j, b)) ((i, f) :: rest) K ⟨e, L, H⟩ := by
  have hd' : dd ≠ t := by simpa using hd
  subst hb
  unfold exD
  have h2 : ¬ (!want) = want := by cases want <;> simp
  simp only [ho, ht, Option.some.injEq, Prod.mk.injEq, hd', h2, and_false, if_false, if_true]; exact h
theorem guard_D {t : Nat} {v : EV} (ho : ops[i]? = some ⟨d, o, ty, pos, aft, some (j, want)⟩) (ht : (ops[j]?).bind (·.dst) = some t) (hd : (d == some t) = false) (hk : kn ≠ some (j, want) ∧ kn ≠ some (j, !want)) (hv : St.ev ⟨e, L, H⟩ (.tmp t) = v)
    (h : guardD P cfg ops nY f ⟨d, o, ty, pos, aft, some (j, want)⟩ j want t rest K ⟨e, L, H⟩ v) : exD P cfg ops nY kn ((i, f) :: rest) K ⟨e, L, H⟩ := by
  have hd' : d ≠ some t := by simpa using hd
  subst hv
  have h' := h rfl
  unfold exD
  simp only [ho, ht, hd', hk.1, hk.2, if_false]
  cases hb : (St.ev ⟨e, L, H⟩ (.tmp t)).asB with
  | none => rw [hb] at h'; exact h'.elim
  | some b => rw [hb] at h'; exact h'
theorem d_gU {t : Nat} (ho : ops[i]? = some ⟨some dd, o, ty, pos, aft, some (j, want)⟩) (ht : (ops[j]?).bind (·.dst) = some t) (hd : (dd == t) = false) (hk : kn ≠ some (j, want) ∧ kn ≠ some (j, !want)) (hv : St.ev ⟨e, L, H⟩ (.tmp t) = .val (.tup [])) (hn : kn.any (fun p => ((ops[p.1]?).bind (·.dst)) == some dd) = false)
    (h : exD P cfg ops nY kn rest K ⟨(dd, .val (.tup [])) :: e, L, H⟩) : exD P cfg ops nY kn ((i, f) :: rest) K ⟨e, L, H⟩ := by
  have hd' : dd ≠ t := by simpa using hd
  unfold exD
  simp only [ho, ht, Option.some.injEq, hd', if_false, hk.1, hk.2, hv, EV.asB, EV.isU, if_true, hn, Bool.false_eq_true]
  exact h
theorem d_g0 {t : Nat} {v : EV} (ho : ops[i]? = some ⟨d, o, ty, pos, aft, some (j, want)⟩) (ht : (ops[j]?).bind (·.dst) = some t) (hd : (d == some t) = false) (hv : St.ev ⟨e, L, H⟩ (.tmp t) = v)
    (h : guardD P cfg ops nY f ⟨d, o, ty, pos, aft, some (j, want)⟩ j want t rest K ⟨e, L, H⟩ v) : exD P cfg ops nY none ((i, f) :: rest) K ⟨e, L, H⟩ := guard_D ho ht hd ⟨by simp, by simp⟩ hv h
theorem d_g1 {t j' : Nat} {b' : Bool} {v : EV} (ho : ops[i]? = some ⟨d, o, ty, pos, aft, some (j, want)⟩) (ht : (ops[j]?).bind (·.dst) = some t) (hd : (d == some t) = false) (hj : (j' == j) = false) (hv : St.ev ⟨e, L, H⟩ (.tmp t) = v)
    (h : guardD P cfg ops nY f ⟨d, o, ty, pos, aft, some (j, want)⟩ j want t rest K ⟨e, L, H⟩ v) : exD P cfg ops nY (some (j', b')) ((i, f) :: rest) K ⟨e, L, H⟩ := by
  have hj' : j' ≠ j := by simpa using hj
  exact guard_D ho ht hd ⟨by simp [hj'], by simp [hj']⟩ hv h
theorem dg_TT {t : Nat} (h : opX P cfg ⟨d, o, ty, pos, aft, gd⟩ (ckK f nY ⟨d, o, ty, pos, aft, gd⟩ ⟨e, L, H⟩ (exD P cfg ops nY (some (j, true)) rest K)) ⟨e, L, H⟩) : guardD P cfg ops nY f ⟨d, o, ty, pos, aft, gd⟩ j true t rest K ⟨e, L, H⟩ (.val (.bool true)) :=
  fun hv => ⟨fun _ => by dsimp only; rw [upd_same (ev_lk hv)]; exact h, (fun h => Bool.noConfusion h)⟩
theorem dg_FF {t : Nat} (h : opX P cfg ⟨d, o, ty, pos, aft, gd⟩ (ckK f nY ⟨d, o, ty, pos, aft, gd⟩ ⟨e, L, H⟩ (exD P cfg ops nY (some (j, false)) rest K)) ⟨e, L, H⟩) : guardD P cfg ops nY f ⟨d, o, ty, pos, aft, gd⟩ j false t rest K ⟨e, L, H⟩ (.val (.bool false)) :=
  fun hv => ⟨fun _ => by dsimp only; rw [upd_same (ev_lk hv)]; exact h, (fun h => Bool.noConfusion h)⟩
theorem dg_TF {t : Nat} (h : exD P cfg ops nY (some (j, true)) rest K ⟨(dd, .val (.tup [])) :: e, L, H⟩) : guardD P cfg ops nY f ⟨some dd, o, ty, pos, aft, gd⟩ j false t rest K ⟨e, L, H⟩ (.val (.bool true)) :=
  fun hv => ⟨(fun h => Bool.noConfusion h), fun _ => by simp only [Bool.not_false]; rw [upd_same (ev_lk hv)]; exact h⟩
theorem dg_FT {t : Nat} (h : exD P cfg ops nY (some (j, false)) rest K ⟨(dd, .val (.tup [])) :: e, L, H⟩) : guardD P cfg ops nY f ⟨some dd, o, ty, pos, aft, gd⟩ j true t rest K ⟨e, L, H⟩ (.val (.bool false)) :=
  fun hv => ⟨(fun h => Bool.noConfusion h), fun _ => by simp only [Bool.not_true]; rw [upd_same (ev_lk hv)]; exact h⟩
theorem dg_PT {t : Nat} {p : Prop} [Decidable p] (h1 : p → opX P cfg ⟨some dd, o, ty, pos, aft, gd⟩ (ckK f nY ⟨some dd, o, ty, pos, aft, gd⟩ ⟨e, L, H⟩ (exD P cfg ops nY (some (j, true)) rest K)) ⟨upd t (.val (.bool true)) e, L, H⟩)
    (h2 : ¬ p → exD P cfg ops nY (some (j, false)) rest K ⟨(dd, .val (.tup [])) :: upd t (.val (.bool false)) e, L, H⟩) :
    guardD P cfg ops nY f ⟨some dd, o, ty, pos, aft, gd⟩ j true t rest K ⟨e, L, H⟩ (.val (.bool (decide p))) :=
  fun _ => ⟨fun h => h1 (of_decide_eq_true h), fun h => h2 (of_decide_eq_false h)⟩
theorem dg_PF {t : Nat} {p : Prop} [Decidable p] (h1 : ¬ p → opX P cfg ⟨some dd, o, ty, pos, aft, gd⟩ (ckK f nY ⟨some dd, o, ty, pos, aft, gd⟩ ⟨e, L, H⟩ (exD P cfg ops nY (some (j, false)) rest K)) ⟨upd t (.val (.bool false)) e, L, H⟩)
    (h2 : p → exD P cfg ops nY (some (j, true)) rest K ⟨(dd, .val (.tup [])) :: upd t (.val (.bool true)) e, L, H⟩) :
    guardD P cfg ops nY f ⟨some dd, o, ty, pos, aft, gd⟩ j false t rest K ⟨e, L, H⟩ (.val (.bool (decide p))) :=
  fun _ => ⟨fun h => h1 (of_decide_eq_false h), fun h => h2 (of_decide_eq_true h)⟩
theorem dg_BT {t : Nat} {b : Bool} (h1 : b = true → opX P cfg ⟨some dd, o, ty, pos, aft, gd⟩ (ckK f nY ⟨some dd, o, ty, pos, aft, gd⟩ ⟨e, L, H⟩ (exD P cfg ops nY (some (j, true)) rest K)) ⟨upd t (.val (.bool true)) e, L, H⟩)
    (h2 : b = false → exD P cfg ops nY (some (j, false)) rest K ⟨(dd, .val (.tup [])) :: upd t (.val (.bool false)) e, L, H⟩) :
    guardD P cfg ops nY f ⟨some dd, o, ty, pos, aft, gd⟩ j true t rest K ⟨e, L, H⟩ (.val (.bool b)) := fun _ => ⟨h1, h2⟩
theorem dg_BF {t : Nat} {b : Bool} (h1 : b = false → opX P cfg ⟨some dd, o, ty, pos, aft, gd⟩ (ckK f nY ⟨some dd, o, ty, pos, aft, gd⟩ ⟨e, L, H⟩ (exD P cfg ops nY (some (j, false)) rest K)) ⟨upd t (.val (.bool false)) e, L, H⟩)
    (h2 : b = true → exD P cfg ops nY (some (j, true)) rest K ⟨(dd, .val (.tup [])) :: upd t (.val (.bool true)) e, L, H⟩) :
    guardD P cfg ops nY f ⟨some dd, o, ty, pos, aft, gd⟩ j false t rest K ⟨e, L, H⟩ (.val (.bool b)) := fun _ => ⟨h1, h2⟩

/-! what is asked -/
theorem k_lt {o : Oper} {st s : St} (h : K s) : ckK .lt nY o st K s := ⟨trivial, h⟩
/-- of a light load: where it reads -/
def ldOk (nY : NY) (hl : Bool) : EV → Bool
  | .loc k _ => !nY.ks.contains k
  | .val (.eptr (.slm id _ _ _ _) _) => hl || nY.W id
  | _ => true
theorem k_ld {hl : Bool} {t : TypeId} {x : Operand} {st s : St} {v : EV} (hv : St.ev st x = v) (hk : ldOk nY hl v = true) (h : K s) : ckK (.ld hl) nY ⟨d, .load t x, ty, pos, aft, gd⟩ st K s := by
  refine ⟨?_, h⟩
  subst hv
  simp only [ckX]
  unfold ldOk at hk
  split at hk <;> split <;> first
    | trivial
    | simp_all; done
    | (rename_i hne _ _ _ _ _ _ _ he; exact absurd rfl (hne _ _ _ _ _ _ |> fun h => by simp_all))
    | (exfalso; simp_all; rename_i hne; exact hne _ _ _ _ _ _ rfl rfl rfl rfl rfl rfl)
    | (exfalso; simp_all; rename_i hne _; exact hne _ _ _ _ _ _ rfl rfl rfl rfl rfl rfl)
theorem k_bin {hl : Bool} {op : BinOp} {t t' : TypeId} {x y : Operand} {st s : St} {v : EV} (hv : St.ev st x = v) (hk : (hl || !isEp v) = true) (h : K s) : ckK (.ld hl) nY ⟨d, .binOp op t x y t', ty, pos, aft, gd⟩ st K s := by
  refine ⟨?_, h⟩
  subst hv
  have : isEp (st.ev x) = true → hl = true := by intro h'; rw [h'] at hk; simpa using hk
  cases op <;> simp only [ckX] <;> first | trivial | exact this
theorem k_mn {q : Bool} {o : Oper} (h : K ⟨e', L, H⟩) : ckK (.mn q) nY o ⟨e, L, H⟩ K ⟨e', L, H⟩ := ⟨⟨fun _ _ => rfl, fun _ _ _ => rfl⟩, h⟩
theorem k_mnA {q : Bool} {o : Oper} {N : List (List AV)} (h : K ⟨e', L, H ++ N⟩) : ckK (.mn q) nY o ⟨e, L, H⟩ K ⟨e', L, H ++ N⟩ := ⟨⟨fun _ _ => rfl, fun id _ hid => List.getElem?_append_left hid⟩, h⟩
theorem k_mnF {o : Oper} {H' : List (List AV)} (h : K ⟨e', L, H'⟩) (hW : ∀ id, nY.W id = false := by intro _; rfl) : ckK (.mn false) nY o ⟨e, L, H⟩ K ⟨e', L, H'⟩ := ⟨⟨fun _ _ => rfl, fun id h => by rw [hW id] at h; simp at h⟩, h⟩
theorem k_mnL {q : Bool} {o : Oper} {k : Nat} {cs : List AV} (hk : nY.ks.contains k = true) (h : K ⟨e', (k, cs) :: L, H⟩) : ckK (.mn q) nY o ⟨e, L, H⟩ K ⟨e', (k, cs) :: L, H⟩ := by
  refine ⟨⟨fun k' hk' => ?_, fun _ _ _ => rfl⟩, h⟩
  have : k ≠ k' := fun hh => hk' (by subst hh; simpa using hk)
  simp only [lk, this, if_false]

theorem k_bx {o : Oper} {dd : Nat} {st s : St} (hd : o.dst = some dd) (hk : nY.ks.contains dd = true) (h : K s) : ckK .bx nY o st K s := by
  refine ⟨fun d hh => ?_, h⟩
  rw [hd] at hh; simp only [Option.some.injEq] at hh; subst hh
  simpa using hk

/-! more operations -/
theorem b_ext {x : Operand} {n : Nat} {vs : List AV} {v : AV} (hx : St.ev ⟨e, L, H⟩ x = .val (.tup vs)) (hv : vs[n]? = some v) (h : K ⟨(dd, .val v) :: e, L, H⟩) : opX P cfg ⟨some dd, .extract x n, ty, pos, aft, gd⟩ K ⟨e, L, H⟩ := by
  rw [op_pure P cfg e L H K _ _ _ _ _ _ rfl]
  simp only [pureV, hx, hv, Option.map_some]
  exact ⟨trivial, h⟩
/-- a store to a box -/
theorem b_stL {t : TypeId} {x v : Operand} {key off n : Nat} {a : Bool} {cs vs cs' : List AV} [ti : TyI P t n a] {ev : EV} (hx : St.ev ⟨e, L, H⟩ x = .loc key off) (hv : St.ev ⟨e, L, H⟩ v = ev) (hvs : ev.asV.bind AV.cells = some vs) (hn : vs.length = n) (hc : lk L key = some cs)
    (hle : off + vs.length ≤ cs.length) (hcs : sc cs off vs = cs') (h : K ⟨e, (key, cs') :: L, H⟩) : opX P cfg ⟨none, .store t x v, ty, pos, aft, gd⟩ K ⟨e, L, H⟩ := by
  subst hv hcs
  simp only [opX, opE, hvs, ti.sz, hn, hx, storeX, hc]
  exact ⟨trivial, trivial, by rw [← hn]; exact hle, h⟩
/-- a store to a block -/
theorem b_stH {t : TypeId} {x v : Operand} {id gen o' len sz off n : Nat} {a : Bool} {cs vs cs' : List AV} [ti : TyI P t n a] {ev : EV} (hx : St.ev ⟨e, L, H⟩ x = .val (.eptr (.slm id gen o' len sz) off)) (hv : St.ev ⟨e, L, H⟩ v = ev) (hvs : ev.asV.bind AV.cells = some vs) (hn : vs.length = n) (hc : H[id]? = some cs)
    (hg : cs.length = gen) (hle : o' + off + vs.length ≤ cs.length) (hm : cfg.n0 ≤ id ∨ mxL vs ≤ cfg.n0) (hcs : sc cs (o' + off) vs = cs') (h : K ⟨e, L, H.set id cs'⟩) : opX P cfg ⟨none, .store t x v, ty, pos, aft, gd⟩ K ⟨e, L, H⟩ := by
  subst hv hcs
  simp only [opX, opE, hvs, ti.sz, hn, hx, storeX, hc]
  exact ⟨trivial, trivial, hg, by rw [← hn]; exact hle, hm, h⟩
/-- a quotient of what is not below 0 -/
theorem v_q {x y : Int} (hx : 0 ≤ x ∧ x ≤ 9223372036854775807) (hy : 1 ≤ y) (h : K ⟨(dd, .val (.int .i64 (x / y))) :: e, L, H⟩) : valK dd K ⟨e, L, H⟩ (some (True, .int .i64 (IntKind.i64.wrap (x.tdiv y)))) := by
  have h1 : x.tdiv y = x / y := Int.tdiv_eq_ediv_of_nonneg hx.1
  have h2 : 0 ≤ x / y := Int.ediv_nonneg hx.1 (by omega)
  have h3 : x / y ≤ x := Int.ediv_le_self _ hx.1
  rw [h1]
  exact v_w (by omega) h
theorem b_lenA {x : Operand} {t : TypeId} {el z : Nat} [si : SlI P t el z] {s : AV} {n : Nat} (hx : St.ev ⟨e, L, H⟩ x = .val s) (hs : slen s = some n) (h : K ⟨(dd, .val (.int .i64 n)) :: e, L, H⟩) :
    opX P cfg ⟨some dd, .call { callee := .builtin .len, args := #[x], argTypes := #[t] }, ty, pos, aft, gd⟩ K ⟨e, L, H⟩ := b_len (t := t) rfl hx hs h
theorem ae_nil {ρ : Operand → EV} : argsX ρ [] = some [] := rfl
theorem ae_cons {ρ : Operand → EV} {x : Operand} {xs : List Operand} {v : AV} {vs : List AV} (h : ρ x = .val v) (hr : argsX ρ xs = some vs) : argsX ρ (x :: xs) = some (v :: vs) := by
  unfold argsX at hr ⊢
  have h' : (ρ x).asV = some v := by rw [h]; rfl
  simp only [List.map_cons, List.mapM_cons, h', id_eq, hr]; rfl
theorem b_callA {id : Nat} {args : Array Operand} {ts : Array TypeId} {vs : List AV} (ha : argsX (St.ev ⟨e, L, H⟩) args.toList = some vs) {r : AV} {H' : List (List AV)}
    (hs : CSpec P id vs H r H') (ho : OldOk cfg.n0 H H') (h : K ⟨(dd, .val r) :: e, L, H'⟩) :
    opX P cfg ⟨some dd, .call { callee := .value (.func id), args := args, argTypes := ts }, ty, pos, aft, gd⟩ K ⟨e, L, H⟩ := b_call ha rfl hs ho h
theorem v_eT {x y : Int} (hp : x = y) (h : K ⟨(dd, .val (.bool true)) :: e, L, H⟩) : valK dd K ⟨e, L, H⟩ (some (True, .bool (x == y))) := by
  have : (x == y) = true := by simpa using hp
  rw [this]; exact ⟨trivial, h⟩
theorem v_eF {x y : Int} (hp : x ≠ y) (h : K ⟨(dd, .val (.bool false)) :: e, L, H⟩) : valK dd K ⟨e, L, H⟩ (some (True, .bool (x == y))) := by
  have : (x == y) = false := by simpa using hp
  rw [this]; exact ⟨trivial, h⟩
theorem v_eP {x y : Int} (h : K ⟨(dd, .val (.bool (decide (x = y)))) :: e, L, H⟩) : valK dd K ⟨e, L, H⟩ (some (True, .bool (x == y))) := ⟨trivial, h⟩
theorem v_neT {x y : Int} (hp : x ≠ y) (h : K ⟨(dd, .val (.bool true)) :: e, L, H⟩) : valK dd K ⟨e, L, H⟩ (some (True, .bool (x != y))) := by
  have : (x != y) = true := by simpa using hp
  rw [this]; exact ⟨trivial, h⟩
theorem v_neF {x y : Int} (hp : x = y) (h : K ⟨(dd, .val (.bool false)) :: e, L, H⟩) : valK dd K ⟨e, L, H⟩ (some (True, .bool (x != y))) := by
  have : (x != y) = false := by simpa using hp
  rw [this]; exact ⟨trivial, h⟩
theorem v_neP {x y : Int} (h : K ⟨(dd, .val (.bool (decide (x ≠ y)))) :: e, L, H⟩) : valK dd K ⟨e, L, H⟩ (some (True, .bool (x != y))) := by
  have : (x != y) = decide (x ≠ y) := by simp only [bne, ne_eq, decide_not]; rfl
  rw [this]; exact ⟨trivial, h⟩
theorem rtF {p : Prop} [Decidable p] (h : ¬ p) : aOf (.bool false) = .bool (decide p) := by rw [decide_eq_false h]; rfl
theorem rtT {p : Prop} [Decidable p] (h : p) : aOf (.bool true) = .bool (decide p) := by rw [decide_eq_true h]; rfl
theorem rvF {p : Prop} [Decidable p] (h : ¬ p) : AV.bool false = .bool (decide p) := by rw [decide_eq_false h]
theorem rvT {p : Prop} [Decidable p] (h : p) : AV.bool true = .bool (decide p) := by rw [decide_eq_true h]
theorem rvP {p q : Prop} [Decidable p] [Decidable q] (h : q ↔ p) : AV.bool (decide q) = .bool (decide p) := by rw [decide_eq_decide.2 h]
/-- the end of three results -/
theorem b_ret3 {fn : Func} {H₀ H' : List (List AV)} {r v1 v2 v3 : AV} {t1 t2 t3 : Nat} {x : XE} (hx : x = .ret ∨ x = .normal) (hf : fn.results = #[.tmp t1, .tmp t2, .tmp t3]) (h1 : St.ev ⟨e, L, H⟩ (.tmp t1) = .val v1) (h2 : St.ev ⟨e, L, H⟩ (.tmp t2) = .val v2)
    (h3 : St.ev ⟨e, L, H⟩ (.tmp t3) = .val v3) (hH : H = H') (hH0 : H' = H₀) (hm : mx (.tup [v1, v2, v3]) ≤ H₀.length) (hr : .tup [v1, v2, v3] = r) : RetQ P fn H₀ r H' x ⟨e, L, H⟩ := by
  subst hH hH0 hr
  refine ⟨by rcases hx with rfl | rfl <;> trivial, [v1, v2, v3], [], ?_, List.nodup_nil, by simp, by simp [frH], Fr.old hm⟩
  have k1 : resV P ⟨e, L, H⟩ (.tmp t1) = some v1 := by simp [resV, h1, EV.asV]
  have k2 : resV P ⟨e, L, H⟩ (.tmp t2) = some v2 := by simp [resV, h2, EV.asV]
  have k3 : resV P ⟨e, L, H⟩ (.tmp t3) = some v3 := by simp [resV, h3, EV.asV]
  simp only [hf, List.map_cons, List.map_nil, k1, k2, k3]; rfl
/-- the end of several results -/
theorem b_retN {fn : Func} {H₀ H' : List (List AV)} {r : AV} {x : XE} {vs : List AV} (hx : x = .ret ∨ x = .normal) (hf : (fn.results.toList.map (resV P ⟨e, L, H⟩)).mapM id = some vs) (hH : H = H') (hH0 : H' = H₀) (hm : mx (resOne vs) ≤ H₀.length) (hr : resOne vs = r) :
    RetQ P fn H₀ r H' x ⟨e, L, H⟩ := by
  subst hH hH0 hr
  exact ⟨by rcases hx with rfl | rfl <;> trivial, vs, [], hf, List.nodup_nil, by simp, by simp [frH], Fr.old hm⟩
end
theorem b_ia0 {P : Program} {cfg : Cfg} {e : List (Nat × EV)} {L : List (Nat × List AV)} {H : List (List AV)} {K : St → Prop} {dd : Nat} {ty : TypeId} {pos : String} {aft : Array Edge} {gd : Option (Nat × Bool)} {t el : TypeId} {x : Operand} {z : Nat} [si : SlI P t el z] {s : AV} {len : Nat} (hx : St.ev ⟨e, L, H⟩ x = .val s) (hl : slen s = some len) (hi : 0 < len)
    (h : K ⟨(dd, .val (.eptr s 0)) :: e, L, H⟩) : opX P cfg ⟨some dd, .indexAddr t x (.const (.int .i64 0)), ty, pos, aft, gd⟩ K ⟨e, L, H⟩ :=
  b_ia hx rfl hl (i := 0) rfl hi (by simpa using h)
def callK (P : Program) (cfg : Cfg) (id : Nat) (vs : List AV) (dd : Nat) (K : St → Prop) (st : St) : Prop := ∃ r H', CSpec P id vs st.H r H' ∧ OldOk cfg.n0 st.H H' ∧ K ⟨(dd, .val r) :: st.env, st.L, H'⟩
def argK (P : Program) (cfg : Cfg) (id : Nat) (xs : List Operand) (acc : List AV) (dd : Nat) (K : St → Prop) (st : St) : Prop := ∃ vs, argsX st.ev xs = some vs ∧ callK P cfg id (acc ++ vs) dd K st
theorem b_callB {P : Program} {cfg : Cfg} {e : List (Nat × EV)} {L : List (Nat × List AV)} {H : List (List AV)} {K : St → Prop} {dd : Nat} {ty : TypeId} {pos : String} {aft : Array Edge} {gd : Option (Nat × Bool)} {id : Nat} {args : Array Operand} {ts : Array TypeId}
    (h : argK P cfg id args.toList [] dd K ⟨e, L, H⟩) : opX P cfg ⟨some dd, .call { callee := .value (.func id), args := args, argTypes := ts }, ty, pos, aft, gd⟩ K ⟨e, L, H⟩ := by
  obtain ⟨vs, ha, r, H', h1, h2, h3⟩ := h
  exact b_callA ha (by simpa using h1) h2 h3
theorem a_nil {P : Program} {cfg : Cfg} {e : List (Nat × EV)} {L : List (Nat × List AV)} {H : List (List AV)} {K : St → Prop} {dd id : Nat} {acc : List AV} (h : callK P cfg id acc dd K ⟨e, L, H⟩) : argK P cfg id [] acc dd K ⟨e, L, H⟩ := ⟨[], rfl, by simpa using h⟩
theorem a_cons {P : Program} {cfg : Cfg} {e : List (Nat × EV)} {L : List (Nat × List AV)} {H : List (List AV)} {K : St → Prop} {dd id : Nat} {acc : List AV} {x : Operand} {xs : List Operand} {v : AV} (hv : St.ev ⟨e, L, H⟩ x = .val v) (h : argK P cfg id xs (acc ++ [v]) dd K ⟨e, L, H⟩) :
    argK P cfg id (x :: xs) acc dd K ⟨e, L, H⟩ := by
  obtain ⟨vs, ha, hc⟩ := h
  exact ⟨v :: vs, ae_cons hv ha, by simpa using hc⟩
theorem c_call {P : Program} {cfg : Cfg} {e : List (Nat × EV)} {L : List (Nat × List AV)} {H H' : List (List AV)} {K : St → Prop} {dd id : Nat} {vs : List AV} {r : AV}
    (hs : CSpec P id vs H r H') (ho : OldOk cfg.n0 H H') (h : K ⟨(dd, .val r) :: e, L, H'⟩) : callK P cfg id vs dd K ⟨e, L, H⟩ := ⟨r, H', hs, ho, h⟩
end Go.Sx
