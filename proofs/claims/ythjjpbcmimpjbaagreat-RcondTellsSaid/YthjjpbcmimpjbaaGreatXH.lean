/- A part of the proofs of this seat: XH. No condition is set. -/
import Derived.Test.YthjjpbcmimpjbaaGreatXG
set_option linter.unusedVariables false
set_option linter.unusedSimpArgs false
namespace Go.Sx
/-- what is asked of an operation of a drawn region, and what follows -/
def ckK (f : DFl) (nY : NY) (o : Oper) (st : St) (K : St → Prop) (s : St) : Prop := ckX f nY o st s ∧ K s

section
variable {P : Program} {cfg : Cfg} {e e' : List (Nat × EV)} {L : List (Nat × List AV)} {H : List (List AV)} {Q : XE → St → Prop} {K : St → Prop}
variable {kn : Option (Nat × Bool)} {ops : Array Oper} {nY : NY} {d : Option Tmp} {o : Op} {ty : TypeId} {pos : String} {aft : Array Edge} {rest : List (Nat × DFl)} {i j : Nat} {f : DFl} {b want : Bool} {gd : Option (Nat × Bool)} {dd : Nat}

theorem b_draw {id : Nat} {l : List Oper} (nY ch : List Nat) (fl : List (Nat × DFl)) (hc : chkR cfg.esc cfg.fz [] l.toArray ch fl = true) (h : exD P cfg l.toArray ⟨nY, fun _ => false, []⟩ none fl (Q .normal) ⟨e, L, H⟩) (hb : boxFree cfg.esc e l = true := by kernel_rfl) : Ex P cfg (drawX P cfg) (.region id l.toArray true) Q ⟨e, L, H⟩ := by
  simp only [Ex, if_true]; exact ⟨⟨nY, fun _ => false, []⟩, ch, fl, hc, rfl, hb, h⟩
theorem b_drawW {id : Nat} {l : List Oper} (nY : NY) (ch : List Nat) (fl : List (Nat × DFl)) (hc : chkR cfg.esc cfg.fz nY.kw l.toArray ch fl = true) (h : exD P cfg l.toArray nY none fl (Q .normal) ⟨e, L, H⟩) (hb : boxFree cfg.esc e l = true := by kernel_rfl) (hk : nY.kw.all (fun p => nY.ks.contains p.1) = true := by kernel_rfl) : Ex P cfg (drawX P cfg) (.region id l.toArray true) Q ⟨e, L, H⟩ := by
  simp only [Ex, if_true]; exact ⟨nY, ch, fl, hc, hk, hb, h⟩
theorem d_nil (h : K ⟨e, L, H⟩) : exD P cfg ops nY kn [] K ⟨e, L, H⟩ := h
theorem d_c0 (ho : ops[i]? = some ⟨d, o, ty, pos, aft, none⟩) (h : opX P cfg ⟨d, o, ty, pos, aft, none⟩ (ckK f nY ⟨d, o, ty, pos, aft, none⟩ ⟨e, L, H⟩ (exD P cfg ops nY none rest K)) ⟨e, L, H⟩) : exD P cfg ops nY none ((i, f) :: rest) K ⟨e, L, H⟩ := by
  unfold exD; simp only [ho]; exact h
theorem d_c1 (ho : ops[i]? = some ⟨d, o, ty, pos, aft, none⟩) (hj : (((ops[j]?).bind (·.dst)) == d) = false) (h : opX P cfg ⟨d, o, ty, pos, aft, none⟩ (ckK f nY ⟨d, o, ty, pos, aft, none⟩ ⟨e, L, H⟩ (exD P cfg ops nY (some (j, b)) rest K)) ⟨e, L, H⟩) :
    exD P cfg ops nY (some (j, b)) ((i, f) :: rest) K ⟨e, L, H⟩ := by
  unfold exD; simp only [ho, Option.any_some, hj]; exact h
/-- a guard, its slot found -/
def guardD (P : Program) (cfg : Cfg) (ops : Array Oper) (nY : NY) (f : DFl) (o : Oper) (j : Nat) (want : Bool) (t : Nat) (rest : List (Nat × DFl)) (K : St → Prop) (st : St) (v : EV) : Prop :=
  St.ev st (.tmp t) = v →
  match v.asB with
  | none => False
  | some b =>
    (b = want → opX P cfg o (ckK f nY o st (exD P cfg ops nY (some (j, want)) rest K)) ⟨upd t (.val (.bool want)) st.env, st.L, st.H⟩) ∧
    (b = !want → exD P cfg ops nY (some (j, !want)) rest K (St.put ⟨upd t (.val (.bool (!want))) st.env, st.L, st.H⟩ o.dst (.val (.tup []))))
theorem ckX_upd {o : Oper} {t : Nat} {b : Bool} {s : St} (h : St.ev ⟨e, L, H⟩ (.tmp t) = .val (.bool b)) : ckX f nY o ⟨upd t (.val (.bool b)) e, L, H⟩ s = ckX f nY o ⟨e, L, H⟩ s := by
  rw [upd_same (ev_lk h)]
theorem d_gT {t : Nat} (ho : ops[i]? = some ⟨d, o, ty, pos, aft, some (j, want)⟩) (ht : (ops[j]?).bind (·.dst) = some t) (hd : (d == some t) = false)
    (h : opX P cfg ⟨d, o, ty, pos, aft, some (j, want)⟩ (ckK f nY ⟨d, o, ty, pos, aft, some (j, want)⟩ ⟨e, L, H⟩ (exD P cfg ops nY (some (j, want)) rest K)) ⟨e, L, H⟩) :
    exD P cfg ops nY (some (j, want)) ((i, f) :: rest) K ⟨e, L, H⟩ := by
  have hd' : d ≠ some t := by simpa using hd
  unfold exD; simp only [ho, ht, hd', if_false, if_true]; exact h
theorem d_gF {t : Nat} (ho : ops[i]? = some ⟨some dd, o, ty, pos, aft, some (j, want)⟩) (ht : (ops[j]?).bind (·.dst) = some t) (hd : (dd == t) = false) (hb : b = !want) (h : exD P cfg ops nY (some (j, b)) rest K ⟨(dd, .val (.tup [])) :: e, L, H⟩) :
    exD P cfg ops nY (some (j, b)) ((i, f) :: rest) K ⟨e, L, H⟩ := by
  have hd' : dd ≠ t := by simpa using hd
  subst hb
  unfold exD
  have h2 : ¬ (!want) = want := by cases want <;> simp
  simp only [ho, ht, Option.some.injEq, Prod.mk.injEq, hd', h2, and_false, if_false, if_true]; exact h
theorem guard_D {t : Nat} {v : EV} (ho : ops[i]? = some ⟨d, o, ty, pos, aft, some (j, want)⟩) (ht : (ops[j]?).bind (·.dst) = some t) (hd : (d == some t) = false) (hk : kn ≠ some (j, want) ∧ kn ≠ some (j, !want)) (hv : St.ev ⟨e, L, H⟩ (.tmp t) = v)
    (h : guardD P cfg ops nY f ⟨d, o, ty, pos, aft, some (j, want)⟩ j want t rest K ⟨e, L, H⟩ v) : exD P cfg ops nY kn ((i, f) :: rest) K ⟨e, L, H⟩ := by
  have hd' : d ≠ some t := by simpa using hd
  subst hv
  have h' := h rfl
  unfold exD
  simp only [ho, ht, hd', hk.1, hk.2, if_false]
  cases hb : (St.ev ⟨e, L, H⟩ (.tmp t)).asB with
  | none => rw [hb] at h'; exact h'.elim
  | some b => rw [hb] at h'; exact h'
theorem d_gU {t : Nat} (ho : ops[i]? = some ⟨some dd, o, ty, pos, aft, some (j, want)⟩) (ht : (ops[j]?).bind (·.dst) = some t) (hd : (dd == t) = false) (hk : kn ≠ some (j, want) ∧ kn ≠ some (j, !want)) (hv : St.ev ⟨e, L, H⟩ (.tmp t) = .val (.tup [])) (hn : kn.any (fun p => ((ops[p.1]?).bind (·.dst)) == some dd) = false)
    (h : exD P cfg ops nY kn rest K ⟨(dd, .val (.tup [])) :: e, L, H⟩) : exD P cfg ops nY kn ((i, f) :: rest) K ⟨e, L, H⟩ := by
  have hd' : dd ≠ t := by simpa using hd
  unfold exD
  simp only [ho, ht, Option.some.injEq, hd', if_false, hk.1, hk.2, hv, EV.asB, EV.isU, if_true, hn, Bool.false_eq_true]
  exact h
theorem d_g0 {t : Nat} {v : EV} (ho : ops[i]? = some ⟨d, o, ty, pos, aft, some (j, want)⟩) (ht : (ops[j]?).bind (·.dst) = some t) (hd : (d == some t) = false) (hv : St.ev ⟨e, L, H⟩ (.tmp t) = v)
    (h : guardD P cfg ops nY f ⟨d, o, ty, pos, aft, some (j, want)⟩ j want t rest K ⟨e, L, H⟩ v) : exD P cfg ops nY none ((i, f) :: rest) K ⟨e, L, H⟩ := guard_D ho ht hd ⟨by simp, by simp⟩ hv h
theorem d_g1 {t j' : Nat} {b' : Bool} {v : EV} (ho : ops[i]? = some ⟨d, o, ty, pos, aft, some (j, want)⟩) (ht : (ops[j]?).bind (·.dst) = some t) (hd : (d == some t) = false) (hj : (j' == j) = false) (hv : St.ev ⟨e, L, H⟩ (.tmp t) = v)
    (h : guardD P cfg ops nY f ⟨d, o, ty, pos, aft, some (j, want)⟩ j want t rest K ⟨e, L, H⟩ v) : exD P cfg ops nY (some (j', b')) ((i, f) :: rest) K ⟨e, L, H⟩ := by
  have hj' : j' ≠ j := by simpa using hj
  exact guard_D ho ht hd ⟨by simp [hj'], by simp [hj']⟩ hv h
theorem dg_TT {t : Nat} (h : opX P cfg ⟨d, o, ty, pos, aft, gd⟩ (ckK f nY ⟨d, o, ty, pos, aft, gd⟩ ⟨e, L, H⟩ (exD P cfg ops nY (some (j, true)) rest K)) ⟨e, L, H⟩) : guardD P cfg ops nY f ⟨d, o, ty, pos, aft, gd⟩ j true t rest K ⟨e, L, H⟩ (.val (.bool true)) :=
  fun hv => ⟨fun _ => by dsimp only; rw [upd_same (ev_lk hv)]; exact h, (fun h => Bool.noConfusion h)⟩
theorem dg_FF {t : Nat} (h : opX P cfg ⟨d, o, ty, pos, aft, gd⟩ (ckK f nY ⟨d, o, ty, pos, aft, gd⟩ ⟨e, L, H⟩ (exD P cfg ops nY (some (j, false)) rest K)) ⟨e, L, H⟩) : guardD P cfg ops nY f ⟨d, o, ty, pos, aft, gd⟩ j false t rest K ⟨e, L, H⟩ (.val (.bool false)) :=
  fun hv => ⟨fun _ => by dsimp only; rw [upd_same (ev_lk hv)]; exact h, (fun h => Bool.noConfusion h)⟩
theorem dg_TF {t : Nat} (h : exD P cfg ops nY (some (j, true)) rest K ⟨(dd, .val (.tup [])) :: e, L, H⟩) : guardD P cfg ops nY f ⟨some dd, o, ty, pos, aft, gd⟩ j false t rest K ⟨e, L, H⟩ (.val (.bool true)) :=
  fun hv => ⟨(fun h => Bool.noConfusion h), fun _ => by simp only [Bool.not_false]; rw [upd_same (ev_lk hv)]; exact h⟩
theorem dg_FT {t : Nat} (h : exD P cfg ops nY (some (j, false)) rest K ⟨(dd, .val (.tup [])) :: e, L, H⟩) : guardD P cfg ops nY f ⟨some dd, o, ty, pos, aft, gd⟩ j true t rest K ⟨e, L, H⟩ (.val (.bool false)) :=
  fun hv => ⟨(fun h => Bool.noConfusion h), fun _ => by simp only [Bool.not_true]; rw [upd_same (ev_lk hv)]; exact h⟩
theorem dg_PT {t : Nat} {p : Prop} [Decidable p] (h1 : p → opX P cfg ⟨some dd, o, ty, pos, aft, gd⟩ (ckK f nY ⟨some dd, o, ty, pos, aft, gd⟩ ⟨e, L, H⟩ (exD P cfg ops nY (some (j, true)) rest K)) ⟨upd t (.val (.bool true)) e, L, H⟩)
    (h2 : ¬ p → exD P cfg ops nY (some (j, false)) rest K ⟨(dd, .val (.tup [])) :: upd t (.val (.bool false)) e, L, H⟩) :
    guardD P cfg ops nY f ⟨some dd, o, ty, pos, aft, gd⟩ j true t rest K ⟨e, L, H⟩ (.val (.bool (decide p))) :=
  fun _ => ⟨fun h => h1 (of_decide_eq_true h), fun h => h2 (of_decide_eq_false h)⟩
theorem dg_PF {t : Nat} {p : Prop} [Decidable p] (h1 : ¬ p → opX P cfg ⟨some dd, o, ty, pos, aft, gd⟩ (ckK f nY ⟨some dd, o, ty, pos, aft, gd⟩ ⟨e, L, H⟩ (exD P cfg ops nY (some (j, false)) rest K)) ⟨upd t (.val (.bool false)) e, L, H⟩)
    (h2 : p → exD P cfg ops nY (some (j, true)) rest K ⟨(dd, .val (.tup [])) :: upd t (.val (.bool true)) e, L, H⟩) :
    guardD P cfg ops nY f ⟨some dd, o, ty, pos, aft, gd⟩ j false t rest K ⟨e, L, H⟩ (.val (.bool (decide p))) :=
  fun _ => ⟨fun h => h1 (of_decide_eq_false h), fun h => h2 (of_decide_eq_true h)⟩
theorem dg_BT {t : Nat} {b : Bool} (h1 : b = true → opX P cfg ⟨some dd, o, ty, pos, aft, gd⟩ (ckK f nY ⟨some dd, o, ty, pos, aft, gd⟩ ⟨e, L, H⟩ (exD P cfg ops nY (some (j, true)) rest K)) ⟨upd t (.val (.bool true)) e, L, H⟩)
    (h2 : b = false → exD P cfg ops nY (some (j, false)) rest K ⟨(dd, .val (.tup [])) :: upd t (.val (.bool false)) e, L, H⟩) :
    guardD P cfg ops nY f ⟨some dd, o, ty, pos, aft, gd⟩ j true t rest K ⟨e, L, H⟩ (.val (.bool b)) := fun _ => ⟨h1, h2⟩
theorem dg_BF {t : Nat} {b : Bool} (h1 : b = false → opX P cfg ⟨some dd, o, ty, pos, aft, gd⟩ (ckK f nY ⟨some dd, o, ty, pos, aft, gd⟩ ⟨e, L, H⟩ (exD P cfg ops nY (some (j, false)) rest K)) ⟨upd t (.val (.bool false)) e, L, H⟩)
    (h2 : b = true → exD P cfg ops nY (some (j, true)) rest K ⟨(dd, .val (.tup [])) :: upd t (.val (.bool true)) e, L, H⟩) :
    guardD P cfg ops nY f ⟨some dd, o, ty, pos, aft, gd⟩ j false t rest K ⟨e, L, H⟩ (.val (.bool b)) := fun _ => ⟨h1, h2⟩

/-! what is asked -/
theorem k_lt {o : Oper} {st s : St} (h : K s) : ckK .lt nY o st K s := ⟨trivial, h⟩
/-- of a light load: where it reads -/
def ldOk (nY : NY) (hl : Bool) : EV → Bool
  | .loc k _ => !nY.ks.contains k
  | .val (.eptr (.slm id _ _ _ _) _) => hl || nY.W id
  | _ => true
theorem k_ld {hl : Bool} {t : TypeId} {x : Operand} {st s : St} {v : EV} (hv : St.ev st x = v) (hk : ldOk nY hl v = true) (h : K s) : ckK (.ld hl) nY ⟨d, .load t x, ty, pos, aft, gd⟩ st K s := by
  refine ⟨?_, h⟩
  subst hv
  simp only [ckX]
  unfold ldOk at hk
  split at hk <;> split <;> first
    | trivial
    | simp_all; done
    | (rename_i hne _ _ _ _ _ _ _ he; exact absurd rfl (hne _ _ _ _ _ _ |> fun h => by simp_all))
    | (exfalso; simp_all; rename_i hne; exact hne _ _ _ _ _ _ rfl rfl rfl rfl rfl rfl)
    | (exfalso; simp_all; rename_i hne _; exact hne _ _ _ _ _ _ rfl rfl rfl rfl rfl rfl)
theorem k_bin {hl : Bool} {op : BinOp} {t t' : TypeId} {x y : Operand} {st s : St} {v : EV} (hv : St.ev st x = v) (hk : (hl || !isEp v) = true) (h : K s) : ckK (.ld hl) nY ⟨d, .binOp op t x y t', ty, pos, aft, gd⟩ st K s := by
  refine ⟨?_, h⟩
  subst hv
  have : isEp (st.ev x) = true → hl = true := by intro h'; rw [h'] at hk; simpa using hk
  cases op <;> simp only [ckX] <;> first | trivial | exact this
theorem k_mn {q : Bool} {o : Oper} (h : K ⟨e', L, H⟩) : ckK (.mn q) nY o ⟨e, L, H⟩ K ⟨e', L, H⟩ := ⟨⟨fun _ _ => rfl, fun _ _ _ => rfl⟩, h⟩
theorem k_mnA {q : Bool} {o : Oper} {N : List (List AV)} (h : K ⟨e', L, H ++ N⟩) : ckK (.mn q) nY o ⟨e, L, H⟩ K ⟨e', L, H ++ N⟩ := ⟨⟨fun _ _ => rfl, fun id _ hid => List.getElem?_append_left hid⟩, h⟩
theorem k_mnF {o : Oper} {H' : List (List AV)} (h : K ⟨e', L, H'⟩) (hW : ∀ id, nY.W id = false := by intro _; rfl) : ckK (.mn false) nY o ⟨e, L, H⟩ K ⟨e', L, H'⟩ := ⟨⟨fun _ _ => rfl, fun id h => by rw [hW id] at h; simp at h⟩, h⟩
theorem k_mnL {q : Bool} {o : Oper} {k : Nat} {cs : List AV} (hk : nY.ks.contains k = true) (h : K ⟨e', (k, cs) :: L, H⟩) (hw : lk nY.kw k = none := by rfl) : ckK (.mn q) nY o ⟨e, L, H⟩ K ⟨e', (k, cs) :: L, H⟩ := by
  refine ⟨⟨fun k' hk' => ?_, fun _ _ _ => rfl⟩, h⟩
  have : k ≠ k' := fun hh => by
    subst hh
    rcases hk' with h' | h'
    · exact h' (by simpa using hk)
    · rw [hw] at h'; cases h'
  simp only [lk, this, if_false]
theorem k_ms {o : Oper} {k : Nat} {cs : List AV} (h : K ⟨e', (k, cs) :: L, H⟩) : ckK (.ms k) nY o ⟨e, L, H⟩ K ⟨e', (k, cs) :: L, H⟩ := by
  refine ⟨⟨fun k' hk' _ => ?_, rfl⟩, h⟩
  have : k ≠ k' := fun hh => hk' hh.symm
  simp only [lk, this, if_false]
theorem k_lb {t : TypeId} {x : Operand} {k off : Nat} {st s : St} (hv : St.ev st x = .loc k off) (h : K s) : ckK (.lb k) nY ⟨d, .load t x, ty, pos, aft, gd⟩ st K s := by
  refine ⟨?_, h⟩
  simp only [ckX, hv]
theorem k_fz {o : Oper} {st s : St} (h : K s) : ckK .fz nY o st K s := ⟨trivial, h⟩
theorem k_bx {o : Oper} {dd : Nat} {st s : St} (hd : o.dst = some dd) (hk : nY.ks.contains dd = true) (h : K s) (hw : lk nY.kw dd = none := by rfl) : ckK .bx nY o st K s := by
  refine ⟨fun d hh => ?_, h⟩
  rw [hd] at hh; simp only [Option.some.injEq] at hh; subst hh
  exact ⟨by simpa using hk, hw⟩

/-! more operations -/
theorem b_ext {x : Operand} {n : Nat} {vs : List AV} {v : AV} (hx : St.ev ⟨e, L, H⟩ x = .val (.tup vs)) (hv : vs[n]? = some v) (h : K ⟨(dd, .val v) :: e, L, H⟩) : opX P cfg ⟨some dd, .extract x n, ty, pos, aft, gd⟩ K ⟨e, L, H⟩ := by
  rw [op_pure P cfg e L H K _ _ _ _ _ _ rfl]
  simp only [pureV, hx, hv, Option.map_some]
  exact ⟨trivial, h⟩
/-- a store to a box -/
theorem b_stL {t : TypeId} {x v : Operand} {key off n : Nat} {a : Bool} {cs vs cs' : List AV} [ti : TyI P t n a] {ev : EV} (hx : St.ev ⟨e, L, H⟩ x = .loc key off) (hv : St.ev ⟨e, L, H⟩ v = ev) (hvs : ev.asV.bind AV.cells = some vs) (hn : vs.length = n) (hc : lk L key = some cs)
    (hle : off + vs.length ≤ cs.length) (hcs : sc cs off vs = cs') (h : K ⟨e, (key, cs') :: L, H⟩) : opX P cfg ⟨none, .store t x v, ty, pos, aft, gd⟩ K ⟨e, L, H⟩ := by
  subst hv hcs
  simp only [opX, opE, hvs, ti.sz, hn, hx, storeX, hc]
  exact ⟨trivial, trivial, by rw [← hn]; exact hle, h⟩
/-- a store to a block -/
theorem b_stH {t : TypeId} {x v : Operand} {id gen o' len sz off n : Nat} {a : Bool} {cs vs cs' : List AV} [ti : TyI P t n a] {ev : EV} (hx : St.ev ⟨e, L, H⟩ x = .val (.eptr (.slm id gen o' len sz) off)) (hv : St.ev ⟨e, L, H⟩ v = ev) (hvs : ev.asV.bind AV.cells = some vs) (hn : vs.length = n) (hc : H[id]? = some cs)
    (hg : cs.length = gen) (hle : o' + off + vs.length ≤ cs.length) (hm : cfg.n0 ≤ id ∨ mxL vs ≤ cfg.n0) (hcs : sc cs (o' + off) vs = cs') (h : K ⟨e, L, H.set id cs'⟩) : opX P cfg ⟨none, .store t x v, ty, pos, aft, gd⟩ K ⟨e, L, H⟩ := by
  subst hv hcs
  simp only [opX, opE, hvs, ti.sz, hn, hx, storeX, hc]
  exact ⟨trivial, trivial, hg, by rw [← hn]; exact hle, hm, h⟩
/-- a quotient of what is not below 0 -/
theorem v_q {x y : Int} (hx : 0 ≤ x ∧ x ≤ 9223372036854775807) (hy : 1 ≤ y) (h : K ⟨(dd, .val (.int .i64 (x / y))) :: e, L, H⟩) : valK dd K ⟨e, L, H⟩ (some (True, .int .i64 (IntKind.i64.wrap (x.tdiv y)))) := by
  have h1 : x.tdiv y = x / y := Int.tdiv_eq_ediv_of_nonneg hx.1
  have h2 : 0 ≤ x / y := Int.ediv_nonneg hx.1 (by omega)
  have h3 : x / y ≤ x := Int.ediv_le_self _ hx.1
  rw [h1]
  exact v_w (by omega) h
theorem b_lenA {x : Operand} {t : TypeId} {el z : Nat} [si : SlI P t el z] {s : AV} {n : Nat} (hx : St.ev ⟨e, L, H⟩ x = .val s) (hs : slen s = some n) (h : K ⟨(dd, .val (.int .i64 n)) :: e, L, H⟩) :
    opX P cfg ⟨some dd, .call { callee := .builtin .len, args := #[x], argTypes := #[t] }, ty, pos, aft, gd⟩ K ⟨e, L, H⟩ := b_len (t := t) rfl hx hs h
theorem ae_nil {ρ : Operand → EV} : argsX ρ [] = some [] := rfl
theorem ae_cons {ρ : Operand → EV} {x : Operand} {xs : List Operand} {v : AV} {vs : List AV} (h : ρ x = .val v) (hr : argsX ρ xs = some vs) : argsX ρ (x :: xs) = some (v :: vs) := by
  unfold argsX at hr ⊢
  have h' : (ρ x).asV = some v := by rw [h]; rfl
  simp only [List.map_cons, List.mapM_cons, h', id_eq, hr]; rfl
theorem b_callA {id : Nat} {args : Array Operand} {ts : Array TypeId} {vs : List AV} (ha : argsX (St.ev ⟨e, L, H⟩) args.toList = some vs) {r : AV} {H' : List (List AV)}
    (hs : CSpec P id vs H r H') (ho : OldOk cfg.n0 H H') (h : K ⟨(dd, .val r) :: e, L, H'⟩) :
    opX P cfg ⟨some dd, .call { callee := .value (.func id), args := args, argTypes := ts }, ty, pos, aft, gd⟩ K ⟨e, L, H⟩ := b_call ha rfl hs ho h
theorem v_eT {x y : Int} (hp : x = y) (h : K ⟨(dd, .val (.bool true)) :: e, L, H⟩) : valK dd K ⟨e, L, H⟩ (some (True, .bool (x == y))) := by
  have : (x == y) = true := by simpa using hp
  rw [this]; exact ⟨trivial, h⟩
theorem v_eF {x y : Int} (hp : x ≠ y) (h : K ⟨(dd, .val (.bool false)) :: e, L, H⟩) : valK dd K ⟨e, L, H⟩ (some (True, .bool (x == y))) := by
  have : (x == y) = false := by simpa using hp
  rw [this]; exact ⟨trivial, h⟩
theorem v_eP {x y : Int} (h : K ⟨(dd, .val (.bool (decide (x = y)))) :: e, L, H⟩) : valK dd K ⟨e, L, H⟩ (some (True, .bool (x == y))) := ⟨trivial, h⟩
theorem v_neT {x y : Int} (hp : x ≠ y) (h : K ⟨(dd, .val (.bool true)) :: e, L, H⟩) : valK dd K ⟨e, L, H⟩ (some (True, .bool (x != y))) := by
  have : (x != y) = true := by simpa using hp
  rw [this]; exact ⟨trivial, h⟩
theorem v_neF {x y : Int} (hp : x = y) (h : K ⟨(dd, .val (.bool false)) :: e, L, H⟩) : valK dd K ⟨e, L, H⟩ (some (True, .bool (x != y))) := by
  have : (x != y) = false := by simpa using hp
  rw [this]; exact ⟨trivial, h⟩
theorem v_neP {x y : Int} (h : K ⟨(dd, .val (.bool (decide (x ≠ y)))) :: e, L, H⟩) : valK dd K ⟨e, L, H⟩ (some (True, .bool (x != y))) := by
  have : (x != y) = decide (x ≠ y) := by simp only [bne, ne_eq, decide_not]; rfl
  rw [this]; exact ⟨trivial, h⟩
theorem rtF {p : Prop} [Decidable p] (h : ¬ p) : aOf (.bool false) = .bool (decide p) := by rw [decide_eq_false h]; rfl
theorem rtT {p : Prop} [Decidable p] (h : p) : aOf (.bool true) = .bool (decide p) := by rw [decide_eq_true h]; rfl
theorem rvF {p : Prop} [Decidable p] (h : ¬ p) : AV.bool false = .bool (decide p) := by rw [decide_eq_false h]
theorem rvT {p : Prop} [Decidable p] (h : p) : AV.bool true = .bool (decide p) := by rw [decide_eq_true h]
theorem rvP {p q : Prop} [Decidable p] [Decidable q] (h : q ↔ p) : AV.bool (decide q) = .bool (decide p) := by rw [decide_eq_decide.2 h]
/-- the end of three results -/
theorem b_ret3 {fn : Func} {H₀ H' : List (List AV)} {r v1 v2 v3 : AV} {t1 t2 t3 : Nat} {x : XE} (hx : x = .ret ∨ x = .normal) (hf : fn.results = #[.tmp t1, .tmp t2, .tmp t3]) (h1 : St.ev ⟨e, L, H⟩ (.tmp t1) = .val v1) (h2 : St.ev ⟨e, L, H⟩ (.tmp t2) = .val v2)
    (h3 : St.ev ⟨e, L, H⟩ (.tmp t3) = .val v3) (hH : H = H') (hH0 : H' = H₀) (hm : mx (.tup [v1, v2, v3]) ≤ H₀.length) (hr : .tup [v1, v2, v3] = r) : RetQ P fn H₀ r H' x ⟨e, L, H⟩ := by
  subst hH hH0 hr
  refine ⟨by rcases hx with rfl | rfl <;> trivial, [v1, v2, v3], [], ?_, List.nodup_nil, by simp, by simp [frH], Fr.old hm⟩
  have k1 : resV P ⟨e, L, H⟩ (.tmp t1) = some v1 := by simp [resV, h1, EV.asV]
  have k2 : resV P ⟨e, L, H⟩ (.tmp t2) = some v2 := by simp [resV, h2, EV.asV]
  have k3 : resV P ⟨e, L, H⟩ (.tmp t3) = some v3 := by simp [resV, h3, EV.asV]
  simp only [hf, List.map_cons, List.map_nil, k1, k2, k3]; rfl
/-- the end of several results -/
theorem b_retN {fn : Func} {H₀ H' : List (List AV)} {r : AV} {x : XE} {vs : List AV} (hx : x = .ret ∨ x = .normal) (hf : (fn.results.toList.map (resV P ⟨e, L, H⟩)).mapM id = some vs) (hH : H = H') (hH0 : H' = H₀) (hm : mx (resOne vs) ≤ H₀.length) (hr : resOne vs = r) :
    RetQ P fn H₀ r H' x ⟨e, L, H⟩ := by
  subst hH hH0 hr
  exact ⟨by rcases hx with rfl | rfl <;> trivial, vs, [], hf, List.nodup_nil, by simp, by simp [frH], Fr.old hm⟩
end
theorem b_ia0 {P : Program} {cfg : Cfg} {e : List (Nat × EV)} {L : List (Nat × List AV)} {H : List (List AV)} {K : St → Prop} {dd : Nat} {ty : TypeId} {pos : String} {aft : Array Edge} {gd : Option (Nat × Bool)} {t el : TypeId} {x : Operand} {z : Nat} [si : SlI P t el z] {s : AV} {len : Nat} (hx : St.ev ⟨e, L, H⟩ x = .val s) (hl : slen s = some len) (hi : 0 < len)
    (h : K ⟨(dd, .val (.eptr s 0)) :: e, L, H⟩) : opX P cfg ⟨some dd, .indexAddr t x (.const (.int .i64 0)), ty, pos, aft, gd⟩ K ⟨e, L, H⟩ :=
  b_ia hx rfl hl (i := 0) rfl hi (by simpa using h)
def callK (P : Program) (cfg : Cfg) (id : Nat) (vs : List AV) (dd : Nat) (K : St → Prop) (st : St) : Prop := ∃ r H', CSpec P id vs st.H r H' ∧ OldOk cfg.n0 st.H H' ∧ K ⟨(dd, .val r) :: st.env, st.L, H'⟩
def argK (P : Program) (cfg : Cfg) (id : Nat) (xs : List Operand) (acc : List AV) (dd : Nat) (K : St → Prop) (st : St) : Prop := ∃ vs, argsX st.ev xs = some vs ∧ callK P cfg id (acc ++ vs) dd K st
theorem b_callB {P : Program} {cfg : Cfg} {e : List (Nat × EV)} {L : List (Nat × List AV)} {H : List (List AV)} {K : St → Prop} {dd : Nat} {ty : TypeId} {pos : String} {aft : Array Edge} {gd : Option (Nat × Bool)} {id : Nat} {args : Array Operand} {ts : Array TypeId}
    (h : argK P cfg id args.toList [] dd K ⟨e, L, H⟩) : opX P cfg ⟨some dd, .call { callee := .value (.func id), args := args, argTypes := ts }, ty, pos, aft, gd⟩ K ⟨e, L, H⟩ := by
  obtain ⟨vs, ha, r, H', h1, h2, h3⟩ := h
  exact b_callA ha (by simpa using h1) h2 h3
theorem a_nil {P : Program} {cfg : Cfg} {e : List (Nat × EV)} {L : List (Nat × List AV)} {H : List (List AV)} {K : St → Prop} {dd id : Nat} {acc : List AV} (h : callK P cfg id acc dd K ⟨e, L, H⟩) : argK P cfg id [] acc dd K ⟨e, L, H⟩ := ⟨[], rfl, by simpa using h⟩
theorem a_cons {P : Program} {cfg : Cfg} {e : List (Nat × EV)} {L : List (Nat × List AV)} {H : List (List AV)} {K : St → Prop} {dd id : Nat} {acc : List AV} {x : Operand} {xs : List Operand} {v : AV} (hv : St.ev ⟨e, L, H⟩ x = .val v) (h : argK P cfg id xs (acc ++ [v]) dd K ⟨e, L, H⟩) :
    argK P cfg id (x :: xs) acc dd K ⟨e, L, H⟩ := by
  obtain ⟨vs, ha, hc⟩ := h
  exact ⟨v :: vs, ae_cons hv ha, by simpa using hc⟩
theorem c_call {P : Program} {cfg : Cfg} {e : List (Nat × EV)} {L : List (Nat × List AV)} {H H' : List (List AV)} {K : St → Prop} {dd id : Nat} {vs : List AV} {r : AV}
    (hs : CSpec P id vs H r H') (ho : OldOk cfg.n0 H H') (h : K ⟨(dd, .val r) :: e, L, H'⟩) : callK P cfg id vs dd K ⟨e, L, H⟩ := ⟨r, H', hs, ho, h⟩
end Go.Sx

set_option linter.unusedVariables false
set_option linter.unusedSimpArgs false
namespace Go.Sx

/-! ### loops -/
def lpX (K : St → Prop) (Q : XE → St → Prop) : XE → St → Prop := fun e s => match e with | .normal => K s | e => Q e s
/-- what the loop keeps of a state -/
def prK (ks : List Nat) (K : St → Prop) (st : St) : Prop := K (prune ks st)
section
variable {P : Program} {cfg : Cfg} {dr : Array Oper → (St → Prop) → St → Prop} {e : List (Nat × EV)} {L : List (Nat × List AV)} {H : List (List AV)} {Q : XE → St → Prop} {K : St → Prop}
/-- A LOOP OF N ROUNDS: the state at the head of round k is S k; round N does not come back -/
theorem b_loop (ks : List Nat) (N : Nat) (S : Nat → St) {c : Code} (h0 : prune ks ⟨e, L, H⟩ = S 0)
    (hs : ∀ k, k < N → ∀ K : St → Prop, K (S (k + 1)) → Ex P cfg dr c (lpX (prK ks K) Q) (S k))
    (hx : ∀ K : St → Prop, Ex P cfg dr c (lpX (prK ks K) Q) (S N)) : Ex P cfg dr (.loop c) Q ⟨e, L, H⟩ := by
  show ∃ ks n, roundsX (Ex P cfg dr c) ks Q n (prune ks ⟨e, L, H⟩)
  refine ⟨ks, N + 1, ?_⟩
  rw [h0]
  have key : ∀ m k, k + m = N → roundsX (Ex P cfg dr c) ks Q (m + 1) (S k) := by
    intro m
    induction m with
    | zero => intro k hk; rw [Nat.add_zero] at hk; subst hk; exact hx (roundsX (Ex P cfg dr c) ks Q 0)
    | succ m ih => intro k hk; exact hs k (by omega) (roundsX (Ex P cfg dr c) ks Q (m + 1)) (ih (k + 1) (by omega))
  exact key N 0 (by omega)
theorem lp_n (h : K ⟨e, L, H⟩) : lpX K Q .normal ⟨e, L, H⟩ := h
theorem lp_r (h : Q .ret ⟨e, L, H⟩) : lpX K Q .ret ⟨e, L, H⟩ := h
theorem lp_e {i : Nat} (h : Q (.exit i) ⟨e, L, H⟩) : lpX K Q (.exit i) ⟨e, L, H⟩ := h
theorem pr_k {ks : List Nat} {s : St} (hp : prune ks ⟨e, L, H⟩ = s) (h : K s) : prK ks K ⟨e, L, H⟩ := by subst hp; exact h
end
end Go.Sx

set_option linter.unusedVariables false
set_option linter.unusedSimpArgs false
namespace Go.Sx

class UI (P : Program) (t : TypeId) (d : outParam TypeDesc) : Prop where
  h : P.underlying t = some d

/-! ### lists of floats, of whole numbers -/
def fl (l : List Nat) : List AV := l.map .flt
def il (l : List Int) : List AV := l.map (.int .i64)
@[simp] theorem fl_len (l : List Nat) : (fl l).length = l.length := by simp [fl]
@[simp] theorem il_len (l : List Int) : (il l).length = l.length := by simp [il]
theorem fl_get {l : List Nat} {k : Nat} (h : k < l.length) : (fl l)[k]? = some (.flt (l.getD k 0)) := by simp [fl, h]
theorem il_get {l : List Int} {k : Nat} (h : k < l.length) : (il l)[k]? = some (.int .i64 (l.getD k 0)) := by simp [il, h]
theorem fl_app (l m : List Nat) : fl l ++ fl m = fl (l ++ m) := by simp [fl]
theorem il_app (l m : List Int) : il l ++ il m = il (l ++ m) := by simp [il]
theorem fl_set (l : List Nat) (k x : Nat) : (fl l).set k (.flt x) = fl (l.set k x) := by simp [fl, List.map_set]
theorem il_set (l : List Int) (k : Nat) (x : Int) : (il l).set k (.int .i64 x) = il (l.set k x) := by simp [il, List.map_set]
theorem sc_one (cs : List AV) (off : Nat) (v : AV) : sc cs off [v] = cs.set off v := rfl
theorem gc_one {cs : List AV} {k : Nat} {c : AV} (h : cs[k]? = some c) : gc cs k 1 = some [c] := by simp [gc, h]
theorem mxL_fl : ∀ (l : List Nat), mxL (fl l) = 0
  | [] => rfl
  | x :: l => by
    have := mxL_fl l
    simp only [fl, List.map_cons, mxL, mx] at this ⊢
    rw [this]; rfl
theorem mxL_il : ∀ (l : List Int), mxL (il l) = 0
  | [] => rfl
  | x :: l => by
    have := mxL_il l
    simp only [il, List.map_cons, mxL, mx] at this ⊢
    rw [this]; rfl
theorem gc_take : ∀ (cs : List AV) (o n : Nat), o + n ≤ cs.length → gc cs o n = some ((cs.drop o).take n)
  | cs, o, 0, _ => by simp [gc]
  | cs, o, n + 1, h => by
    have hlt : o < cs.length := by omega
    simp only [gc]
    rw [List.getElem?_eq_getElem hlt]
    simp only [Option.bind_some]
    rw [gc_take cs (o + 1) n (by omega)]
    simp only [Option.map_some, Option.some.injEq]
    rw [List.drop_eq_getElem_cons hlt, List.take_succ_cons]
theorem gc_all (cs : List AV) {n : Nat} (h : n = cs.length) : gc cs 0 n = some cs := by
  subst h
  rw [gc_take cs 0 _ (by omega)]
  simp

/-- a list of floats, wherever it lies -/
structure FL (H : List (List AV)) (D : AV) (l : List Nat) : Prop where
  len : slen D = some l.length
  all : D ≠ .slnil → sread H D 0 l.length = some (fl l)
  one : ∀ id g o n z, D = .slm id g o n z → z = 1
  mx : Sx.mx D ≤ H.length
theorem FL.nil (H : List (List AV)) : FL H .slnil [] := ⟨rfl, fun h => absurd rfl h, by simp, by simp [Sx.mx]⟩
theorem FL.fz (H : List (List AV)) (tag : Option (Nat × Nat)) (l : List Nat) : FL H (.sl tag l.length (fl l)) l :=
  ⟨rfl, fun _ => by simp only [sread]; exact gc_all _ (by simp), by simp, by simp only [Sx.mx, mxL_fl]; exact Nat.zero_le _⟩
theorem FL.slm {H : List (List AV)} {id off n g : Nat} {l m : List Nat} (h : H[id]? = some (fl m)) (hg : g = m.length) (hn : off + n ≤ m.length) (hl : l = (m.drop off).take n) : FL H (.slm id g off n 1) l := by
  subst hl hg
  have e : ((m.drop off).take n).length = n := by simp; omega
  refine ⟨by simp [slen, e], fun _ => ?_, by simp; omega, (List.getElem?_eq_some_iff.1 h).1⟩
  simp only [sread, h, Option.bind_some, fl_len, if_true, e, Nat.add_zero]
  rw [gc_take _ _ _ (by simpa using hn)]
  simp [fl, List.map_drop, List.map_take]
theorem FL.app {H : List (List AV)} {D : AV} {l : List Nat} (h : FL H D l) (N : List (List AV)) : FL (H ++ N) D l := by
  refine ⟨h.len, fun hD => ?_, h.one, Nat.le_trans h.mx (by simp)⟩
  have h1 := h.all hD
  cases D <;> simp only [sread] at h1 ⊢ <;> try exact h1
  rename_i id gen o len sz
  cases hi : H[id]? with
  | none => rw [hi] at h1; simp at h1
  | some cs =>
    rw [hi] at h1
    rw [List.getElem?_append_left (List.getElem?_eq_some_iff.1 hi).1, hi]; exact h1
theorem gc_sub {cs : List AV} {o n : Nat} {l : List AV} (h : gc cs o n = some l) {k : Nat} {c : AV} (hk : l[k]? = some c) : gc cs (o + k) 1 = some [c] := by
  obtain ⟨h1, h2⟩ := gc_get h
  have hlt := (List.getElem?_eq_some_iff.1 hk).1
  exact gc_one (by rw [← h2 k (by omega)]; exact hk)
theorem FL.rd {H : List (List AV)} {D : AV} {l : List Nat} (h : FL H D l) {k : Nat} (hk : k < l.length) : sread H D k 1 = some [.flt (l.getD k 0)] := by
  have hD : D ≠ .slnil := by rintro rfl; have := h.len; simp [slen] at this; omega
  have h1 := h.all hD
  cases D <;> simp only [sread, reduceCtorEq] at h1 ⊢
  · have := gc_sub h1 (fl_get hk); simpa using this
  · rename_i id gen o len sz
    cases hi : H[id]? with
    | none => rw [hi] at h1; simp at h1
    | some cs =>
      rw [hi] at h1
      simp only [Option.bind_some] at h1 ⊢
      split at h1
      · rename_i hg; rw [if_pos hg]
        have := gc_sub h1 (fl_get hk); simpa using this
      · simp at h1

/-! ### blocks, new ones behind those that were there -/
section
variable {A N : List (List AV)} {n j : Nat}
theorem hg_new (hA : A.length = n) {cs : List AV} (hj : N[j]? = some cs) : (A ++ N)[n + j]? = some cs := by
  subst hA; rw [List.getElem?_append_right (by omega)]; simpa using hj
theorem hg_old {i : Nat} {cs : List AV} (h : A[i]? = some cs) : (A ++ N)[i]? = some cs := by
  rw [List.getElem?_append_left (List.getElem?_eq_some_iff.1 h).1]; exact h
theorem hs_new (hA : A.length = n) {cs : List AV} {N' : List (List AV)} (hN : N.set j cs = N') : (A ++ N).set (n + j) cs = A ++ N' := by
  subst hA hN; rw [List.set_append_right _ _ (by omega)]; simp
theorem hs_old {i : Nat} {cs : List AV} (h : i < A.length) : (A ++ N).set i cs = A.set i cs ++ N := by rw [List.set_append_left _ _ h]
end

section
variable {P : Program} {cfg : Cfg} {dr : Array Oper → (St → Prop) → St → Prop} {e : List (Nat × EV)} {L : List (Nat × List AV)} {H : List (List AV)} {Q : XE → St → Prop} {K : St → Prop}
variable {kn : Option (Nat × Bool)} {ops : Array Oper} {d : Option Tmp} {o : Op} {ty : TypeId} {pos : String} {aft : Array Edge} {rest : List Oper} {j : Nat} {b want : Bool} {gd : Option (Nat × Bool)} {dd : Nat}

/-! ### values told one by one -/
def gK (xs : List Operand) (acc : List AV) (k : List AV → Prop) (st : St) : Prop := ∃ vs, argsX st.ev xs = some vs ∧ k (acc ++ vs)
theorem gk_nil {acc : List AV} {k : List AV → Prop} (h : k acc) : gK [] acc k ⟨e, L, H⟩ := ⟨[], rfl, by simpa using h⟩
theorem gk_cons {acc : List AV} {k : List AV → Prop} {x : Operand} {xs : List Operand} {v : AV} (hv : St.ev ⟨e, L, H⟩ x = .val v) (h : gK xs (acc ++ [v]) k ⟨e, L, H⟩) : gK (x :: xs) acc k ⟨e, L, H⟩ := by
  obtain ⟨vs, ha, hc⟩ := h
  exact ⟨v :: vs, ae_cons hv ha, by simpa using hc⟩

/-! ### new slices -/
theorem b_mks {t : TypeId} {l c : Operand} {s by_ : Nat} {zc cs : List AV} [ei : EI P t s by_ zc] {k k' : IntKind} {n : Int} {m : Nat} (hl : St.ev ⟨e, L, H⟩ l = .val (.int k n)) (hc : St.ev ⟨e, L, H⟩ c = .val (.int k' n)) (hn : n = (m : Int)) (hm : m ≤ 2 ^ 32)
    (hz : zrep m zc = cs) (hs : (decide (by_ ≤ 2 ^ 10) && zc.length == s && decide (0 < s)) = true) (h : K ⟨(dd, .val (.slm H.length cs.length 0 m s)) :: e, L, H ++ [cs]⟩) :
    opX P cfg ⟨some dd, .makeSlice t l c, ty, pos, aft, gd⟩ K ⟨e, L, H⟩ := by
  subst hz hn
  simp only [Bool.and_eq_true, decide_eq_true_eq, beq_iff_eq] at hs
  simp only [opX, opE, ei.h, hl, hc, EV.asI, Int.toNat_natCast]
  exact ⟨trivial, by omega, by omega, hs.1.1, hs.1.2, hs.2, h⟩
/-- .. of floats -/
theorem b_mkf {t : TypeId} {l c : Operand} [ei : EI P t 1 8 [.flt 0]] {A N N' : List (List AV)} {n₀ i : Nat} {k k' : IntKind} {n : Int} {m : Nat} (hl : St.ev ⟨e, L, A ++ N⟩ l = .val (.int k n)) (hc : St.ev ⟨e, L, A ++ N⟩ c = .val (.int k' n)) (hA : A.length = n₀) (hi : N.length = i) (hN : N ++ [fl (List.replicate m 0)] = N')
    (hn : n = (m : Int)) (hm : m ≤ 2 ^ 32) (h : K ⟨(dd, .val (.slm (n₀ + i) m 0 m 1)) :: e, L, A ++ N'⟩) :
    opX P cfg ⟨some dd, .makeSlice t l c, ty, pos, aft, gd⟩ K ⟨e, L, A ++ N⟩ := by
  subst hN hi hA
  refine b_mks (cs := fl (List.replicate m 0)) hl hc hn hm (by simp [zrep, fl]) rfl ?_
  simpa [List.append_assoc] using h
/-- a value of one cell -/
def oneC : AV → Bool
  | .agg _ | .junk | .tup _ => false
  | .raw v => v.oneCell'
  | _ => true
theorem oneC_cells {v : AV} (h : oneC v = true) : v.cells = some [v] := by
  cases v <;> simp_all [oneC, AV.cells]
theorem sc_next {v z : AV} {vs cs zs : List AV} {k : Nat} (hk : vs.length = k) : sc (vs ++ z :: zs) k [v] = (vs ++ [v]) ++ zs := by
  subst hk; simp [sc]
theorem fill_all {z : AV} : ∀ (vs : List AV) (done : List AV) (k : Nat) (ps : List (Nat × Option AV)), k = done.length → ps.map (·.1) = List.range' k vs.length → ps.map (·.2) = vs.map some → (∀ v ∈ vs, oneC v = true) →
    fillA (fun i => some (i * 1, 1)) (done ++ List.replicate vs.length z) ps = some (done ++ vs)
  | [], done, k, ps, _, h1, _, _ => by
    have : ps = [] := by simpa using h1
    subst this; simp [fillA]
  | v :: vs, done, k, ps, hk, h1, h2, h3 => by
    cases ps with
    | nil => simp at h2
    | cons p ps =>
      obtain ⟨i, ov⟩ := p
      simp only [List.map_cons, List.cons.injEq, List.length_cons, List.range'_succ] at h1 h2
      obtain ⟨rfl, h1⟩ := h1
      obtain ⟨rfl, h2⟩ := h2
      simp only [fillA, Option.bind_some, oneC_cells (h3 v (by simp)), List.length_singleton, List.length_cons, List.replicate_succ]
      rw [if_neg (by simp; omega), Nat.mul_one, sc_next (cs := []) hk.symm]
      have := fill_all (z := z) vs (done ++ [v]) (i + 1) ps (by simp [hk]) h1 h2 (fun x hx => h3 x (by simp [hx]))
      simpa using this
/-- a literal of a slice, each element one cell; 'k' is told what it is -/
theorem bsl_core {len : Nat} {z : AV} {parts : Array (Nat × Operand)} {vs : List AV} (ha : argsX (St.ev ⟨e, L, H⟩) (parts.toList.map (·.2)) = some vs) (hr : parts.toList.map (·.1) = List.range' 0 len) (hone : vs.all oneC = true) :
    fillA (fun i => some (i * 1, 1)) (zrep len [z]) (parts.toList.map fun (i, x) => (i, (St.ev ⟨e, L, H⟩ x).asV)) = some vs ∧ vs.length = len := by
  have h1 := mapM_id ha
  have hlen : vs.length = len := by
    have := congrArg List.length hr
    have h2 := congrArg List.length h1
    simp at this h2; omega
  refine ⟨?_, hlen⟩
  have := fill_all (z := z) vs [] 0 (parts.toList.map fun (i, x) => (i, (St.ev ⟨e, L, H⟩ x).asV)) rfl (by rw [hlen, ← hr]; simp [Function.comp_def]) (by rw [← h1]; simp [Function.comp_def]) (by simpa using hone)
  simpa [zrep, hlen] using this
theorem b_bslZ {t : TypeId} {len by_ : Nat} {z : AV} {parts : Array (Nat × Operand)} [ei : EI P t 1 by_ [z]] (hfz : cfg.fz.contains dd = true) (hr : parts.toList.map (·.1) = List.range' 0 len) (hl : len ≤ 2 ^ 24)
    (h : gK (parts.toList.map (·.2)) [] (fun vs => vs.all oneC = true ∧ K ⟨(dd, .val (.sl none len vs)) :: e, L, H⟩) ⟨e, L, H⟩) : opX P cfg ⟨some dd, .buildSlice t len parts, ty, pos, aft, gd⟩ K ⟨e, L, H⟩ := by
  obtain ⟨vs, ha, hone, h⟩ := h
  simp only [List.nil_append] at hone h
  obtain ⟨h1, h2⟩ := bsl_core (z := z) ha hr hone
  simp only [opX, opE, ei.h, h1, Option.any_some, hfz, if_true]
  exact ⟨rfl, by omega, by omega, h⟩
theorem b_bslN {t : TypeId} {len by_ : Nat} {z : AV} {parts : Array (Nat × Operand)} [ei : EI P t 1 by_ [z]] {A N : List (List AV)} {n₀ i : Nat} (hfz : cfg.fz.contains dd = false) (hr : parts.toList.map (·.1) = List.range' 0 len) (hl : len ≤ 2 ^ 24) (hA : A.length = n₀) (hi : N.length = i)
    (h : gK (parts.toList.map (·.2)) [] (fun vs => vs.all oneC = true ∧ ∀ N', N ++ [vs] = N' → K ⟨(dd, .val (.slm (n₀ + i) len 0 len 1)) :: e, L, A ++ N'⟩) ⟨e, L, A ++ N⟩) : opX P cfg ⟨some dd, .buildSlice t len parts, ty, pos, aft, gd⟩ K ⟨e, L, A ++ N⟩ := by
  obtain ⟨vs, ha, hone, h⟩ := h
  simp only [List.nil_append] at hone h
  obtain ⟨h1, h2⟩ := bsl_core (z := z) ha hr hone
  simp only [opX, opE, ei.h, h1, Option.any_some, hfz, Bool.false_eq_true, if_false]
  subst hA hi
  have := h _ rfl
  refine ⟨rfl, by omega, by omega, ?_⟩
  rw [app_some]
  simpa [h2, List.append_assoc] using this

/-! ### append -/
/-- what is appended -/
theorem b_app0 {t tx : TypeId} {s x : Operand} {sz by_ el' z' : Nat} {zc xs : List AV} [ei : EI P t sz by_ zc] [si : SlI P tx el' z'] {vx : AV} {m : Nat} (hs : St.ev ⟨e, L, H⟩ s = .val .slnil) (hx : St.ev ⟨e, L, H⟩ x = .val vx) (hsrc : srcX H sz vx = some (m, xs)) (hm : 0 < m ∧ m ≤ 2 ^ 32)
    (hz : (decide (by_ ≤ 2 ^ 10) && decide (0 < by_) && zc.length == sz && decide (0 < sz)) = true) (h : K ⟨(dd, .val (.slm H.length xs.length 0 m sz)) :: e, L, H ++ [xs]⟩) :
    opX P cfg ⟨some dd, .call { callee := .builtin .append, args := #[s, x], argTypes := #[t, tx] }, ty, pos, aft, gd⟩ K ⟨e, L, H⟩ := by
  simp only [Bool.and_eq_true, decide_eq_true_eq, beq_iff_eq] at hz
  simp only [opX, opE, List.map_cons, List.map_nil, hs, hx, EV.asV, ei.h, si.h, hsrc, appX]
  exact ⟨hz.1.1.1, hz.1.1.2, hz.1.2, hz.2, hm.2, fun h0 => by omega, fun _ => h⟩
theorem b_app1 {t tx : TypeId} {s x : Operand} {id gen len sz by_ el' z' : Nat} {zc xs cs : List AV} [ei : EI P t sz by_ zc] [si : SlI P tx el' z'] {vx : AV} {m : Nat} (hs : St.ev ⟨e, L, H⟩ s = .val (.slm id gen 0 len sz)) (hx : St.ev ⟨e, L, H⟩ x = .val vx) (hsrc : srcX H sz vx = some (m, xs))
    (hc : H[id]? = some cs) (hg : cs.length = gen) (hl : len * sz = gen) (hm : len + m ≤ 2 ^ 32) (hmx : cfg.n0 ≤ id ∨ mxL xs ≤ cfg.n0)
    (hz : (decide (by_ ≤ 2 ^ 10) && decide (0 < by_) && zc.length == sz && decide (0 < sz)) = true) (h : K ⟨(dd, .val (.slm id (cs.length + xs.length) 0 (len + m) sz)) :: e, L, H.set id (cs ++ xs)⟩) :
    opX P cfg ⟨some dd, .call { callee := .builtin .append, args := #[s, x], argTypes := #[t, tx] }, ty, pos, aft, gd⟩ K ⟨e, L, H⟩ := by
  simp only [Bool.and_eq_true, decide_eq_true_eq, beq_iff_eq] at hz
  simp only [opX, opE, List.map_cons, List.map_nil, hs, hx, EV.asV, ei.h, si.h, hsrc, appX, hc]
  exact ⟨hz.1.1.1, hz.1.1.2, hz.1.2, hz.2, trivial, hg, trivial, hl, hm, hmx, h⟩
/-- .. to nothing, from nothing -/
theorem b_app00 {t tx : TypeId} {s x : Operand} {sz by_ el' z' : Nat} {zc xs : List AV} [ei : EI P t sz by_ zc] [si : SlI P tx el' z'] {vx : AV} (hs : St.ev ⟨e, L, H⟩ s = .val .slnil) (hx : St.ev ⟨e, L, H⟩ x = .val vx) (hsrc : srcX H sz vx = some (0, xs))
    (hz : (decide (by_ ≤ 2 ^ 10) && decide (0 < by_) && zc.length == sz && decide (0 < sz)) = true) (h : K ⟨(dd, .val .slnil) :: e, L, H⟩) :
    opX P cfg ⟨some dd, .call { callee := .builtin .append, args := #[s, x], argTypes := #[t, tx] }, ty, pos, aft, gd⟩ K ⟨e, L, H⟩ := by
  simp only [Bool.and_eq_true, decide_eq_true_eq, beq_iff_eq] at hz
  simp only [opX, opE, List.map_cons, List.map_nil, hs, hx, EV.asV, ei.h, si.h, hsrc, appX]
  exact ⟨hz.1.1.1, hz.1.1.2, hz.1.2, hz.2, by omega, fun _ => h, fun h0 => by omega⟩
/-- a float behind a list of floats (the literal of one element that Go makes for it) -/
theorem src_fz {H : List (List AV)} {tag : Option (Nat × Nat)} {n sz : Nat} {cs : List AV} (h : n * sz = cs.length) : srcX H sz (.sl tag n cs) = some (n, cs) := by
  simp only [srcX, slen, Option.bind_some, sread]
  rw [gc_all cs h]; rfl
theorem src_fl {H : List (List AV)} {D : AV} {l : List Nat} (h : FL H D l) : srcX H 1 D = some (l.length, fl l) := by
  by_cases hD : D = .slnil
  · subst hD
    have := h.len
    simp only [slen, Option.some.injEq] at this
    have : l = [] := List.eq_nil_of_length_eq_zero this.symm
    subst this; rfl
  · have h1 := h.all hD
    cases D <;> first | exact absurd rfl hD | (simp only [sread, reduceCtorEq] at h1; done) | simp only [srcX, h.len, Option.bind_some, Nat.mul_one, h1, Option.map_some]
end
end Go.Sx
