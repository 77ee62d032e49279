/- A part of the proofs of this seat: YE. No condition is set. -/
import Derived.Deep.Fields
import Derived.Deep.Slices
import Derived.Laws.LoneSync
import Derived.OpenShut
import Derived.ProofKit
import Derived.WideKeyArgs
import Derived.Test.YthjjpbcmimpjbaaGreatYD
set_option linter.unusedVariables false
set_option linter.unusedSimpArgs false
namespace Go.Sx
def ckK (f : DFl) (nY : NY) (o : Oper) (st : St) (K : St → Prop) (s : St) : Prop := ckX f nY o st s ∧ K s
section
variable {P : Program} {cfg : Cfg} {e e' : List (Nat × EV)} {L : List (Nat × List AV)} {H : List (List AV)} {Q : XE → St → Prop} {K : St → Prop}
variable {kn : Option (Nat × Bool)} {ops : Array Oper} {nY : NY} {d : Option Tmp} {o : Op} {ty : TypeId} {pos : String} {aft : Array Edge} {rest : List (Nat × DFl)} {i j : Nat} {f : DFl} {b want : Bool} {gd : Option (Nat × Bool)} {dd : Nat}
theorem zan {id : Nat} {l : List Oper} (nY ch : List Nat) (fl : List (Nat × DFl)) (hc : z7t cfg.esc cfg.fz [] l.toArray ch fl = true) (h : exD P cfg l.toArray ⟨nY, fun _ => false, []⟩ none fl (Q .normal) ⟨e, L, H⟩) (hb : zfq cfg.esc e l = true := by kernel_rfl) : Ex P cfg (zds P cfg) (.region id l.toArray true) Q ⟨e, L, H⟩ := by
  simp only [Ex, if_true]; exact ⟨⟨nY, fun _ => false, []⟩, ch, fl, hc, rfl, hb, h⟩
theorem zy3 {id : Nat} {l : List Oper} (nY : NY) (ch : List Nat) (fl : List (Nat × DFl)) (hc : z7t cfg.esc cfg.fz nY.kw l.toArray ch fl = true) (h : exD P cfg l.toArray nY none fl (Q .normal) ⟨e, L, H⟩) (hb : zfq cfg.esc e l = true := by kernel_rfl) (hk : nY.kw.all (fun p => nY.ks.contains p.1) = true := by kernel_rfl) : Ex P cfg (zds P cfg) (.region id l.toArray true) Q ⟨e, L, H⟩ := by
  simp only [Ex, if_true]; exact ⟨nY, ch, fl, hc, hk, hb, h⟩
theorem zcf (h : K ⟨e, L, H⟩) : exD P cfg ops nY kn [] K ⟨e, L, H⟩ := h
theorem qb7 (ho : ops[i]? = some ⟨d, o, ty, pos, aft, none⟩) (h : opX P cfg ⟨d, o, ty, pos, aft, none⟩ (ckK f nY ⟨d, o, ty, pos, aft, none⟩ ⟨e, L, H⟩ (exD P cfg ops nY none rest K)) ⟨e, L, H⟩) : exD P cfg ops nY none ((i, f) :: rest) K ⟨e, L, H⟩ := by
  unfold exD; simp only [ho]; exact h
theorem qb8 (ho : ops[i]? = some ⟨d, o, ty, pos, aft, none⟩) (hj : (((ops[j]?).bind (·.dst)) == d) = false) (h : opX P cfg ⟨d, o, ty, pos, aft, none⟩ (ckK f nY ⟨d, o, ty, pos, aft, none⟩ ⟨e, L, H⟩ (exD P cfg ops nY (some (j, b)) rest K)) ⟨e, L, H⟩) :
    exD P cfg ops nY (some (j, b)) ((i, f) :: rest) K ⟨e, L, H⟩ := by
  unfold exD; simp only [ho, Option.any_some, hj]; exact h
def zba (P : Program) (cfg : Cfg) (ops : Array Oper) (nY : NY) (f : DFl) (o : Oper) (j : Nat) (want : Bool) (t : Nat) (rest : List (Nat × DFl)) (K : St → Prop) (st : St) (v : EV) : Prop :=
  St.ev st (.tmp t) = v →
  match v.asB with
  | none => False
  | some b =>
    (b = want → opX P cfg o (ckK f nY o st (exD P cfg ops nY (some (j, want)) rest K)) ⟨upd t (.val (.bool want)) st.env, st.L, st.H⟩) ∧
    (b = !want → exD P cfg ops nY (some (j, !want)) rest K (St.put ⟨upd t (.val (.bool (!want))) st.env, st.L, st.H⟩ o.dst (.val (.tup []))))
theorem qcc {t : Nat} (ho : ops[i]? = some ⟨d, o, ty, pos, aft, some (j, want)⟩) (ht : (ops[j]?).bind (·.dst) = some t) (hd : (d == some t) = false)
    (h : opX P cfg ⟨d, o, ty, pos, aft, some (j, want)⟩ (ckK f nY ⟨d, o, ty, pos, aft, some (j, want)⟩ ⟨e, L, H⟩ (exD P cfg ops nY (some (j, want)) rest K)) ⟨e, L, H⟩) :
    exD P cfg ops nY (some (j, want)) ((i, f) :: rest) K ⟨e, L, H⟩ := by
  have hd' : d ≠ some t := by simpa using hd
  unfold exD; simp only [ho, ht, hd', if_false, if_true]; exact h
theorem qcb {t : Nat} (ho : ops[i]? = some ⟨some dd, o, ty, pos, aft, some (j, want)⟩) (ht : (ops[j]?).bind (·.dst) = some t) (hd : (dd == t) = false) (hb : b = !want) (h : exD P cfg ops nY (some (j, b)) rest K ⟨(dd, .val (.tup [])) :: e, L, H⟩) :
    exD P cfg ops nY (some (j, b)) ((i, f) :: rest) K ⟨e, L, H⟩ := by
  have hd' : dd ≠ t := by simpa using hd
  subst hb
  unfold exD
  have h2 : ¬ (!want) = want := by cases want <;> simp
  simp only [ho, ht, Option.some.injEq, Prod.mk.injEq, hd', h2, and_false, if_false, if_true]; exact h
theorem zse {t : Nat} {v : EV} (ho : ops[i]? = some ⟨d, o, ty, pos, aft, some (j, want)⟩) (ht : (ops[j]?).bind (·.dst) = some t) (hd : (d == some t) = false) (hk : kn ≠ some (j, want) ∧ kn ≠ some (j, !want)) (hv : St.ev ⟨e, L, H⟩ (.tmp t) = v)
    (h : zba P cfg ops nY f ⟨d, o, ty, pos, aft, some (j, want)⟩ j want t rest K ⟨e, L, H⟩ v) : exD P cfg ops nY kn ((i, f) :: rest) K ⟨e, L, H⟩ := by
  have hd' : d ≠ some t := by simpa using hd
  subst hv
  have h' := h rfl
  unfold exD
  simp only [ho, ht, hd', hk.1, hk.2, if_false]
  cases hb : (St.ev ⟨e, L, H⟩ (.tmp t)).asB with
  | none => rw [hb] at h'; exact h'.elim
  | some b => rw [hb] at h'; exact h'
theorem qcd {t : Nat} (ho : ops[i]? = some ⟨some dd, o, ty, pos, aft, some (j, want)⟩) (ht : (ops[j]?).bind (·.dst) = some t) (hd : (dd == t) = false) (hk : kn ≠ some (j, want) ∧ kn ≠ some (j, !want)) (hv : St.ev ⟨e, L, H⟩ (.tmp t) = .val (.tup [])) (hn : kn.any (fun p => ((ops[p.1]?).bind (·.dst)) == some dd) = false)
    (h : exD P cfg ops nY kn rest K ⟨(dd, .val (.tup [])) :: e, L, H⟩) : exD P cfg ops nY kn ((i, f) :: rest) K ⟨e, L, H⟩ := by
  have hd' : dd ≠ t := by simpa using hd
  unfold exD
  simp only [ho, ht, Option.some.injEq, hd', if_false, hk.1, hk.2, hv, EV.asB, EV.isU, if_true, hn, Bool.false_eq_true]
  exact h
theorem qb9 {t : Nat} {v : EV} (ho : ops[i]? = some ⟨d, o, ty, pos, aft, some (j, want)⟩) (ht : (ops[j]?).bind (·.dst) = some t) (hd : (d == some t) = false) (hv : St.ev ⟨e, L, H⟩ (.tmp t) = v)
    (h : zba P cfg ops nY f ⟨d, o, ty, pos, aft, some (j, want)⟩ j want t rest K ⟨e, L, H⟩ v) : exD P cfg ops nY none ((i, f) :: rest) K ⟨e, L, H⟩ := zse ho ht hd ⟨by simp, by simp⟩ hv h
theorem qca {t j' : Nat} {b' : Bool} {v : EV} (ho : ops[i]? = some ⟨d, o, ty, pos, aft, some (j, want)⟩) (ht : (ops[j]?).bind (·.dst) = some t) (hd : (d == some t) = false) (hj : (j' == j) = false) (hv : St.ev ⟨e, L, H⟩ (.tmp t) = v)
    (h : zba P cfg ops nY f ⟨d, o, ty, pos, aft, some (j, want)⟩ j want t rest K ⟨e, L, H⟩ v) : exD P cfg ops nY (some (j', b')) ((i, f) :: rest) K ⟨e, L, H⟩ := by
  have hj' : j' ≠ j := by simpa using hj
  exact zse ho ht hd ⟨by simp [hj'], by simp [hj']⟩ hv h
theorem ze6 {t : Nat} (h : opX P cfg ⟨d, o, ty, pos, aft, gd⟩ (ckK f nY ⟨d, o, ty, pos, aft, gd⟩ ⟨e, L, H⟩ (exD P cfg ops nY (some (j, true)) rest K)) ⟨e, L, H⟩) : zba P cfg ops nY f ⟨d, o, ty, pos, aft, gd⟩ j true t rest K ⟨e, L, H⟩ (.val (.bool true)) :=
  fun hv => ⟨fun _ => by dsimp only; rw [upd_same (zkm hv)]; exact h, (fun h => Bool.noConfusion h)⟩
theorem ze1 {t : Nat} (h : opX P cfg ⟨d, o, ty, pos, aft, gd⟩ (ckK f nY ⟨d, o, ty, pos, aft, gd⟩ ⟨e, L, H⟩ (exD P cfg ops nY (some (j, false)) rest K)) ⟨e, L, H⟩) : zba P cfg ops nY f ⟨d, o, ty, pos, aft, gd⟩ j false t rest K ⟨e, L, H⟩ (.val (.bool false)) :=
  fun hv => ⟨fun _ => by dsimp only; rw [upd_same (zkm hv)]; exact h, (fun h => Bool.noConfusion h)⟩
theorem ze5 {t : Nat} (h : exD P cfg ops nY (some (j, true)) rest K ⟨(dd, .val (.tup [])) :: e, L, H⟩) : zba P cfg ops nY f ⟨some dd, o, ty, pos, aft, gd⟩ j false t rest K ⟨e, L, H⟩ (.val (.bool true)) :=
  fun hv => ⟨(fun h => Bool.noConfusion h), fun _ => by simp only [Bool.not_false]; rw [upd_same (zkm hv)]; exact h⟩
theorem ze2 {t : Nat} (h : exD P cfg ops nY (some (j, false)) rest K ⟨(dd, .val (.tup [])) :: e, L, H⟩) : zba P cfg ops nY f ⟨some dd, o, ty, pos, aft, gd⟩ j true t rest K ⟨e, L, H⟩ (.val (.bool false)) :=
  fun hv => ⟨(fun h => Bool.noConfusion h), fun _ => by simp only [Bool.not_true]; rw [upd_same (zkm hv)]; exact h⟩
theorem ze4 {t : Nat} {p : Prop} [Decidable p] (h1 : p → opX P cfg ⟨some dd, o, ty, pos, aft, gd⟩ (ckK f nY ⟨some dd, o, ty, pos, aft, gd⟩ ⟨e, L, H⟩ (exD P cfg ops nY (some (j, true)) rest K)) ⟨upd t (.val (.bool true)) e, L, H⟩)
    (h2 : ¬ p → exD P cfg ops nY (some (j, false)) rest K ⟨(dd, .val (.tup [])) :: upd t (.val (.bool false)) e, L, H⟩) :
    zba P cfg ops nY f ⟨some dd, o, ty, pos, aft, gd⟩ j true t rest K ⟨e, L, H⟩ (.val (.bool (decide p))) :=
  fun _ => ⟨fun h => h1 (of_decide_eq_true h), fun h => h2 (of_decide_eq_false h)⟩
theorem ze3 {t : Nat} {p : Prop} [Decidable p] (h1 : ¬ p → opX P cfg ⟨some dd, o, ty, pos, aft, gd⟩ (ckK f nY ⟨some dd, o, ty, pos, aft, gd⟩ ⟨e, L, H⟩ (exD P cfg ops nY (some (j, false)) rest K)) ⟨upd t (.val (.bool false)) e, L, H⟩)
    (h2 : p → exD P cfg ops nY (some (j, true)) rest K ⟨(dd, .val (.tup [])) :: upd t (.val (.bool true)) e, L, H⟩) :
    zba P cfg ops nY f ⟨some dd, o, ty, pos, aft, gd⟩ j false t rest K ⟨e, L, H⟩ (.val (.bool (decide p))) :=
  fun _ => ⟨fun h => h1 (of_decide_eq_false h), fun h => h2 (of_decide_eq_true h)⟩
theorem ze0 {t : Nat} {b : Bool} (h1 : b = true → opX P cfg ⟨some dd, o, ty, pos, aft, gd⟩ (ckK f nY ⟨some dd, o, ty, pos, aft, gd⟩ ⟨e, L, H⟩ (exD P cfg ops nY (some (j, true)) rest K)) ⟨upd t (.val (.bool true)) e, L, H⟩)
    (h2 : b = false → exD P cfg ops nY (some (j, false)) rest K ⟨(dd, .val (.tup [])) :: upd t (.val (.bool false)) e, L, H⟩) :
    zba P cfg ops nY f ⟨some dd, o, ty, pos, aft, gd⟩ j true t rest K ⟨e, L, H⟩ (.val (.bool b)) := fun _ => ⟨h1, h2⟩
theorem zez {t : Nat} {b : Bool} (h1 : b = false → opX P cfg ⟨some dd, o, ty, pos, aft, gd⟩ (ckK f nY ⟨some dd, o, ty, pos, aft, gd⟩ ⟨e, L, H⟩ (exD P cfg ops nY (some (j, false)) rest K)) ⟨upd t (.val (.bool false)) e, L, H⟩)
    (h2 : b = true → exD P cfg ops nY (some (j, true)) rest K ⟨(dd, .val (.tup [])) :: upd t (.val (.bool true)) e, L, H⟩) :
    zba P cfg ops nY f ⟨some dd, o, ty, pos, aft, gd⟩ j false t rest K ⟨e, L, H⟩ (.val (.bool b)) := fun _ => ⟨h1, h2⟩
theorem zev {o : Oper} {st s : St} (h : K s) : ckK .lt nY o st K s := ⟨trivial, h⟩
def z4l (nY : NY) (hl : Bool) : EV → Bool
  | .loc k _ => !nY.ks.contains k
  | .val (.eptr (.slm id _ _ _ _) _) => hl || nY.W id
  | _ => true
theorem k_ld {hl : Bool} {t : TypeId} {x : Operand} {st s : St} {v : EV} (hv : St.ev st x = v) (hk : z4l nY hl v = true) (h : K s) : ckK (.ld hl) nY ⟨d, .load t x, ty, pos, aft, gd⟩ st K s := by
  refine ⟨?_, h⟩
  subst hv
  simp only [ckX]
  unfold z4l at hk
  split at hk <;> split <;> first
    | trivial
    | simp_all; done
    | (rename_i hne _ _ _ _ _ _ _ he; exact absurd rfl (hne _ _ _ _ _ _ |> fun h => by simp_all))
    | (exfalso; simp_all; rename_i hne; exact hne _ _ _ _ _ _ rfl rfl rfl rfl rfl rfl)
    | (exfalso; simp_all; rename_i hne _; exact hne _ _ _ _ _ _ rfl rfl rfl rfl rfl rfl)
theorem z9x {hl : Bool} {op : BinOp} {t t' : TypeId} {x y : Operand} {st s : St} {v : EV} (hv : St.ev st x = v) (hk : (hl || !z4i v) = true) (h : K s) : ckK (.ld hl) nY ⟨d, .binOp op t x y t', ty, pos, aft, gd⟩ st K s := by
  refine ⟨?_, h⟩
  subst hv
  have : z4i (st.ev x) = true → hl = true := by intro h'; rw [h'] at hk; simpa using hk
  cases op <;> simp only [ckX] <;> first | trivial | exact this
theorem zew {q : Bool} {o : Oper} (h : K ⟨e', L, H⟩) : ckK (.mn q) nY o ⟨e, L, H⟩ K ⟨e', L, H⟩ := ⟨⟨fun _ _ => rfl, fun _ _ _ => rfl⟩, h⟩
theorem z9z {q : Bool} {o : Oper} {N : List (List AV)} (h : K ⟨e', L, H ++ N⟩) : ckK (.mn q) nY o ⟨e, L, H⟩ K ⟨e', L, H ++ N⟩ := ⟨⟨fun _ _ => rfl, fun id _ hid => List.getElem?_append_left hid⟩, h⟩
theorem zci {o : Oper} {H' : List (List AV)} (h : K ⟨e', L, H'⟩) (hW : ∀ id, nY.W id = false := by intro _; rfl) : ckK (.mn false) nY o ⟨e, L, H⟩ K ⟨e', L, H'⟩ := ⟨⟨fun _ _ => rfl, fun id h => by rw [hW id] at h; simp at h⟩, h⟩
theorem zc1 {q : Bool} {o : Oper} {k : Nat} {cs : List AV} (hk : nY.ks.contains k = true) (h : K ⟨e', (k, cs) :: L, H⟩) (hw : lk nY.kw k = none := by rfl) : ckK (.mn q) nY o ⟨e, L, H⟩ K ⟨e', (k, cs) :: L, H⟩ := by
  refine ⟨⟨fun k' hk' => ?_, fun _ _ _ => rfl⟩, h⟩
  have : k ≠ k' := fun hh => by
    subst hh
    rcases hk' with h' | h'
    · exact h' (by simpa using hk)
    · rw [hw] at h'; cases h'
  simp only [lk, this, if_false]
theorem zfx {o : Oper} {k : Nat} {cs : List AV} (h : K ⟨e', (k, cs) :: L, H⟩) : ckK (.ms k) nY o ⟨e, L, H⟩ K ⟨e', (k, cs) :: L, H⟩ := by
  refine ⟨⟨fun k' hk' _ => ?_, rfl⟩, h⟩
  have : k ≠ k' := fun hh => hk' hh.symm
  simp only [lk, this, if_false]
theorem zfw {t : TypeId} {x : Operand} {k off : Nat} {st s : St} (hv : St.ev st x = .loc k off) (h : K s) : ckK (.lb k) nY ⟨d, .load t x, ty, pos, aft, gd⟩ st K s := by
  refine ⟨?_, h⟩
  simp only [ckX, hv]
theorem zfv {o : Oper} {st s : St} (h : K s) : ckK .fz nY o st K s := ⟨trivial, h⟩
theorem zfu {o : Oper} {dd : Nat} {st s : St} (hd : o.dst = some dd) (hk : nY.ks.contains dd = true) (h : K s) (hw : lk nY.kw dd = none := by rfl) : ckK .bx nY o st K s := by
  refine ⟨fun d hh => ?_, h⟩
  rw [hd] at hh; simp only [Option.some.injEq] at hh; subst hh
  exact ⟨by simpa using hk, hw⟩
theorem z8o {x : Operand} {n : Nat} {vs : List AV} {v : AV} (hx : St.ev ⟨e, L, H⟩ x = .val (.tup vs)) (hv : vs[n]? = some v) (h : K ⟨(dd, .val v) :: e, L, H⟩) : opX P cfg ⟨some dd, .extract x n, ty, pos, aft, gd⟩ K ⟨e, L, H⟩ := by
  rw [zda P cfg e L H K _ _ _ _ _ _ rfl]
  simp only [za2, hx, hv, Option.map_some]
  exact ⟨trivial, h⟩
theorem z8u {t : TypeId} {x v : Operand} {key off n : Nat} {a : Bool} {cs vs cs' : List AV} [ti : TyI P t n a] {ev : EV} (hx : St.ev ⟨e, L, H⟩ x = .loc key off) (hv : St.ev ⟨e, L, H⟩ v = ev) (hvs : ev.asV.bind AV.cells = some vs) (hn : vs.length = n) (hc : lk L key = some cs)
    (hle : off + vs.length ≤ cs.length) (hcs : sc cs off vs = cs') (h : K ⟨e, (key, cs') :: L, H⟩) : opX P cfg ⟨none, .store t x v, ty, pos, aft, gd⟩ K ⟨e, L, H⟩ := by
  subst hv hcs
  simp only [opX, opE, hvs, ti.sz, hn, hx, zfa, hc]
  exact ⟨trivial, trivial, by rw [← hn]; exact hle, h⟩
theorem zq8 {t : TypeId} {x v : Operand} {id gen o' len sz off n : Nat} {a : Bool} {cs vs cs' : List AV} [ti : TyI P t n a] {ev : EV} (hx : St.ev ⟨e, L, H⟩ x = .val (.eptr (.slm id gen o' len sz) off)) (hv : St.ev ⟨e, L, H⟩ v = ev) (hvs : ev.asV.bind AV.cells = some vs) (hn : vs.length = n) (hc : H[id]? = some cs)
    (hg : cs.length = gen) (hle : o' + off + vs.length ≤ cs.length) (hm : cfg.n0 ≤ id ∨ mxL vs ≤ cfg.n0) (hcs : sc cs (o' + off) vs = cs') (h : K ⟨e, L, H.set id cs'⟩) : opX P cfg ⟨none, .store t x v, ty, pos, aft, gd⟩ K ⟨e, L, H⟩ := by
  subst hv hcs
  simp only [opX, opE, hvs, ti.sz, hn, hx, zfa, hc]
  exact ⟨trivial, trivial, hg, by rw [← hn]; exact hle, hm, h⟩
theorem v_q {x y : Int} (hx : 0 ≤ x ∧ x ≤ 9223372036854775807) (hy : 1 ≤ y) (h : K ⟨(dd, .val (.int .i64 (x / y))) :: e, L, H⟩) : zb8 dd K ⟨e, L, H⟩ (some (True, .int .i64 (IntKind.i64.wrap (x.tdiv y)))) := by
  have h1 : x.tdiv y = x / y := Int.tdiv_eq_ediv_of_nonneg hx.1
  have h2 : 0 ≤ x / y := Int.ediv_nonneg hx.1 (by omega)
  have h3 : x / y ≤ x := Int.ediv_le_self _ hx.1
  rw [h1]
  exact v_w (by omega) h
theorem zam {x : Operand} {t : TypeId} {el z : Nat} [si : SlI P t el z] {s : AV} {n : Nat} (hx : St.ev ⟨e, L, H⟩ x = .val s) (hs : slen s = some n) (h : K ⟨(dd, .val (.int .i64 n)) :: e, L, H⟩) :
    opX P cfg ⟨some dd, .call { callee := .builtin .len, args := #[x], argTypes := #[t] }, ty, pos, aft, gd⟩ K ⟨e, L, H⟩ := z8q (t := t) rfl hx hs h
theorem zq1 {ρ : Operand → EV} {x : Operand} {xs : List Operand} {v : AV} {vs : List AV} (h : ρ x = .val v) (hr : zga ρ xs = some vs) : zga ρ (x :: xs) = some (v :: vs) := by
  unfold zga at hr ⊢
  have h' : (ρ x).asV = some v := by rw [h]; rfl
  simp only [List.map_cons, List.mapM_cons, h', id_eq, hr]; rfl
theorem zy1 {id : Nat} {args : Array Operand} {ts : Array TypeId} {vs : List AV} (ha : zga (St.ev ⟨e, L, H⟩) args.toList = some vs) {r : AV} {H' : List (List AV)}
    (hs : zaa P id vs H r H') (ho : zbk cfg.n0 H H') (h : K ⟨(dd, .val r) :: e, L, H'⟩) :
    opX P cfg ⟨some dd, .call { callee := .value (.func id), args := args, argTypes := ts }, ty, pos, aft, gd⟩ K ⟨e, L, H⟩ := b_call ha rfl hs ho h
theorem qdn {x y : Int} (hp : x = y) (h : K ⟨(dd, .val (.bool true)) :: e, L, H⟩) : zb8 dd K ⟨e, L, H⟩ (some (True, .bool (x == y))) := by
  have : (x == y) = true := by simpa using hp
  rw [this]; exact ⟨trivial, h⟩
theorem qdm {x y : Int} (hp : x ≠ y) (h : K ⟨(dd, .val (.bool false)) :: e, L, H⟩) : zb8 dd K ⟨e, L, H⟩ (some (True, .bool (x == y))) := by
  have : (x == y) = false := by simpa using hp
  rw [this]; exact ⟨trivial, h⟩
theorem zc7 {x y : Int} (h : K ⟨(dd, .val (.bool (decide (x = y)))) :: e, L, H⟩) : zb8 dd K ⟨e, L, H⟩ (some (True, .bool (x == y))) := ⟨trivial, h⟩
theorem qbe {x y : Int} (hp : x ≠ y) (h : K ⟨(dd, .val (.bool true)) :: e, L, H⟩) : zb8 dd K ⟨e, L, H⟩ (some (True, .bool (x != y))) := by
  have : (x != y) = true := by simpa using hp
  rw [this]; exact ⟨trivial, h⟩
theorem qbc {x y : Int} (hp : x = y) (h : K ⟨(dd, .val (.bool false)) :: e, L, H⟩) : zb8 dd K ⟨e, L, H⟩ (some (True, .bool (x != y))) := by
  have : (x != y) = false := by simpa using hp
  rw [this]; exact ⟨trivial, h⟩
theorem zbx {x y : Int} (h : K ⟨(dd, .val (.bool (decide (x ≠ y)))) :: e, L, H⟩) : zb8 dd K ⟨e, L, H⟩ (some (True, .bool (x != y))) := by
  have : (x != y) = decide (x ≠ y) := by simp only [bne, ne_eq, decide_not]; rfl
  rw [this]; exact ⟨trivial, h⟩
theorem rtF {p : Prop} [Decidable p] (h : ¬ p) : aOf (.bool false) = .bool (decide p) := by rw [decide_eq_false h]; rfl
theorem rtT {p : Prop} [Decidable p] (h : p) : aOf (.bool true) = .bool (decide p) := by rw [decide_eq_true h]; rfl
theorem rvF {p : Prop} [Decidable p] (h : ¬ p) : AV.bool false = .bool (decide p) := by rw [decide_eq_false h]
theorem rvT {p : Prop} [Decidable p] (h : p) : AV.bool true = .bool (decide p) := by rw [decide_eq_true h]
theorem rvP {p q : Prop} [Decidable p] [Decidable q] (h : q ↔ p) : AV.bool (decide q) = .bool (decide p) := by rw [decide_eq_decide.2 h]
end
theorem z8p {P : Program} {cfg : Cfg} {e : List (Nat × EV)} {L : List (Nat × List AV)} {H : List (List AV)} {K : St → Prop} {dd : Nat} {ty : TypeId} {pos : String} {aft : Array Edge} {gd : Option (Nat × Bool)} {t el : TypeId} {x : Operand} {z : Nat} [si : SlI P t el z] {s : AV} {len : Nat} (hx : St.ev ⟨e, L, H⟩ x = .val s) (hl : slen s = some len) (hi : 0 < len)
    (h : K ⟨(dd, .val (.eptr s 0)) :: e, L, H⟩) : opX P cfg ⟨some dd, .indexAddr t x (.const (.int .i64 0)), ty, pos, aft, gd⟩ K ⟨e, L, H⟩ :=
  z7q hx rfl hl (i := 0) rfl hi (by simpa using h)
def zb4 (P : Program) (cfg : Cfg) (id : Nat) (vs : List AV) (dd : Nat) (K : St → Prop) (st : St) : Prop := ∃ r H', zaa P id vs st.H r H' ∧ zbk cfg.n0 st.H H' ∧ K ⟨(dd, .val r) :: st.env, st.L, H'⟩
def zd1 (P : Program) (cfg : Cfg) (id : Nat) (xs : List Operand) (acc : List AV) (dd : Nat) (K : St → Prop) (st : St) : Prop := ∃ vs, zga st.ev xs = some vs ∧ zb4 P cfg id (acc ++ vs) dd K st
theorem zaj {P : Program} {cfg : Cfg} {e : List (Nat × EV)} {L : List (Nat × List AV)} {H : List (List AV)} {K : St → Prop} {dd : Nat} {ty : TypeId} {pos : String} {aft : Array Edge} {gd : Option (Nat × Bool)} {id : Nat} {args : Array Operand} {ts : Array TypeId}
    (h : zd1 P cfg id args.toList [] dd K ⟨e, L, H⟩) : opX P cfg ⟨some dd, .call { callee := .value (.func id), args := args, argTypes := ts }, ty, pos, aft, gd⟩ K ⟨e, L, H⟩ := by
  obtain ⟨vs, ha, r, H', h1, h2, h3⟩ := h
  exact zy1 ha (by simpa using h1) h2 h3
theorem za4 {P : Program} {cfg : Cfg} {e : List (Nat × EV)} {L : List (Nat × List AV)} {H : List (List AV)} {K : St → Prop} {dd id : Nat} {acc : List AV} (h : zb4 P cfg id acc dd K ⟨e, L, H⟩) : zd1 P cfg id [] acc dd K ⟨e, L, H⟩ := ⟨[], rfl, by simpa using h⟩
theorem zqz {P : Program} {cfg : Cfg} {e : List (Nat × EV)} {L : List (Nat × List AV)} {H : List (List AV)} {K : St → Prop} {dd id : Nat} {acc : List AV} {x : Operand} {xs : List Operand} {v : AV} (hv : St.ev ⟨e, L, H⟩ x = .val v) (h : zd1 P cfg id xs (acc ++ [v]) dd K ⟨e, L, H⟩) :
    zd1 P cfg id (x :: xs) acc dd K ⟨e, L, H⟩ := by
  obtain ⟨vs, ha, hc⟩ := h
  exact ⟨v :: vs, zq1 hv ha, by simpa using hc⟩
theorem c_call {P : Program} {cfg : Cfg} {e : List (Nat × EV)} {L : List (Nat × List AV)} {H H' : List (List AV)} {K : St → Prop} {dd id : Nat} {vs : List AV} {r : AV}
    (hs : zaa P id vs H r H') (ho : zbk cfg.n0 H H') (h : K ⟨(dd, .val r) :: e, L, H'⟩) : zb4 P cfg id vs dd K ⟨e, L, H⟩ := ⟨r, H', hs, ho, h⟩
def lpX (K : St → Prop) (Q : XE → St → Prop) : XE → St → Prop := fun e s => match e with | .normal => K s | e => Q e s
def prK (ks : List Nat) (K : St → Prop) (st : St) : Prop := K (prune ks st)
section
variable {P : Program} {cfg : Cfg} {dr : Array Oper → (St → Prop) → St → Prop} {e : List (Nat × EV)} {L : List (Nat × List AV)} {H : List (List AV)} {Q : XE → St → Prop} {K : St → Prop}
theorem za1 (ks : List Nat) (N : Nat) (S : Nat → St) {c : Code} (h0 : prune ks ⟨e, L, H⟩ = S 0)
    (hs : ∀ k, k < N → ∀ K : St → Prop, K (S (k + 1)) → Ex P cfg dr c (lpX (prK ks K) Q) (S k))
    (hx : ∀ K : St → Prop, Ex P cfg dr c (lpX (prK ks K) Q) (S N)) : Ex P cfg dr (.loop c) Q ⟨e, L, H⟩ := by
  show ∃ ks n, zff (Ex P cfg dr c) ks Q n (prune ks ⟨e, L, H⟩)
  refine ⟨ks, N + 1, ?_⟩
  rw [h0]
  have key : ∀ m k, k + m = N → zff (Ex P cfg dr c) ks Q (m + 1) (S k) := by
    intro m
    induction m with
    | zero => intro k hk; rw [Nat.add_zero] at hk; subst hk; exact hx (zff (Ex P cfg dr c) ks Q 0)
    | succ m ih => intro k hk; exact hs k (by omega) (zff (Ex P cfg dr c) ks Q (m + 1)) (ih (k + 1) (by omega))
  exact key N 0 (by omega)
theorem zdp (h : K ⟨e, L, H⟩) : lpX K Q .normal ⟨e, L, H⟩ := h
theorem zdq (h : Q .ret ⟨e, L, H⟩) : lpX K Q .ret ⟨e, L, H⟩ := h
theorem zdo {i : Nat} (h : Q (.exit i) ⟨e, L, H⟩) : lpX K Q (.exit i) ⟨e, L, H⟩ := h
theorem zdr {ks : List Nat} {s : St} (hp : prune ks ⟨e, L, H⟩ = s) (h : K s) : prK ks K ⟨e, L, H⟩ := by subst hp; exact h
end
class UI (P : Program) (t : TypeId) (d : outParam TypeDesc) : Prop where
  h : P.underlying t = some d
def fl (l : List Nat) : List AV := l.map .flt
def il (l : List Int) : List AV := l.map (.int .i64)
@[simp] theorem zd9 (l : List Nat) : (fl l).length = l.length := by simp [fl]
@[simp] theorem zgi (l : List Int) : (il l).length = l.length := by simp [il]
theorem zn9 {l : List Nat} {k : Nat} (h : k < l.length) : (fl l)[k]? = some (.flt (l.getD k 0)) := by simp [fl, h]
theorem zxu {l : List Int} {k : Nat} (h : k < l.length) : (il l)[k]? = some (.int .i64 (l.getD k 0)) := by simp [il, h]
theorem zfr (l m : List Nat) : fl l ++ fl m = fl (l ++ m) := by simp [fl]
theorem zg2 (l m : List Int) : il l ++ il m = il (l ++ m) := by simp [il]
theorem zxr (l : List Nat) (k x : Nat) : (fl l).set k (.flt x) = fl (l.set k x) := by simp [fl, List.map_set]
theorem zo8 (cs : List AV) (off : Nat) (v : AV) : sc cs off [v] = cs.set off v := rfl
theorem zl1 {cs : List AV} {k : Nat} {c : AV} (h : cs[k]? = some c) : gc cs k 1 = some [c] := by simp [gc, h]
theorem zak : ∀ (l : List Nat), mxL (fl l) = 0
  | [] => rfl
  | x :: l => by
    have := zak l
    simp only [fl, List.map_cons, mxL, mx] at this ⊢
    rw [this]; rfl
theorem zgj : ∀ (l : List Int), mxL (il l) = 0
  | [] => rfl
  | x :: l => by
    have := zgj l
    simp only [il, List.map_cons, mxL, mx] at this ⊢
    rw [this]; rfl
theorem zkv : ∀ (cs : List AV) (o n : Nat), o + n ≤ cs.length → gc cs o n = some ((cs.drop o).take n)
  | cs, o, 0, _ => by simp [gc]
  | cs, o, n + 1, h => by
    have hlt : o < cs.length := by omega
    simp only [gc]
    rw [List.getElem?_eq_getElem hlt]
    simp only [Option.bind_some]
    rw [zkv cs (o + 1) n (by omega)]
    simp only [Option.map_some, Option.some.injEq]
    rw [List.drop_eq_getElem_cons hlt, List.take_succ_cons]
theorem ze9 (cs : List AV) {n : Nat} (h : n = cs.length) : gc cs 0 n = some cs := by
  subst h
  rw [zkv cs 0 _ (by omega)]
  simp
structure FL (H : List (List AV)) (D : AV) (l : List Nat) : Prop where
  len : slen D = some l.length
  all : D ≠ .slnil → zc6 H D 0 l.length = some (fl l)
  one : ∀ id g o n z, D = .slm id g o n z → z = 1
  mx : Sx.mx D ≤ H.length
theorem FL.nil (H : List (List AV)) : FL H .slnil [] := ⟨rfl, fun h => absurd rfl h, by simp, by simp [Sx.mx]⟩
theorem FL.fz (H : List (List AV)) (tag : Option (Nat × Nat)) (l : List Nat) : FL H (.sl tag l.length (fl l)) l :=
  ⟨rfl, fun _ => by simp only [zc6]; exact ze9 _ (by simp), by simp, by simp only [Sx.mx, zak]; exact Nat.zero_le _⟩
theorem FL.slm {H : List (List AV)} {id off n g : Nat} {l m : List Nat} (h : H[id]? = some (fl m)) (hg : g = m.length) (hn : off + n ≤ m.length) (hl : l = (m.drop off).take n) : FL H (.slm id g off n 1) l := by
  subst hl hg
  have e : ((m.drop off).take n).length = n := by simp; omega
  refine ⟨by simp [slen, e], fun _ => ?_, by simp; omega, (List.getElem?_eq_some_iff.1 h).1⟩
  simp only [zc6, h, Option.bind_some, zd9, if_true, e, Nat.add_zero]
  rw [zkv _ _ _ (by simpa using hn)]
  simp [fl, List.map_drop, List.map_take]
theorem FL.app {H : List (List AV)} {D : AV} {l : List Nat} (h : FL H D l) (N : List (List AV)) : FL (H ++ N) D l := by
  refine ⟨h.len, fun hD => ?_, h.one, Nat.le_trans h.mx (by simp)⟩
  have h1 := h.all hD
  cases D <;> simp only [zc6] at h1 ⊢ <;> try exact h1
  rename_i id gen o len sz
  cases hi : H[id]? with
  | none => rw [hi] at h1; simp at h1
  | some cs =>
    rw [hi] at h1
    rw [List.getElem?_append_left (List.getElem?_eq_some_iff.1 hi).1, hi]; exact h1
theorem zod {cs : List AV} {o n : Nat} {l : List AV} (h : gc cs o n = some l) {k : Nat} {c : AV} (hk : l[k]? = some c) : gc cs (o + k) 1 = some [c] := by
  obtain ⟨h1, h2⟩ := zgh h
  have hlt := (List.getElem?_eq_some_iff.1 hk).1
  exact zl1 (by rw [← h2 k (by omega)]; exact hk)
theorem FL.rd {H : List (List AV)} {D : AV} {l : List Nat} (h : FL H D l) {k : Nat} (hk : k < l.length) : zc6 H D k 1 = some [.flt (l.getD k 0)] := by
  have hD : D ≠ .slnil := by rintro rfl; have := h.len; simp [slen] at this; omega
  have h1 := h.all hD
  cases D <;> simp only [zc6, reduceCtorEq] at h1 ⊢
  · have := zod h1 (zn9 hk); simpa using this
  · rename_i id gen o len sz
    cases hi : H[id]? with
    | none => rw [hi] at h1; simp at h1
    | some cs =>
      rw [hi] at h1
      simp only [Option.bind_some] at h1 ⊢
      split at h1
      · rename_i hg; rw [if_pos hg]
        have := zod h1 (zn9 hk); simpa using this
      · simp at h1
section
variable {A N : List (List AV)} {n j : Nat}
theorem za9 (hA : A.length = n) {cs : List AV} (hj : N[j]? = some cs) : (A ++ N)[n + j]? = some cs := by
  subst hA; rw [List.getElem?_append_right (by omega)]; simpa using hj
theorem zdw {i : Nat} {cs : List AV} (h : A[i]? = some cs) : (A ++ N)[i]? = some cs := by
  rw [List.getElem?_append_left (List.getElem?_eq_some_iff.1 h).1]; exact h
theorem zi2 (hA : A.length = n) {cs : List AV} {N' : List (List AV)} (hN : N.set j cs = N') : (A ++ N).set (n + j) cs = A ++ N' := by
  subst hA hN; rw [List.set_append_right _ _ (by omega)]; simp
theorem zdl {i : Nat} {cs : List AV} (h : i < A.length) : (A ++ N).set i cs = A.set i cs ++ N := by rw [List.set_append_left _ _ h]
end
section
variable {P : Program} {cfg : Cfg} {dr : Array Oper → (St → Prop) → St → Prop} {e : List (Nat × EV)} {L : List (Nat × List AV)} {H : List (List AV)} {Q : XE → St → Prop} {K : St → Prop}
variable {kn : Option (Nat × Bool)} {ops : Array Oper} {d : Option Tmp} {o : Op} {ty : TypeId} {pos : String} {aft : Array Edge} {rest : List Oper} {j : Nat} {b want : Bool} {gd : Option (Nat × Bool)} {dd : Nat}
def gK (xs : List Operand) (acc : List AV) (k : List AV → Prop) (st : St) : Prop := ∃ vs, zga st.ev xs = some vs ∧ k (acc ++ vs)
theorem zbt {acc : List AV} {k : List AV → Prop} (h : k acc) : gK [] acc k ⟨e, L, H⟩ := ⟨[], rfl, by simpa using h⟩
theorem zsc {acc : List AV} {k : List AV → Prop} {x : Operand} {xs : List Operand} {v : AV} (hv : St.ev ⟨e, L, H⟩ x = .val v) (h : gK xs (acc ++ [v]) k ⟨e, L, H⟩) : gK (x :: xs) acc k ⟨e, L, H⟩ := by
  obtain ⟨vs, ha, hc⟩ := h
  exact ⟨v :: vs, zq1 hv ha, by simpa using hc⟩
theorem z8r {t : TypeId} {l c : Operand} {s by_ : Nat} {zc cs : List AV} [ei : EI P t s by_ zc] {k k' : IntKind} {n : Int} {m : Nat} (hl : St.ev ⟨e, L, H⟩ l = .val (.int k n)) (hc : St.ev ⟨e, L, H⟩ c = .val (.int k' n)) (hn : n = (m : Int)) (hm : m ≤ 2 ^ 32)
    (hz : zli m zc = cs) (hs : (decide (by_ ≤ 2 ^ 10) && zc.length == s && decide (0 < s)) = true) (h : K ⟨(dd, .val (.slm H.length cs.length 0 m s)) :: e, L, H ++ [cs]⟩) :
    opX P cfg ⟨some dd, .makeSlice t l c, ty, pos, aft, gd⟩ K ⟨e, L, H⟩ := by
  subst hz hn
  simp only [Bool.and_eq_true, decide_eq_true_eq, beq_iff_eq] at hs
  simp only [opX, opE, ei.h, hl, hc, EV.asI, Int.toNat_natCast]
  exact ⟨trivial, by omega, by omega, hs.1.1, hs.1.2, hs.2, h⟩
theorem zy7 {t : TypeId} {l c : Operand} [ei : EI P t 1 8 [.flt 0]] {A N N' : List (List AV)} {n₀ i : Nat} {k k' : IntKind} {n : Int} {m : Nat} (hl : St.ev ⟨e, L, A ++ N⟩ l = .val (.int k n)) (hc : St.ev ⟨e, L, A ++ N⟩ c = .val (.int k' n)) (hA : A.length = n₀) (hi : N.length = i) (hN : N ++ [fl (List.replicate m 0)] = N')
    (hn : n = (m : Int)) (hm : m ≤ 2 ^ 32) (h : K ⟨(dd, .val (.slm (n₀ + i) m 0 m 1)) :: e, L, A ++ N'⟩) :
    opX P cfg ⟨some dd, .makeSlice t l c, ty, pos, aft, gd⟩ K ⟨e, L, A ++ N⟩ := by
  subst hN hi hA
  refine z8r (cs := fl (List.replicate m 0)) hl hc hn hm (by simp [zli, fl]) rfl ?_
  simpa [List.append_assoc] using h
def zm9 : AV → Bool
  | .agg _ | .junk | .tup _ => false
  | .raw v => v.oneCell'
  | _ => true
theorem zqc {v : AV} (h : zm9 v = true) : v.cells = some [v] := by
  cases v <;> simp_all [zm9, AV.cells]
theorem z1g {v z : AV} {vs cs zs : List AV} {k : Nat} (hk : vs.length = k) : sc (vs ++ z :: zs) k [v] = (vs ++ [v]) ++ zs := by
  subst hk; simp [sc]
theorem zn8 {z : AV} : ∀ (vs : List AV) (done : List AV) (k : Nat) (ps : List (Nat × Option AV)), k = done.length → ps.map (·.1) = List.range' k vs.length → ps.map (·.2) = vs.map some → (∀ v ∈ vs, zm9 v = true) →
    zed (fun i => some (i * 1, 1)) (done ++ List.replicate vs.length z) ps = some (done ++ vs)
  | [], done, k, ps, _, h1, _, _ => by
    have : ps = [] := by simpa using h1
    subst this; simp [zed]
  | v :: vs, done, k, ps, hk, h1, h2, h3 => by
    cases ps with
    | nil => simp at h2
    | cons p ps =>
      obtain ⟨i, ov⟩ := p
      simp only [List.map_cons, List.cons.injEq, List.length_cons, List.range'_succ] at h1 h2
      obtain ⟨rfl, h1⟩ := h1
      obtain ⟨rfl, h2⟩ := h2
      simp only [zed, Option.bind_some, zqc (h3 v (by simp)), List.length_singleton, List.length_cons, List.replicate_succ]
      rw [if_neg (by simp; omega), Nat.mul_one, z1g (cs := []) hk.symm]
      have := zn8 (z := z) vs (done ++ [v]) (i + 1) ps (by simp [hk]) h1 h2 (fun x hx => h3 x (by simp [hx]))
      simpa using this
theorem zn0 {len : Nat} {z : AV} {parts : Array (Nat × Operand)} {vs : List AV} (ha : zga (St.ev ⟨e, L, H⟩) (parts.toList.map (·.2)) = some vs) (hr : parts.toList.map (·.1) = List.range' 0 len) (hone : vs.all zm9 = true) :
    zed (fun i => some (i * 1, 1)) (zli len [z]) (parts.toList.map fun (i, x) => (i, (St.ev ⟨e, L, H⟩ x).asV)) = some vs ∧ vs.length = len := by
  have h1 := zm7 ha
  have hlen : vs.length = len := by
    have := congrArg List.length hr
    have h2 := congrArg List.length h1
    simp at this h2; omega
  refine ⟨?_, hlen⟩
  have := zn8 (z := z) vs [] 0 (parts.toList.map fun (i, x) => (i, (St.ev ⟨e, L, H⟩ x).asV)) rfl (by rw [hlen, ← hr]; simp [Function.comp_def]) (by rw [← h1]; simp [Function.comp_def]) (by simpa using hone)
  simpa [zli, hlen] using this
theorem zc2 {t : TypeId} {len by_ : Nat} {z : AV} {parts : Array (Nat × Operand)} [ei : EI P t 1 by_ [z]] (hfz : cfg.fz.contains dd = true) (hr : parts.toList.map (·.1) = List.range' 0 len) (hl : len ≤ 2 ^ 24)
    (h : gK (parts.toList.map (·.2)) [] (fun vs => vs.all zm9 = true ∧ K ⟨(dd, .val (.sl none len vs)) :: e, L, H⟩) ⟨e, L, H⟩) : opX P cfg ⟨some dd, .buildSlice t len parts, ty, pos, aft, gd⟩ K ⟨e, L, H⟩ := by
  obtain ⟨vs, ha, hone, h⟩ := h
  simp only [List.nil_append] at hone h
  obtain ⟨h1, h2⟩ := zn0 (z := z) ha hr hone
  simp only [opX, opE, ei.h, h1, Option.any_some, hfz, if_true]
  exact ⟨rfl, by omega, by omega, h⟩
theorem zgs {t : TypeId} {len by_ : Nat} {z : AV} {parts : Array (Nat × Operand)} [ei : EI P t 1 by_ [z]] {A N : List (List AV)} {n₀ i : Nat} (hfz : cfg.fz.contains dd = false) (hr : parts.toList.map (·.1) = List.range' 0 len) (hl : len ≤ 2 ^ 24) (hA : A.length = n₀) (hi : N.length = i)
    (h : gK (parts.toList.map (·.2)) [] (fun vs => vs.all zm9 = true ∧ ∀ N', N ++ [vs] = N' → K ⟨(dd, .val (.slm (n₀ + i) len 0 len 1)) :: e, L, A ++ N'⟩) ⟨e, L, A ++ N⟩) : opX P cfg ⟨some dd, .buildSlice t len parts, ty, pos, aft, gd⟩ K ⟨e, L, A ++ N⟩ := by
  obtain ⟨vs, ha, hone, h⟩ := h
  simp only [List.nil_append] at hone h
  obtain ⟨h1, h2⟩ := zn0 (z := z) ha hr hone
  simp only [opX, opE, ei.h, h1, Option.any_some, hfz, Bool.false_eq_true, if_false]
  subst hA hi
  have := h _ rfl
  refine ⟨rfl, by omega, by omega, ?_⟩
  rw [zke]
  simpa [h2, List.append_assoc] using this
theorem z2x {t tx : TypeId} {s x : Operand} {sz by_ el' z' : Nat} {zc xs : List AV} [ei : EI P t sz by_ zc] [si : SlI P tx el' z'] {vx : AV} {m : Nat} (hs : St.ev ⟨e, L, H⟩ s = .val .slnil) (hx : St.ev ⟨e, L, H⟩ x = .val vx) (hsrc : zkc H sz vx = some (m, xs)) (hm : 0 < m ∧ m ≤ 2 ^ 32)
    (hz : (decide (by_ ≤ 2 ^ 10) && decide (0 < by_) && zc.length == sz && decide (0 < sz)) = true) (h : K ⟨(dd, .val (.slm H.length xs.length 0 m sz)) :: e, L, H ++ [xs]⟩) :
    opX P cfg ⟨some dd, .call { callee := .builtin .append, args := #[s, x], argTypes := #[t, tx] }, ty, pos, aft, gd⟩ K ⟨e, L, H⟩ := by
  simp only [Bool.and_eq_true, decide_eq_true_eq, beq_iff_eq] at hz
  simp only [opX, opE, List.map_cons, List.map_nil, hs, hx, EV.asV, ei.h, si.h, hsrc, zpo]
  exact ⟨hz.1.1.1, hz.1.1.2, hz.1.2, hz.2, hm.2, fun h0 => by omega, fun _ => h⟩
theorem zxb {t tx : TypeId} {s x : Operand} {id gen len sz by_ el' z' : Nat} {zc xs cs : List AV} [ei : EI P t sz by_ zc] [si : SlI P tx el' z'] {vx : AV} {m : Nat} (hs : St.ev ⟨e, L, H⟩ s = .val (.slm id gen 0 len sz)) (hx : St.ev ⟨e, L, H⟩ x = .val vx) (hsrc : zkc H sz vx = some (m, xs))
    (hc : H[id]? = some cs) (hg : cs.length = gen) (hl : len * sz = gen) (hm : len + m ≤ 2 ^ 32) (hmx : cfg.n0 ≤ id ∨ mxL xs ≤ cfg.n0)
    (hz : (decide (by_ ≤ 2 ^ 10) && decide (0 < by_) && zc.length == sz && decide (0 < sz)) = true) (h : K ⟨(dd, .val (.slm id (cs.length + xs.length) 0 (len + m) sz)) :: e, L, H.set id (cs ++ xs)⟩) :
    opX P cfg ⟨some dd, .call { callee := .builtin .append, args := #[s, x], argTypes := #[t, tx] }, ty, pos, aft, gd⟩ K ⟨e, L, H⟩ := by
  simp only [Bool.and_eq_true, decide_eq_true_eq, beq_iff_eq] at hz
  simp only [opX, opE, List.map_cons, List.map_nil, hs, hx, EV.asV, ei.h, si.h, hsrc, zpo, hc]
  exact ⟨hz.1.1.1, hz.1.1.2, hz.1.2, hz.2, trivial, hg, trivial, hl, hm, hmx, h⟩
theorem zt4 {H : List (List AV)} {tag : Option (Nat × Nat)} {n sz : Nat} {cs : List AV} (h : n * sz = cs.length) : zkc H sz (.sl tag n cs) = some (n, cs) := by
  simp only [zkc, slen, Option.bind_some, zc6]
  rw [ze9 cs h]; rfl
theorem z6s {H : List (List AV)} {D : AV} {l : List Nat} (h : FL H D l) : zkc H 1 D = some (l.length, fl l) := by
  by_cases hD : D = .slnil
  · subst hD
    have := h.len
    simp only [slen, Option.some.injEq] at this
    have : l = [] := List.eq_nil_of_length_eq_zero this.symm
    subst this; rfl
  · have h1 := h.all hD
    cases D <;> first | exact absurd rfl hD | (simp only [zc6, reduceCtorEq] at h1; done) | simp only [zkc, h.len, Option.bind_some, Nat.mul_one, h1, Option.map_some]
end
def zrh (P : Program) (t : TypeId) : Option (List AV × List (Nat × Nat)) :=
  match zju P t, P.underlying t with
  | some z, some (.struct fs) => (z.cells).bind fun zc => (fs.toList.mapM fun f => (tsz P f.type).map (f.offset, ·)).map (zc, ·)
  | _, _ => none
class BdI (P : Program) (t : TypeId) (zc : outParam (List AV)) (pl : outParam (List (Nat × Nat))) : Prop where
  h : zrh P t = some (zc, pl)
theorem mapM_some {α β : Type} (f : α → Option β) : ∀ (l : List α) {r : List β}, l.mapM f = some r → l.map f = r.map some
  | [], r, h => by simp at h; subst h; rfl
  | a :: l, r, h => by
    simp only [List.mapM_cons, Option.bind_eq_bind, Option.bind_eq_some_iff, Option.pure_def, Option.some.injEq] at h
    obtain ⟨b, h1, r', h2, rfl⟩ := h
    simp [h1, mapM_some f l h2]
theorem zmy {p q : Nat → Option (Nat × Nat)} (h : ∀ i, p i = q i) (cs : List AV) (l : List (Nat × Option AV)) : zed p cs l = zed q cs l := by
  have : p = q := funext h
  rw [this]
theorem zri {P : Program} {t : TypeId} {zc : List AV} {pl : List (Nat × Nat)} (h : zrh P t = some (zc, pl)) (ρ : Operand → EV) (parts : Array (Nat × Operand)) :
    zlq P ρ t parts = (zed (fun i => pl[i]?) zc (parts.toList.map fun (i, x) => (i, (ρ x).asV))).map .agg := by
  unfold zrh at h
  split at h
  · rename_i z fs hz hu
    simp only [Option.bind_eq_some_iff, Option.map_eq_some_iff, Prod.mk.injEq] at h
    obtain ⟨zc', h1, pl', h2, rfl, rfl⟩ := h
    have hm := mapM_some _ _ h2
    have hall : fs.all (fun f => (tsz P f.type).isSome) = true := by
      rw [Array.all_eq_true_iff_forall_mem]
      intro f hf
      have hf' : f ∈ fs.toList := by simpa using hf
      have : (tsz P f.type).map (f.offset, ·) ∈ fs.toList.map (fun f => (tsz P f.type).map (f.offset, ·)) := List.mem_map_of_mem hf'
      rw [hm] at this
      simp only [List.mem_map] at this
      obtain ⟨x, _, hx⟩ := this
      cases hq : tsz P f.type with
      | none => rw [hq] at hx; simp at hx
      | some n => rfl
    unfold zlq
    simp only [hz, hu, hall, if_true, h1, Option.bind_some]
    congr 1
    refine zmy (fun i => ?_) _ _
    have := congrArg (·[i]?) hm
    simp only [List.getElem?_map, Array.getElem?_toList] at this
    simp only [zko]
    cases hf : fs[i]? with
    | none =>
      rw [hf] at this
      cases hp : pl'[i]? with
      | none => rfl
      | some p => rw [hp] at this; simp at this
    | some f =>
      rw [hf] at this
      simp only [Option.map_some, Option.bind_some] at this ⊢
      cases hp : pl'[i]? with
      | none => rw [hp] at this; simp at this
      | some p => rw [hp] at this; simpa using this
  · simp at h
section
variable {P : Program} {cfg : Cfg} {dr : Array Oper → (St → Prop) → St → Prop} {e : List (Nat × EV)} {L : List (Nat × List AV)} {H : List (List AV)} {Q : XE → St → Prop} {K : St → Prop}
variable {kn : Option (Nat × Bool)} {ops : Array Oper} {d : Option Tmp} {o : Op} {ty : TypeId} {pos : String} {aft : Array Edge} {rest : List Oper} {j : Nat} {b want : Bool} {gd : Option (Nat × Bool)} {dd : Nat}
def fK (pl : List (Nat × Nat)) (zc : List AV) (ps : List (Nat × Operand)) (k : List AV → Prop) (st : St) : Prop :=
  ∃ cs, zed (fun i => pl[i]?) zc (ps.map fun (i, x) => (i, (st.ev x).asV)) = some cs ∧ k cs
theorem zd8 {pl : List (Nat × Nat)} {zc : List AV} {k : List AV → Prop} (h : k zc) : fK pl zc [] k ⟨e, L, H⟩ := ⟨zc, rfl, h⟩
theorem zr7 {pl : List (Nat × Nat)} {zc zc' vs : List AV} {i off sz : Nat} {x : Operand} {ps : List (Nat × Operand)} {k : List AV → Prop} {v : AV} (hx : St.ev ⟨e, L, H⟩ x = .val v) (hc : v.cells = some vs) (hp : pl[i]? = some (off, sz))
    (hl : (vs.length == sz && decide (off + vs.length ≤ zc.length)) = true) (hz : sc zc off vs = zc') (h : fK pl zc' ps k ⟨e, L, H⟩) : fK pl zc ((i, x) :: ps) k ⟨e, L, H⟩ := by
  obtain ⟨cs, h1, h2⟩ := h
  subst hz
  simp only [Bool.and_eq_true, beq_iff_eq, decide_eq_true_eq] at hl
  refine ⟨cs, ?_, h2⟩
  simp only [List.map_cons, zed, hx, EV.asV, Option.bind_some, hc, hp]
  rw [if_neg (by omega)]
  exact h1
theorem zc9 {t : TypeId} {zc : List AV} {pl : List (Nat × Nat)} {parts : Array (Nat × Operand)} [bd : BdI P t zc pl] (h : fK pl zc parts.toList (fun cs => K ⟨(dd, .val (.agg cs)) :: e, L, H⟩) ⟨e, L, H⟩) :
    opX P cfg ⟨some dd, .build t parts, ty, pos, aft, gd⟩ K ⟨e, L, H⟩ := by
  obtain ⟨cs, h1, h2⟩ := h
  rw [zda P cfg e L H K _ _ _ _ _ _ rfl]
  simp only [za2, zri bd.h, h1, Option.map_some, zdz]
  exact ⟨trivial, h2⟩
theorem z3a {src dst : TypeId} {x : Operand} {k k' : IntKind} {n : Int} {td : TypeDesc} [u : UI P dst (.int k)] [us : UI P src td] (hx : St.ev ⟨e, L, H⟩ x = .val (.int k' n)) (h : zb8 dd K ⟨e, L, H⟩ (some (True, .int k (k.wrap n)))) :
    opX P cfg ⟨some dd, .convert src dst x, ty, pos, aft, gd⟩ K ⟨e, L, H⟩ := by
  rw [zda P cfg e L H K _ _ _ _ _ _ rfl]
  simp only [za2, us.h, Option.isSome_some, if_true, hx, zu9, u.h, Option.map_some, zdz]
  exact ⟨trivial, h.2⟩
theorem zey {src dst : TypeId} {x : Operand} {v : AV} {f : Nat} {td : TypeDesc} [u : UI P dst (.float .f64)] [us : UI P src td] (hx : St.ev ⟨e, L, H⟩ x = .val v) (hf : v.asF = some f) (h : K ⟨(dd, .val (.flt f)) :: e, L, H⟩) :
    opX P cfg ⟨some dd, .convert src dst x, ty, pos, aft, gd⟩ K ⟨e, L, H⟩ := by
  rw [zda P cfg e L H K _ _ _ _ _ _ rfl]
  have : zu9 P dst (.val v) = some (True, .flt f) := by
    unfold zu9; rw [u.h]
    cases v <;> simp_all [AV.asF]
  simp only [za2, us.h, Option.isSome_some, if_true, hx, this, Option.map_some, zdz]
  exact ⟨trivial, h⟩
theorem zdn {src dst : TypeId} {x : Operand} {k : IntKind} {n : Int} {td : TypeDesc} [u : UI P dst (.float .f64)] [us : UI P src td] (hx : St.ev ⟨e, L, H⟩ x = .val (.int k n)) (h : K ⟨(dd, .val (.flt (cn (FloatKind.f64.nearest n)))) :: e, L, H⟩) :
    opX P cfg ⟨some dd, .convert src dst x, ty, pos, aft, gd⟩ K ⟨e, L, H⟩ := by
  rw [zda P cfg e L H K _ _ _ _ _ _ rfl]
  simp only [za2, us.h, Option.isSome_some, if_true, hx, zu9, u.h, Option.map_some, zdz]
  exact ⟨trivial, h⟩
theorem zqv {n : Int} (hw : 0 ≤ n ∧ n ≤ 18446744073709551615) : IntKind.u64.wrap n = n := by
  simp only [IntKind.wrap, IntKind.signed, IntKind.bits]
  simp
  omega
theorem qbf {n : Int} (hw : 0 ≤ n ∧ n ≤ 18446744073709551615) (h : K ⟨(dd, .val (.int .u64 n)) :: e, L, H⟩) : zb8 dd K ⟨e, L, H⟩ (some (True, .int .u64 (IntKind.u64.wrap n))) := by
  rw [zqv hw]; exact ⟨trivial, h⟩
theorem zqs {k : IntKind} {x y : Int} {q : Int} (hx : 0 ≤ x) (hy : 0 ≤ y) (hq : ((2 ^ (min y.toNat k.bits) : Nat) : Int) = q) (h : K ⟨(dd, .val (.int k (x / q))) :: e, L, H⟩) : zb8 dd K ⟨e, L, H⟩ (some (0 ≤ y, .int k (x.fdiv (2 ^ (min y.toNat k.bits))))) := by
  have e1 : ((2 : Int) ^ (min y.toNat k.bits)) = q := by rw [← hq]; simp
  rw [e1]
  have h0 : 0 ≤ q := by rw [← hq]; exact Int.natCast_nonneg _
  have : x.fdiv q = x / q := by rw [Int.fdiv_eq_ediv_of_nonneg _ h0]
  rw [this]; exact ⟨hy, h⟩
theorem zgq {k : IntKind} {x y : Int} (hx : 0 ≤ x) (hy : y ≠ 0) (h : K ⟨(dd, .val (.int k (x % y))) :: e, L, H⟩) : zb8 dd K ⟨e, L, H⟩ (some (y ≠ 0, .int k (x.tmod y))) := by
  rw [Int.tmod_eq_emod_of_nonneg hx]; exact ⟨hy, h⟩
theorem zh7 {x y : Int} (hx : 0 ≤ x ∧ x ≤ 9223372036854775807) (hy : 1 ≤ y) (h : K ⟨(dd, .val (.int .i64 (x / y))) :: e, L, H⟩) : zb8 dd K ⟨e, L, H⟩ (some (y ≠ 0, .int .i64 (IntKind.i64.wrap (x.tdiv y)))) :=
  v_c (by omega) (v_q hx hy h)
theorem z3d {x y : Operand} {ts : Array TypeId} {k : IntKind} {a c m : Int} (hx : St.ev ⟨e, L, H⟩ x = .val (.int k a)) (hy : St.ev ⟨e, L, H⟩ y = .val (.int k c)) (hm : max a c = m) (h : K ⟨(dd, .val (.int k m)) :: e, L, H⟩) :
    opX P cfg ⟨some dd, .call { callee := .builtin .max, args := #[x, y], argTypes := ts }, ty, pos, aft, gd⟩ K ⟨e, L, H⟩ := by
  subst hm
  rw [zda P cfg e L H K _ _ _ _ _ _ rfl]
  simp only [za2, List.map_cons, List.map_nil, hx, hy, EV.asI, if_true, zdz]
  exact ⟨trivial, h⟩
theorem z3e {x y : Operand} {ts : Array TypeId} {k : IntKind} {a c m : Int} (hx : St.ev ⟨e, L, H⟩ x = .val (.int k a)) (hy : St.ev ⟨e, L, H⟩ y = .val (.int k c)) (hm : min a c = m) (h : K ⟨(dd, .val (.int k m)) :: e, L, H⟩) :
    opX P cfg ⟨some dd, .call { callee := .builtin .min, args := #[x, y], argTypes := ts }, ty, pos, aft, gd⟩ K ⟨e, L, H⟩ := by
  subst hm
  rw [zda P cfg e L H K _ _ _ _ _ _ rfl]
  simp only [za2, List.map_cons, List.map_nil, hx, hy, EV.asI, if_true, zdz]
  exact ⟨trivial, h⟩
theorem z8t {t : TypeId} {x : Operand} {lo hi : Option Operand} {el z n : Nat} [si : SlI P t el z] {s v' : AV} {l q : Int} (hx : St.ev ⟨e, L, H⟩ x = .val s) (hn : slen s = some n) (hl : zib (St.ev ⟨e, L, H⟩) 0 lo = some l) (hq : zib (St.ev ⟨e, L, H⟩) n hi = some q)
    (hb : 0 ≤ l ∧ l ≤ q ∧ q ≤ n) (hs : z2l z l.toNat q.toNat s = some v') (h : K ⟨(dd, .val v') :: e, L, H⟩) : opX P cfg ⟨some dd, .slice t x lo hi none, ty, pos, aft, gd⟩ K ⟨e, L, H⟩ := by
  rw [zda P cfg e L H K _ _ _ _ _ _ rfl]
  have : zkb P t (.val s) (some l) (fun n => zib (St.ev ⟨e, L, H⟩) n hi) = some (0 ≤ l ∧ l ≤ q ∧ q ≤ n, v') := by
    cases s <;> simp only [slen, Option.some.injEq, reduceCtorEq] at hn <;> subst hn <;> simp only [zkb, si.h, si.z, Option.bind_some, slen, hq, hs, Option.map_some]
  simp only [za2, hx, hl, this, Option.map_some, zdz]
  exact ⟨hb, h⟩
theorem zex {t : TypeId} {x : Operand} {A N N' : List (List AV)} {n i : Nat} {vx : EV} {cs : List AV} (hx : St.ev ⟨e, L, A ++ N⟩ x = vx) (hr : vx.asV.bind AV.cells = some cs) (hesc : cfg.esc = true) (hA : A.length = n) (hi : N.length = i) (hN : N ++ [cs] = N')
    (h : K ⟨(dd, .val (.eptr (.slm (n + i) cs.length 0 1 cs.length) 0)) :: e, L, A ++ N'⟩) : opX P cfg ⟨some dd, .box t x, ty, pos, aft, gd⟩ K ⟨e, L, A ++ N⟩ := by
  subst hx hA hi hN
  simp only [opX, opE, hr, newX, hesc, if_true, zke]
  simpa [List.append_assoc] using h
theorem zki {t : TypeId} {A N N' : List (List AV)} {n i : Nat} {cs : List AV} [z : ZI P t cs] (hesc : cfg.esc = true) (hA : A.length = n) (hi : N.length = i) (hN : N ++ [cs] = N')
    (h : K ⟨(dd, .val (.eptr (.slm (n + i) cs.length 0 1 cs.length) 0)) :: e, L, A ++ N'⟩) : opX P cfg ⟨some dd, .alloc t, ty, pos, aft, gd⟩ K ⟨e, L, A ++ N⟩ := by
  subst hA hi hN
  simp only [opX, opE, z.h, newX, hesc, if_true, zke]
  simpa [List.append_assoc] using h
def rK (P : Program) (rs : List ResultVar) (acc : List AV) (k : List AV → Prop) (st : St) : Prop := ∃ vs, (rs.map (resV P st)).mapM id = some vs ∧ k (acc ++ vs)
theorem zai {acc : List AV} {k : List AV → Prop} (h : k acc) : rK P [] acc k ⟨e, L, H⟩ := ⟨[], rfl, by simpa using h⟩
theorem znh {r : ResultVar} {rs : List ResultVar} {acc : List AV} {k : List AV → Prop} {v : AV} (hr : resV P ⟨e, L, H⟩ r = some v) (h : rK P rs (acc ++ [v]) k ⟨e, L, H⟩) : rK P (r :: rs) acc k ⟨e, L, H⟩ := by
  obtain ⟨vs, h1, h2⟩ := h
  refine ⟨v :: vs, ?_, by simpa using h2⟩
  simp only [List.map_cons, List.mapM_cons, hr, id_eq, Option.bind_eq_bind, Option.bind_some, h1]; rfl
theorem z5x {t : Nat} {rs : List ResultVar} {acc : List AV} {k : List AV → Prop} {v : AV} (hv : St.ev ⟨e, L, H⟩ (.tmp t) = .val v) (h : rK P rs (acc ++ [v]) k ⟨e, L, H⟩) : rK P (.tmp t :: rs) acc k ⟨e, L, H⟩ :=
  znh (by simp [resV, hv, EV.asV]) h
theorem zwf {x t n : Nat} {rs : List ResultVar} {acc : List AV} {k : List AV → Prop} [ti : TyI P t n true] {key off : Nat} {cs l : List AV} (hx : St.ev ⟨e, L, H⟩ (.tmp x) = .loc key off) (hc : lk L key = some cs) (hl : gc cs off n = some l) (h : rK P rs (acc ++ [.agg l]) k ⟨e, L, H⟩) :
    rK P (.cell x t :: rs) acc k ⟨e, L, H⟩ :=
  znh (by simp [resV, za2, hx, hc, ti.sz, hl, ldv, ti.kind]) h
theorem zwe {x t : Nat} {rs : List ResultVar} {acc : List AV} {k : List AV → Prop} [ti : TyI P t 1 false] {key off : Nat} {cs : List AV} {v : AV} (hx : St.ev ⟨e, L, H⟩ (.tmp x) = .loc key off) (hc : lk L key = some cs) (hl : cs[off]? = some v) (h : rK P rs (acc ++ [v]) k ⟨e, L, H⟩) :
    rK P (.cell x t :: rs) acc k ⟨e, L, H⟩ :=
  znh (by simp [resV, za2, hx, hc, ti.sz, zl1 hl, ldv, ti.kind]) h
def zeq (H₀ : List (List AV)) (r : AV) (H' : List (List AV)) (H : List (List AV)) (vs : List AV) : Prop :=
  ∃ keep : List Nat, keep.Nodup ∧ (∀ k ∈ keep, H₀.length ≤ k ∧ ∃ cs, H[k]? = some cs ∧ mxL cs ≤ H₀.length) ∧ frH H₀.length keep H = H' ∧ Fr H₀.length keep H (zaf vs) r
theorem z3g {fn : Func} {H₀ H' : List (List AV)} {r : AV} {x : XE} {rs : List ResultVar} (hx : x = .ret ∨ x = .normal) (hf : fn.results.toList = rs) (h : rK P rs [] (zeq H₀ r H' H) ⟨e, L, H⟩) : zd4 P fn H₀ r H' x ⟨e, L, H⟩ := by
  obtain ⟨vs, h1, keep, h2, h3, h4, h5⟩ := h
  subst hf
  exact ⟨by rcases hx with rfl | rfl <;> trivial, vs, keep, h1, h2, h3, h4, by simpa using h5⟩
section
variable {H₀ A N : List (List AV)} {n : Nat}
theorem zal {r : AV} {vs : List AV} (hA : A.length = H₀.length) (hm : mx (zaf vs) ≤ H₀.length) (hr : zaf vs = r) : zeq H₀ r A (A ++ N) vs := by
  subst hr
  exact ⟨[], List.nodup_nil, by simp, by simp [frH, ← hA], Fr.old hm⟩
theorem zb5 {r : AV} {vs : List AV} (hA : A.length = H₀.length) (hr : Fr H₀.length [] (A ++ N) (zaf vs) r) : zeq H₀ r A (A ++ N) vs :=
  ⟨[], List.nodup_nil, by simp, by simp [frH, ← hA], hr⟩
theorem zgc {r : AV} {vs cs : List AV} {j : Nat} (hA : A.length = H₀.length) (hj : N[j]? = some cs) (hm : mxL cs ≤ H₀.length) (hr : Fr H₀.length [H₀.length + j] (A ++ N) (zaf vs) r) : zeq H₀ r (A ++ [cs]) (A ++ N) vs := by
  have hg := za9 (A := A) hA hj
  refine ⟨[H₀.length + j], by simp, ?_, ?_, hr⟩
  · intro k hk
    simp only [List.mem_singleton] at hk; subst hk
    exact ⟨by omega, cs, hg, hm⟩
  · simp [frH, ← hA, hg]
    rw [← hA] at hg; simp [hg]
end
theorem zbk.app {A N N' : List (List AV)} {n : Nat} (h : n ≤ A.length) : zbk n (A ++ N) (A ++ N') := by
  intro id cs hid hc
  rw [List.getElem?_append_left (by omega)] at hc ⊢
  exact .inl hc
theorem zbk.set {A N N' : List (List AV)} {n i : Nat} {cs : List AV} (h : n ≤ A.length) (hm : mxL cs ≤ n) : zbk n (A ++ N) (A.set i cs ++ N') := by
  intro id cs' hid hc
  rw [List.getElem?_append_left (by simp; omega)] at hc
  rw [List.getElem?_append_left (by omega)]
  rw [List.getElem?_set] at hc
  split at hc
  · split at hc
    · simp at hc; subst hc; exact .inr hm
    · simp at hc
  · exact .inl hc
end
section
variable {P : Program} {cfg : Cfg} {dr : Array Oper → (St → Prop) → St → Prop} {Q : XE → St → Prop} {K : St → Prop} {st : St}
theorem zav {ops : Array Oper} {kn : Option (Nat × Bool)} {l : List Oper} (h : za3 P cfg ops kn l K st) : za3 P cfg ops kn l K st := h
theorem zaw {o : Oper} (h : opX P cfg o K st) : opX P cfg o K st := h
theorem zch {ops : Array Oper} {nY : NY} {kn : Option (Nat × Bool)} {l : List (Nat × DFl)} (h : exD P cfg ops nY kn l K st) : exD P cfg ops nY kn l K st := h
theorem zcg {f : DFl} {nY : NY} {o : Oper} {s : St} (h : ckK f nY o st K s) : ckK f nY o st K s := h
theorem zax {c : Code} (h : Ex P cfg dr c Q st) : Ex P cfg dr c Q st := h
theorem qcv {fn : Func} {H₀ H' : List (List AV)} {r : AV} {x : XE} (h : zd4 P fn H₀ r H' x st) : zd4 P fn H₀ r H' x st := h
theorem za5 {id dd : Nat} {vs : List AV} (h : zb4 P cfg id vs dd K st) : zb4 P cfg id vs dd K st := h
theorem qcx {y : Code} {x : XE} (h : zca P cfg dr y Q x st) : zca P cfg dr y Q x st := h
theorem qct {i : Nat} {x : XE} (h : zd3 i Q x st) : zd3 i Q x st := h
theorem qcu {x : XE} (h : lpX K Q x st) : lpX K Q x st := h
theorem qcw {rs : List ResultVar} {acc : List AV} {k : List AV → Prop} (h : rK P rs acc k st) : rK P rs acc k st := h
end
theorem zll {w : World} {g : Gh} {x : Nat} {rest : List AV} {vs : List Value} (h : zbq w g (.flt x :: rest) vs) : ∃ b, b < 2 ^ 64 ∧ cn b = x ∧ zbq w g (.fraw b :: rest) vs := by
  simp only [zbq] at h
  obtain ⟨v, r, rfl, h1, h2⟩ := h
  simp only [zay] at h1
  obtain ⟨b, rfl, h3, h4⟩ := h1
  exact ⟨b, h3, h4, by simp only [zbq]; exact ⟨_, _, rfl, by simp only [zay]; exact ⟨trivial, h3⟩, h2⟩⟩
theorem Spec.raw1 {P : Program} {f : Nat} {x : Nat} {rest : List AV} {H H' : List (List AV)} {r : AV} (h : ∀ b, b < 2 ^ 64 → cn b = x → Spec P f (.fraw b :: rest) H r H') : Spec P f (.flt x :: rest) H r H' := by
  intro w g cargs hw hl
  obtain ⟨b, h1, h2, h3⟩ := zll hl
  exact h b h1 h2 w g cargs hw h3
theorem Spec.raw2 {P : Program} {f : Nat} {x y : Nat} {rest : List AV} {H H' : List (List AV)} {r : AV} (h : ∀ b c, b < 2 ^ 64 → cn b = x → c < 2 ^ 64 → cn c = y → Spec P f (.fraw b :: .fraw c :: rest) H r H') : Spec P f (.flt x :: .flt y :: rest) H r H' := by
  intro w g cargs hw hl
  simp only [zbq] at hl
  obtain ⟨v, r', hv, h1, u, r'', rfl, h2, h3⟩ := hl
  simp only [zay] at h1 h2
  obtain ⟨b, rfl, h4, h5⟩ := h1
  obtain ⟨c, rfl, h6, h7⟩ := h2
  refine h b c h4 h5 h6 h7 w g cargs hw ?_
  rw [hv]
  simp only [zbq, zay]
  exact ⟨_, _, rfl, ⟨rfl, h4⟩, _, _, rfl, ⟨rfl, h6⟩, h3⟩
theorem Spec.intro' {P : Program} {f : Nat} {fn : Func} {body : Code} {args : List AV} {H H' : List (List AV)} {r : AV} (hf : P.funcs[f]? = some fn) (hb : fn.body = some body)
    (hd : zdg fn.ntmps body = true) (hn : args.length ≤ fn.ntmps) (esc : Bool) (fz : List Nat) {draw : Array Oper → (St → Prop) → St → Prop} (hdr : ∀ C : Cx, C.P = P → C.cfg = ⟨esc, H.length, fz⟩ → zgd C draw)
    (h : Ex P ⟨esc, H.length, fz⟩ draw body (zd4 P fn H r H') ⟨za0 0 args, [], H ++ []⟩) : Spec P f args H r H' :=
  Spec.intro hf hb hd hn esc fz hdr (by rw [List.append_nil] at h; exact h)
section
variable {P : Program} {cfg : Cfg} {dr : Array Oper → (St → Prop) → St → Prop} {e : List (Nat × EV)} {L : List (Nat × List AV)} {H : List (List AV)} {Q : XE → St → Prop} {K : St → Prop}
variable {kn : Option (Nat × Bool)} {ops : Array Oper} {d : Option Tmp} {o : Op} {ty : TypeId} {pos : String} {aft : Array Edge} {rest : List Oper} {j : Nat} {b want : Bool} {gd : Option (Nat × Bool)} {dd : Nat}
theorem zbz {t el : TypeId} {x y : Operand} [si : SlI P t el 1] {s : AV} {k : IntKind} {n : Nat} {len : Nat} (hx : St.ev ⟨e, L, H⟩ x = .val s) (hy : St.ev ⟨e, L, H⟩ y = .val (.int k (n : Int))) (hl : slen s = some len) (hi : n < len)
    (h : K ⟨(dd, .val (.eptr s n)) :: e, L, H⟩) : opX P cfg ⟨some dd, .indexAddr t x y, ty, pos, aft, gd⟩ K ⟨e, L, H⟩ :=
  z7q hx hy hl rfl hi (by simpa using h)
theorem zy6 {t el : TypeId} {x y : Operand} [si : SlI P t el 1] {s : AV} {k : IntKind} {i : Int} {len : Nat} (hx : St.ev ⟨e, L, H⟩ x = .val s) (hy : St.ev ⟨e, L, H⟩ y = .val (.int k i)) (hl : slen s = some len) (hi : 0 ≤ i ∧ i < len)
    (h : K ⟨(dd, .val (.eptr s i.toNat)) :: e, L, H⟩) : opX P cfg ⟨some dd, .indexAddr t x y, ty, pos, aft, gd⟩ K ⟨e, L, H⟩ :=
  z7q (i := i.toNat) hx hy hl (by omega) (by omega) (by simpa using h)
theorem zdy {t : TypeId} {D : AV} {k : Nat} {l : List Nat} [i : TyI P t 1 false] (hF : FL H D l) (hk : k < l.length) (h : K ⟨(dd, .val (.flt (l.getD k 0))) :: e, L, H⟩) : zbu P t dd K ⟨e, L, H⟩ (.val (.eptr D k)) :=
  zl8 (hF.rd hk) h
structure IL (H : List (List AV)) (D : AV) (l : List Int) : Prop where
  len : slen D = some l.length
  all : D ≠ .slnil → zc6 H D 0 l.length = some (il l)
  one : ∀ id g o n z, D = .slm id g o n z → z = 1
theorem IL.nil (H : List (List AV)) : IL H .slnil [] := ⟨rfl, fun h => absurd rfl h, by simp⟩
theorem IL.fz (H : List (List AV)) (tag : Option (Nat × Nat)) (l : List Int) : IL H (.sl tag l.length (il l)) l :=
  ⟨rfl, fun _ => by simp only [zc6]; exact ze9 _ (by simp), by simp⟩
theorem IL.slm {H : List (List AV)} {id off n g : Nat} {l m : List Int} (h : H[id]? = some (il m)) (hg : g = m.length) (hn : off + n ≤ m.length) (hl : l = (m.drop off).take n) : IL H (.slm id g off n 1) l := by
  subst hl hg
  have e : ((m.drop off).take n).length = n := by simp; omega
  refine ⟨by simp [slen, e], fun _ => ?_, by simp; omega⟩
  simp only [zc6, h, Option.bind_some, zgi, if_true, e, Nat.add_zero]
  rw [zkv _ _ _ (by simpa using hn)]
  simp [il, List.map_drop, List.map_take]
theorem IL.rd {H : List (List AV)} {D : AV} {l : List Int} (h : IL H D l) {k : Nat} (hk : k < l.length) : zc6 H D k 1 = some [.int .i64 (l.getD k 0)] := by
  have hD : D ≠ .slnil := by rintro rfl; have := h.len; simp [slen] at this; omega
  have h1 := h.all hD
  cases D <;> simp only [zc6, reduceCtorEq] at h1 ⊢
  · have := zod h1 (zxu hk); simpa using this
  · rename_i id gen o len sz
    cases hi : H[id]? with
    | none => rw [hi] at h1; simp at h1
    | some cs =>
      rw [hi] at h1
      simp only [Option.bind_some] at h1 ⊢
      split at h1
      · rename_i hg; rw [if_pos hg]
        have := zod h1 (zxu hk); simpa using this
      · simp at h1
theorem zxy {t : TypeId} {D : AV} {k : Nat} {l : List Int} [i : TyI P t 1 false] (hF : IL H D l) (hk : k < l.length) (h : K ⟨(dd, .val (.int .i64 (l.getD k 0))) :: e, L, H⟩) : zbu P t dd K ⟨e, L, H⟩ (.val (.eptr D k)) :=
  zl8 (hF.rd hk) h
theorem IL.app {H : List (List AV)} {D : AV} {l : List Int} (h : IL H D l) (N : List (List AV)) : IL (H ++ N) D l := by
  refine ⟨h.len, fun hD => ?_, h.one⟩
  have h1 := h.all hD
  cases D <;> simp only [zc6] at h1 ⊢ <;> try exact h1
  rename_i id gen o len sz
  cases hi : H[id]? with
  | none => rw [hi] at h1; simp at h1
  | some cs =>
    rw [hi] at h1
    rw [List.getElem?_append_left (List.getElem?_eq_some_iff.1 hi).1, hi]; exact h1
theorem zy9 {t : TypeId} {x v : Operand} {id gen o' len sz off : Nat} {m m' : List Nat} {f : Nat} [ti : TyI P t 1 false] {A N : List (List AV)} (hx : St.ev ⟨e, L, A ++ N⟩ x = .val (.eptr (.slm id gen o' len sz) off)) (hv : St.ev ⟨e, L, A ++ N⟩ v = .val (.flt f)) (hc : A[id]? = some (fl m))
    (hg : m.length = gen) (hle : o' + off < m.length) (hm : m.set (o' + off) f = m') (h : K ⟨e, L, A.set id (fl m') ++ N⟩) : opX P cfg ⟨none, .store t x v, ty, pos, aft, gd⟩ K ⟨e, L, A ++ N⟩ := by
  subst hm
  refine zq8 hx hv rfl rfl (zdw hc) (by simpa using hg) (by simp; omega) (.inr (by simp [mxL, mx])) rfl ?_
  rw [zo8, zxr, zdl (List.getElem?_eq_some_iff.1 hc).1]; exact h
theorem zh4 {t : TypeId} {x v : Operand} {n i gen o' len sz off : Nat} {m m' : List Nat} {f : Nat} [ti : TyI P t 1 false] {A N N' : List (List AV)} (hx : St.ev ⟨e, L, A ++ N⟩ x = .val (.eptr (.slm (n + i) gen o' len sz) off)) (hv : St.ev ⟨e, L, A ++ N⟩ v = .val (.flt f)) (hA : A.length = n) (hc : N[i]? = some (fl m))
    (hg : m.length = gen) (hle : o' + off < m.length) (hm : m.set (o' + off) f = m') (hN : N.set i (fl m') = N') (h : K ⟨e, L, A ++ N'⟩) : opX P cfg ⟨none, .store t x v, ty, pos, aft, gd⟩ K ⟨e, L, A ++ N⟩ := by
  subst hm
  refine zq8 hx hv rfl rfl (za9 hA hc) (by simpa using hg) (by simp; omega) (.inr (by simp [mxL, mx])) rfl ?_
  rw [zo8, zxr, zi2 hA hN]; exact h
theorem zfp {t tx : TypeId} {s x : Operand} {n i g g' q len by_ el' z' : Nat} {z : AV} {xs cs cs' : List AV} {A N N' : List (List AV)} [ei : EI P t 1 by_ [z]] [si : SlI P tx el' z'] {vx : AV} {m : Nat} (hs : St.ev ⟨e, L, A ++ N⟩ s = .val (.slm (n + i) g 0 len 1)) (hx : St.ev ⟨e, L, A ++ N⟩ x = .val vx) (hA : A.length = n) (hc : N[i]? = some cs) (hsrc : zkc (A ++ N) 1 vx = some (m, xs))
    (hg : cs.length = g) (hl : len = g) (hm : len + m ≤ 2 ^ 32) (hmx : cfg.n0 ≤ n ∨ mxL xs ≤ cfg.n0) (hz : (decide (by_ ≤ 2 ^ 10) && decide (0 < by_)) = true) (hcs : cs ++ xs = cs') (hN : N.set i cs' = N') (hg' : cs.length + xs.length = g') (hq : len + m = q)
    (h : K ⟨(dd, .val (.slm (n + i) g' 0 q 1)) :: e, L, A ++ N'⟩) :
    opX P cfg ⟨some dd, .call { callee := .builtin .append, args := #[s, x], argTypes := #[t, tx] }, ty, pos, aft, gd⟩ K ⟨e, L, A ++ N⟩ := by
  subst hcs hg' hq hl
  refine zxb hs hx hsrc (za9 hA hc) hg (by omega) hm (by rcases hmx with h | h; exact .inl (by omega); exact .inr h) (by simpa using hz) ?_
  rw [zi2 hA hN]; exact h
theorem zxc {t tx : TypeId} {s x : Operand} {n i by_ el' z' g : Nat} {z : AV} {xs : List AV} {A N N' : List (List AV)} [ei : EI P t 1 by_ [z]] [si : SlI P tx el' z'] {vx : AV} {m : Nat} (hs : St.ev ⟨e, L, A ++ N⟩ s = .val .slnil) (hx : St.ev ⟨e, L, A ++ N⟩ x = .val vx) (hsrc : zkc (A ++ N) 1 vx = some (m, xs)) (hm : 0 < m ∧ m ≤ 2 ^ 32)
    (hA : A.length = n) (hi : N.length = i) (hz : (decide (by_ ≤ 2 ^ 10) && decide (0 < by_)) = true) (hN : N ++ [xs] = N') (hg : xs.length = g) (h : K ⟨(dd, .val (.slm (n + i) g 0 m 1)) :: e, L, A ++ N'⟩) :
    opX P cfg ⟨some dd, .call { callee := .builtin .append, args := #[s, x], argTypes := #[t, tx] }, ty, pos, aft, gd⟩ K ⟨e, L, A ++ N⟩ := by
  subst hN hg hA hi
  refine z2x hs hx hsrc hm (by simpa using hz) ?_
  simpa [List.append_assoc] using h
theorem zjh {A N : List (List AV)} {D : AV} {l : List Nat} (h : FL A D l) : zkc (A ++ N) 1 D = some (l.length, fl l) := z6s (h.app N)
end
theorem z9y {nY : NY} {K : St → Prop} {d : Option Tmp} {ty : TypeId} {pos : String} {aft : Array Edge} {gd : Option (Nat × Bool)} {t : TypeId} {x : Operand} {st s : St} {v : AV} (hv : St.ev st x = .val v) (h : K s) : ckK (.ld true) nY ⟨d, .load t x, ty, pos, aft, gd⟩ st K s := by
  refine k_ld hv ?_ h
  unfold z4l
  split <;> first | rfl | (rename_i he; cases he)
theorem zjz : ∀ (la lb : List Nat), ∃ N, N ≤ la.length ∧ (∀ k, k < N → la.getD k 0 = lb.getD k 0) ∧ (N < la.length → la.getD N 0 ≠ lb.getD N 0)
  | [], lb => ⟨0, Nat.le_refl _, by simp, by simp⟩
  | a :: la, lb => by
    by_cases h : a = lb.getD 0 0
    · obtain ⟨N, h1, h2, h3⟩ := zjz la (lb.drop 1)
      have e : ∀ k, (lb.drop 1).getD k 0 = lb.getD (k + 1) 0 := fun k => by simp [List.getD, Nat.add_comm]
      refine ⟨N + 1, by simp; omega, fun k hk => ?_, fun hN => ?_⟩
      · cases k with
        | zero => simpa using h
        | succ k => rw [← e]; simpa using h2 k (by omega)
      · rw [← e]; simpa using h3 (by simpa using hN)
    · exact ⟨0, Nat.zero_le _, by simp, fun _ => by simpa using h⟩
theorem zp1 {la lb : List Nat} (hl : la.length = lb.length) (h : ∀ k, k < la.length → la.getD k 0 = lb.getD k 0) : la = lb := by
  apply List.ext_getElem hl
  intro i h1 h2
  have := h i h1
  simpa [List.getD, h1, h2] using this
abbrev mt (D : AV) (off rows cols ld : Int) : AV := .agg [D, .int .i64 off, .int .i64 rows, .int .i64 cols, .int .i64 ld]
structure MI (n : Nat) (off rows cols ld : Int) : Prop where
  n : n ≤ 9223372036854775807
  o1 : -9223372036854775808 ≤ off
  o2 : off ≤ 9223372036854775807
  r1 : -9223372036854775808 ≤ rows
  r2 : rows ≤ 9223372036854775807
  c1 : -9223372036854775808 ≤ cols
  c2 : cols ≤ 9223372036854775807
  l1 : -9223372036854775808 ≤ ld
  l2 : ld ≤ 9223372036854775807
def zaz (n : Nat) (off rows cols ld : Int) : Prop := 0 ≤ rows ∧ 0 ≤ cols ∧ 0 ≤ off ∧ 1 ≤ ld ∧ rows ≤ ld ∧ (rows = 0 ∨ cols = 0 ∨ (off < n ∧ rows - 1 < n - off ∧ (cols - 1) * ld ≤ n - 1 - off - (rows - 1)))
instance (n : Nat) (off rows cols ld : Int) : Decidable (zaz n off rows cols ld) := by unfold zaz; infer_instance
def zh3 (n : Nat) (off rows cols ld : Int) : Prop := zaz n off rows cols ld ∧ rows ≠ 0 ∧ cols ≠ 0
instance (n : Nat) (off rows cols ld : Int) : Decidable (zh3 n off rows cols ld) := by unfold zh3; infer_instance
def sF (n : Nat) (off rows cols ld : Int) : Int := if zh3 n off rows cols ld then off else 0
def sT (n : Nat) (off rows cols ld : Int) : Int := if zh3 n off rows cols ld then off + (cols - 1) * ld + rows - 1 else 0
theorem zlb {n : Nat} {off rows cols ld : Int} (h : zh3 n off rows cols ld) : 0 < n := by
  obtain ⟨⟨h1, h2, h3, h4, h5, h6⟩, h7, h8⟩ := h
  omega
def zhr (n : Nat) (off rows cols ld i j : Int) : Prop := zaz n off rows cols ld ∧ 0 ≤ i ∧ 0 ≤ j ∧ i < rows ∧ j < cols
instance (n : Nat) (off rows cols ld i j : Int) : Decidable (zhr n off rows cols ld i j) := by unfold zhr; infer_instance
def plV (n : Nat) (off rows cols ld i j : Int) : Int := if zhr n off rows cols ld i j then off + i + j * ld else -1
theorem zck {n : Nat} {off rows cols ld i j : Int} (h : zaz n off rows cols ld) (hi : 0 ≤ i) (hj : 0 ≤ j) (hi' : i < rows) (hj' : j < cols) : 0 ≤ j * ld ∧ 0 ≤ off + i + j * ld ∧ off + i + j * ld < n ∧ j * ld ≤ (cols - 1) * ld ∧ 0 ≤ off ∧ 1 ≤ ld := by
  obtain ⟨h1, h2, h3, h4, h5, h6⟩ := h
  have h7 : j * ld ≤ (cols - 1) * ld := Int.mul_le_mul_of_nonneg_right (by omega) (by omega)
  have h8 : 0 ≤ j * ld := Int.mul_nonneg hj (by omega)
  refine ⟨h8, by omega, ?_, h7, h3, h4⟩
  rcases h6 with h6 | h6 | h6 <;> omega
theorem qaf {n : Nat} {off rows cols ld i j : Int} (h : 0 ≤ plV n off rows cols ld i j) : plV n off rows cols ld i j < n := by
  unfold plV at h ⊢
  split
  · rename_i hp; obtain ⟨h1, h2, h3, h4, h5⟩ := hp; exact (zck h1 h2 h3 h4 h5).2.2.1
  · rename_i hp; simp only [hp, if_false] at h; omega
section
variable {e : List (Nat × EV)} {L : List (Nat × List AV)} {H : List (List AV)} {K : St → Prop} {dd : Nat}
theorem zul {x y : Nat} (hb : x + y ≤ 9223372036854775807) (h : K ⟨(dd, .val (.int .i64 ((x + y : Nat) : Int))) :: e, L, H⟩) : zb8 dd K ⟨e, L, H⟩ (some (True, .int .i64 (IntKind.i64.wrap ((x : Int) + (y : Int))))) :=
  v_w (by omega) (by simpa using h)
theorem zum {x y : Nat} (hb : x * y ≤ 9223372036854775807) (h : K ⟨(dd, .val (.int .i64 ((x * y : Nat) : Int))) :: e, L, H⟩) : zb8 dd K ⟨e, L, H⟩ (some (True, .int .i64 (IntKind.i64.wrap ((x : Int) * (y : Int))))) := by
  have e1 : ((x : Int) * (y : Int)) = ((x * y : Nat) : Int) := by simp
  rw [e1]
  exact v_w (by omega) h
end
section
variable {P : Program} {cfg : Cfg} {e : List (Nat × EV)} {L : List (Nat × List AV)} {H : List (List AV)} {K : St → Prop} {ty : TypeId} {pos : String} {aft : Array Edge} {gd : Option (Nat × Bool)} {dd : Nat}
theorem z2z {t t' : TypeId} [u : UI P t .bool] {x y : Operand} {p q : Bool} (hx : St.ev ⟨e, L, H⟩ x = .val (.bool p)) (hy : St.ev ⟨e, L, H⟩ y = .val (.bool q)) (h : zb8 dd K ⟨e, L, H⟩ (some (True, .bool (p == q)))) :
    opX P cfg ⟨some dd, .binOp .eql t x y t', ty, pos, aft, gd⟩ K ⟨e, L, H⟩ := by
  refine zu3 hx hy (r := some (True, .bool (p == q))) ?_ h
  simp only [znw, u.h]
theorem zy0 {t t' : TypeId} [u : UI P t .bool] {x y : Operand} {p q : Bool} (hx : St.ev ⟨e, L, H⟩ x = .val (.bool p)) (hy : St.ev ⟨e, L, H⟩ y = .val (.bool q)) (h : zb8 dd K ⟨e, L, H⟩ (some (True, .bool (p != q)))) :
    opX P cfg ⟨some dd, .binOp .neq t x y t', ty, pos, aft, gd⟩ K ⟨e, L, H⟩ := by
  refine zu3 hx hy (r := some (True, .bool (p != q))) ?_ h
  simp only [znw, u.h]
theorem zb3 {x y : Bool} (h : x = y) (hk : K ⟨(dd, .val (.bool true)) :: e, L, H⟩) : zb8 dd K ⟨e, L, H⟩ (some (True, .bool (x == y))) := by
  subst h; simp only [beq_self_eq_true]; exact ⟨trivial, hk⟩
end
theorem z90 {q : Bool} {nY : NY} {o : Oper} {e e' : List (Nat × EV)} {L : List (Nat × List AV)} {A N N' M : List (List AV)} {K : St → Prop} (hN : N ++ M = N') (h : K ⟨e', L, A ++ N'⟩) : ckK (.mn q) nY o ⟨e, L, A ++ N⟩ K ⟨e', L, A ++ N'⟩ := by
  subst hN
  rw [← List.append_assoc] at h ⊢
  exact z9z h
theorem z5o {n : Nat} {off rows cols ld i j : Int} (h : zhr n off rows cols ld i j) : plV n off rows cols ld i j = off + i + j * ld ∧ 0 ≤ plV n off rows cols ld i j := by
  have h1 : plV n off rows cols ld i j = off + i + j * ld := by rw [plV, if_pos h]
  obtain ⟨h2, h3, h4, h5, h6⟩ := h
  exact ⟨h1, by rw [h1]; exact (zck h2 h3 h4 h5 h6).2.1⟩
def aD (p : Nat × Nat) (l : List Nat) : AV := .sl (if l = [] then none else some p) l.length (fl l)
theorem zce (H : List (List AV)) (p : Nat × Nat) (l : List Nat) : FL H (aD p l) l := FL.fz H _ l
theorem zcd (p : Nat × Nat) (l : List Nat) : slen (aD p l) = some l.length := rfl
theorem set_self {α : Type} {l : List α} {i : Nat} {a : α} (h : l[i]? = some a) : l.set i a = l := by
  apply List.ext_getElem?
  intro j
  rw [List.getElem?_set]
  split
  · rename_i hj; subst hj; split
    · exact h.symm
    · rename_i hl; have := (List.getElem?_eq_some_iff.1 h).1; omega
  · rfl
theorem zvp {e : List (Nat × EV)} {L : List (Nat × List AV)} {H : List (List AV)} {b : Nat} {xs : List Operand} {acc : List AV} {k : List AV → Prop} (hb : (decide (b < 2 ^ 64) && !isNaN b) = true) (h : gK xs (acc ++ [.flt b]) k ⟨e, L, H⟩) : gK (.const (.float .f64 b) :: xs) acc k ⟨e, L, H⟩ := by
  simp only [Bool.and_eq_true, decide_eq_true_eq, Bool.not_eq_true'] at hb
  refine zsc (v := .flt b) ?_ h
  have : aOf (.float .f64 b) = .flt b := by
    show zbn (.float .f64 b) = .flt b
    simp only [zbn, hb.1, if_true, cn, hb.2, Bool.false_eq_true, if_false]
  show EV.val (aOf (.float .f64 b)) = _
  rw [this]
theorem zbc {e : List (Nat × EV)} {L : List (Nat × List AV)} {H : List (List AV)} {acc acc' : List AV} {k : List AV → Prop} (ha : acc = acc') (h : k acc') : gK [] acc k ⟨e, L, H⟩ := by
  subst ha; exact zbt h
theorem FL.blk {A N : List (List AV)} {n j g q : Nat} {l : List Nat} (hA : A.length = n) (hj : N[j]? = some (fl l)) (hg : g = l.length) (hq : q = l.length) : FL (A ++ N) (.slm (n + j) g 0 q 1) l :=
  FL.slm (za9 hA hj) hg (by omega) (by subst hq; simp)
theorem FL.old {H : List (List AV)} {id g q : Nat} {l : List Nat} (hj : H[id]? = some (fl l)) (hg : g = l.length) (hq : q = l.length) : FL H (.slm id g 0 q 1) l :=
  FL.slm hj hg (by omega) (by subst hq; simp)
end Go.Sx
set_option linter.unusedVariables false
set_option linter.unusedSimpArgs false
namespace Go.Sx
open Go.ChangeShapes Go.WideShapes Go.ChangeAt Go.RowKit Go.Deep
def g0 (W : World) : Gh := ⟨fun _ _ => none, fun b => b < W.heap.size⟩
theorem qbj (W : World) : WRep W (g0 W) [] := ⟨fun id cs h => by simp at h, fun id id' cs cs' b δ δ' h => by simp at h, fun b h => h, fun id gen b δ h => by simp [g0] at h, fun id gen p h => by simp [g0] at h⟩
structure Stays (W W' : World) : Prop where
  kept : W.keptBut W' (fun _ => False)
  fro : ∀ a : Addr, a.block < W.heap.size → W'.frozen? a = W.frozen? a
  heap : ∀ b, b < W.heap.size → W'.heap[b]? = W.heap[b]?
theorem zz7 {P : Program} {f : Nat} {args : List AV} {cargs : Array Value} {W : World} (hs : Spec P f args [] (.bool true) []) (hl : zbq W (g0 W) args cargs.toList) :
    Calls P f cargs W fun e W' => e = .returned (.bool true) ∧ Stays W W' := by
  refine (hs W (g0 W) cargs (qbj W) hl).mono fun e W' h => ?_
  obtain ⟨v, g', h1, h2, h3, h4⟩ := h
  simp only [zay] at h4
  subst h4
  have hb : ∀ b, b < W.heap.size → W'.heap[b]? = W.heap[b]? := fun b hb => h3.keep b hb (by rintro ⟨id, cs, δ, hc, _⟩; simp at hc)
  refine ⟨h1, ⟨h3.same.1, h3.same.2.1, fun i hi => ?_⟩, h3.fro, hb⟩
  rw [hb i hi]
  exact (World.keptBut_refl W (fun _ => False)).2.2 i hi
section
variable {H : Type} {enc : TypeId × Value → H} {P : Program} {W : World} {base : Nat}
theorem zpc {t : TypeId} {n : Nat} {v : Value} {spare : Nat → Bool} {held : Bool} {x : DataW H × List MemPlace} (ht : P.underlying t = some (.float .f64)) (h : DataW.trod enc P W base spare held n t [v] = some x) : ∃ b, v = .float .f64 b ∧ b < 2 ^ 64 := by
  cases n with
  | zero => simp [DataW.trod] at h
  | succ n =>
    unfold DataW.trod at h
    rw [ht] at h
    split at h <;> simp_all
    subst_vars
    obtain ⟨⟨_, h1⟩, _⟩ := h
    simpa [Lit.wf] using h1
theorem zna {t e : TypeId} {n : Nat} {X : Value} {x : DataW H × List MemPlace} (ht : P.underlying t = some (.slice e)) (he : P.underlying e = some (.float .f64)) (hc : P.cellsOf e = 1) (h : DataW.trod enc P W base (fun _ => true) true n t [X] = some x) :
    ∃ p l, l.length ≤ 9223372036854775807 ∧ zay W (g0 W) (aD p l) X := by
  rcases open_slice1 ht hc h with ⟨h1, _⟩ | ⟨a, len, cap, m, k, V, D, Pl, h1, hb, hl, hm, hmm, _, hx⟩
  · simp only [List.cons.injEq, and_true] at h1
    subst h1
    exact ⟨(0, 0), [], by simp, by simp only [aD, if_true, zay]; exact ⟨0, Nat.le_refl _, .inl (by simp [fl])⟩⟩
  · simp only [List.cons.injEq, and_true] at h1
    subst h1
    simp only [if_true] at hmm
    have hf : ∀ i, i < len → ∃ b, V i = .float .f64 b ∧ b < 2 ^ 64 := fun i hi => zpc he (hx i (by omega)).2
    have hbs : ∃ bs : Nat → Nat, ∀ i, i < len → V i = .float .f64 (bs i) ∧ bs i < 2 ^ 64 :=
      ⟨fun i => if h : i < len then (hf i h).choose else 0, fun i hi => by simp only [hi, dif_pos]; exact (hf i hi).choose_spec⟩
    obtain ⟨bs, hbs⟩ := hbs
    have hml : maxLen = 9223372036854775807 := by decide
    refine ⟨(a.block, a.off), (List.range len).map fun i => cn (bs i), by simp; omega, ?_⟩
    by_cases h0 : len = 0
    · subst h0
      simp only [aD, List.range_zero, List.map_nil, if_true, zay, List.length_nil]
      exact ⟨cap, Nat.zero_le _, .inl (by simp [fl])⟩
    · have hc0 := (hx 0 (by omega)).1
      have ha0 : a.add 0 = a := by simp [Addr.add]
      rw [ha0] at hc0
      obtain ⟨_, _, hsh, _, hsp⟩ := World.shape?_of_cell? hc0
      have hae : a = ⟨a.block, a.off, none⟩ := by cases a; simp_all
      have hne : ¬ ((List.range len).map fun i => cn (bs i)) = [] := by simp; omega
      simp only [aD, if_neg hne, zay, List.length_map, List.length_range]
      have hblk : a.block < W.heap.size := by
        unfold World.shape? at hsh
        cases hq : W.heap[a.block]? with
        | none => rw [hq] at hsh; simp at hsh
        | some o => exact (Array.getElem?_eq_some_iff.1 hq).1
      refine ⟨cap, hl, .inr ⟨a.block, a.off, by rw [← hae], .inr rfl, hblk, ?_⟩⟩
      rw [zd2]
      intro i c hi
      have hil : i < len := by
        have := (List.getElem?_eq_some_iff.1 hi).1
        simpa [fl] using this
      have hci := (hx i (by omega)).1
      have had : a.add i = ⟨a.block, a.off + i, none⟩ := by
        rw [hae]; exact Addr.add_mid _ _ _
      rw [had] at hci
      refine ⟨V i, hci, ?_, ?_⟩
      · rw [(hbs i hil).1]; rfl
      · simp [fl, hil] at hi
        subst hi
        simp only [zay]
        exact ⟨bs i, (hbs i hil).1, (hbs i hil).2, rfl⟩
theorem zhb {t : TypeId} {n : Nat} {v : Value} {spare : Nat → Bool} {held : Bool} {x : DataW H × List MemPlace} (ht : P.underlying t = some (.int .i64)) (h : DataW.trod enc P W base spare held n t [v] = some x) : ∃ i, v = .int .i64 i ∧ -9223372036854775808 ≤ i ∧ i ≤ 9223372036854775807 := by
  obtain ⟨i, h1, _, h2⟩ := DataW.trod_int ht h
  simp only [List.cons.injEq, and_true] at h1
  simp only [Lit.wf, IntKind.min, IntKind.max, IntKind.signed, IntKind.bits] at h2
  simp at h2
  exact ⟨i, h1, by omega, by omega⟩
theorem zv8 {t ts tf ti : TypeId} {fs : Array Field} {v : Value} {d : DataW H} {ps : List MemPlace} {r : Reach} {b0 : Nat} (hs : P.underlying t = some (.struct fs)) (hone : oneCellFields P fs = true) (hty : fs.toList.map (·.type) = [ts, ti, ti, ti, ti]) (hC : P.cellsOf t = 5)
    (hts : P.underlying ts = some (.slice tf)) (htf : P.underlying tf = some (.float .f64)) (hcf : P.cellsOf tf = 1) (hti : P.underlying ti = some (.int .i64))
    (hv : Value.okWide P W r b0 t v) (h : DataW.Trod enc P W base (fun _ => true) true t v d ps) :
    ∃ p l off rows cols ld, MI l.length off rows cols ld ∧ zay W (g0 W) (mt (aD p l) off rows cols ld) v := by
  obtain ⟨cs, rfl, hsz⟩ := okWide_struct hs hv
  obtain ⟨fuel, hf⟩ := h
  obtain ⟨xs, n, _, _, hcl, hlen, hg⟩ := DataW.trod_struct hs hf
  have hfl : fs.size = 5 := by have := congrArg List.length hty; simpa using this
  have get : ∀ i (hi : i < 5), ∃ c y, cs[i]? = some c ∧ DataW.trod enc P W base (fun _ => true) true n ((fs[i]'(by omega)).type) [c] = some y := by
    intro i hi
    have hfi : fs[i]? = some (fs[i]'(by omega)) := Array.getElem?_eq_getElem (by omega)
    obtain ⟨h1, h2⟩ := hone_of hone i _ hfi
    have h3 := hg i _ hfi
    rw [h1, h2] at h3
    have hci : i < cs.size := by omega
    have hd : ((Value.agg cs).cells.toList.drop i).take 1 = [cs[i]] := by
      show (cs.toList.drop i).take 1 = _
      rw [List.drop_eq_getElem_cons (by simpa using hci)]
      simp
    have hxi : i < xs.length := by omega
    have h3' : DataW.trod enc P W base (fun _ => true) true n ((fs[i]'(by omega)).type) (((Value.agg cs).cells.toList.drop i).take 1) = xs[i]? := h3
    rw [hd, List.getElem?_eq_getElem hxi] at h3'
    exact ⟨cs[i], _, by simp [hci], h3'⟩
  have hti' : ∀ i (hi : i < 5), (fs[i]'(by omega)).type = [ts, ti, ti, ti, ti][i]'(by simpa using hi) := by
    intro i hi
    have := congrArg (·[i]?) hty
    simp only [List.getElem?_map, Array.getElem?_toList] at this
    rw [Array.getElem?_eq_getElem (by omega)] at this
    rw [List.getElem?_eq_getElem (by simpa using hi)] at this
    simpa using this
  obtain ⟨c0, y0, e0, t0⟩ := get 0 (by omega)
  obtain ⟨c1, y1, e1, t1⟩ := get 1 (by omega)
  obtain ⟨c2, y2, e2, t2⟩ := get 2 (by omega)
  obtain ⟨c3, y3, e3, t3⟩ := get 3 (by omega)
  obtain ⟨c4, y4, e4, t4⟩ := get 4 (by omega)
  rw [hti' 0 (by omega)] at t0
  rw [hti' 1 (by omega)] at t1
  rw [hti' 2 (by omega)] at t2
  rw [hti' 3 (by omega)] at t3
  rw [hti' 4 (by omega)] at t4
  simp only [List.getElem_cons_zero, List.getElem_cons_succ] at t0 t1 t2 t3 t4
  obtain ⟨p, l, hl, hD⟩ := zna hts htf hcf t0
  obtain ⟨i1, rfl, a1, b1⟩ := zhb hti t1
  obtain ⟨i2, rfl, a2, b2⟩ := zhb hti t2
  obtain ⟨i3, rfl, a3, b3⟩ := zhb hti t3
  obtain ⟨i4, rfl, a4, b4⟩ := zhb hti t4
  have hcs : cs.toList = [c0, .int .i64 i1, .int .i64 i2, .int .i64 i3, .int .i64 i4] := by
    apply List.ext_getElem?
    intro i
    match i with
    | 0 => simpa using e0
    | 1 => simpa using e1
    | 2 => simpa using e2
    | 3 => simpa using e3
    | 4 => simpa using e4
    | i + 5 => rw [List.getElem?_eq_none (by simp; omega), List.getElem?_eq_none (by simp)]
  refine ⟨p, l, i1, i2, i3, i4, ⟨hl, a1, b1, a2, b2, a3, b3, a4, b4⟩, ?_⟩
  have ho0 : c0.oneCell' = true := by
    simp only [aD, zay] at hD
    obtain ⟨cap, _, ⟨_, _, _, ao, rfl⟩ | ⟨b, o, rfl, _⟩⟩ := hD <;> rfl
  simp only [mt, zay]
  refine ⟨cs, rfl, ?_, ?_⟩
  · rw [hcs]; simp only [List.mem_cons, List.not_mem_nil, or_false]
    rintro x (rfl | rfl | rfl | rfl | rfl) <;> first | exact ho0 | rfl
  · rw [hcs]
    simp only [zbq]
    exact ⟨_, _, rfl, hD, _, _, rfl, by simp [zay], _, _, rfl, by simp [zay], _, _, rfl, by simp [zay], _, _, rfl, by simp [zay], rfl⟩
theorem zix {t e : TypeId} {v : Value} {r : Reach} {b0 : Nat} (ht : P.underlying t = some (.slice e)) (hv : Value.okWide P W r b0 t v) : v.cells.toList = [v] := by
  simp only [Value.okWide, ht, Cell.okWide] at hv
  cases v <;> simp_all [Value.cells, Cell.ok]
theorem zov {t e : TypeId} {v : Value} {d : DataW H} {ps : List MemPlace} {r : Reach} {b0 : Nat} (ht : P.underlying t = some (.slice e)) (he : P.underlying e = some (.float .f64)) (hc : P.cellsOf e = 1) (hv : Value.okWide P W r b0 t v) (h : DataW.Trod enc P W base (fun _ => true) true t v d ps) :
    ∃ p l, l.length ≤ 9223372036854775807 ∧ zay W (g0 W) (aD p l) v := by
  obtain ⟨n, hn⟩ := h
  rw [zix ht hv] at hn
  exact zna ht he hc hn
theorem zqm {t : TypeId} (hl : laidOutB P = true) (hr : P.readableRec t = true) (hrow : t < P.types.size) {W' : World} {sp : Nat → Bool} {v : Value} {d : DataW H} {ps : List MemPlace}
    (h : DataW.Trod enc P W 0 (fun _ => true) true t v d ps) (hst : Stays W W') (hlt : ∀ p ∈ ps, p.block < W.heap.size) (hsp : ∀ p ∈ ps, sp p.block = true) : DataW.Trod enc P W' 0 sp true t v d ps := by
  refine Go.WideElems.Trod_stays hl hr hrow h (fun p hp => ?_) hsp
  have := hst.heap p.block (hlt p hp)
  cases p with
  | cell b o => exact zrj this
  | map b => exact this
theorem zmj (hl : laidOutB P = true) {W' : World} {sp : Nat → Bool} (hst : Stays W W') : ∀ {ts : List TypeId} {vs : List Value} {ds : List (DataW H)} {ps : List MemPlace}, (∀ t ∈ ts, P.readableRec t = true ∧ t < P.types.size) →
    DataW.TrodAll enc P W 0 (fun _ => true) true ts vs ds ps → (∀ p ∈ ps, p.block < W.heap.size) → (∀ p ∈ ps, sp p.block = true) → DataW.TrodAll enc P W' 0 sp true ts vs ds ps
  | [], [], [], ps, _, h, _, _ => h
  | [], [], _ :: _, _, _, h, _, _ => h.elim
  | [], _ :: _, _, _, _, h, _, _ => by simp [DataW.TrodAll] at h
  | _ :: _, [], _, _, _, h, _, _ => by simp [DataW.TrodAll] at h
  | _ :: _, _ :: _, [], _, _, h, _, _ => h.elim
  | t :: ts, v :: vs, d :: ds, ps, hts, ⟨p, q, h1, h2, h3⟩, hlt, hsp => by
    subst h3
    exact ⟨p, q, zqm hl (hts t (by simp)).1 (hts t (by simp)).2 h1 hst (fun x hx => hlt x (by simp [hx])) (fun x hx => hsp x (by simp [hx])),
      zmj hl hst (fun t ht => hts t (by simp [ht])) h2 (fun x hx => hlt x (by simp [hx])) (fun x hx => hsp x (by simp [hx])), rfl⟩
theorem zvx {f : Func} {s : ChangeSpec} {apart fresh handsOn again : Bool} {W' : World} {args : Array Value} {ds gs : List (DataW H)} {before : List MemPlace} {tb : TypeId}
    (hW : DataW.Whole enc P f.params.toList s.vars apart W args.toList ds gs before) (hv0 : s.vars = []) (hst : Stays W W') (hres : f.resultTypes = #[tb]) (htb : P.underlying tb = some .bool)
    (hspec : s.fn H (ds ++ gs) = { results := [.lit (.bool true)], args := ds }) (hl : laidOutB P = true) (hts : ∀ t ∈ f.params.toList, P.readableRec t = true ∧ t < P.types.size) :
    s.post enc P f apart fresh handsOn again W args (.bool true) W' := by
  have hlt := hW.lt
  have hW' := hW
  obtain ⟨p, q, h1, h2, h3, h4, h5⟩ := hW
  rw [hv0] at h2
  have hgq : gs = [] ∧ q = [] := by
    cases gs with
    | nil => exact ⟨rfl, by simpa [DataW.TrodVars] using h2⟩
    | cons g gs => simp [DataW.TrodVars] at h2
  obtain ⟨rfl, rfl⟩ := hgq
  rw [List.append_nil] at h3
  subst h3
  have hR : ∀ (b : Nat) (sp : Nat → Bool) (hd : Bool), DataW.TrodAll enc P W' b sp hd f.resultTypes.toList ((Value.bool true).resultList f.resultTypes.size) [.lit (.bool true)] [] := by
    intro b sp hd
    rw [hres]
    exact ⟨[], [], shut_bool htb true, rfl, rfl⟩
  have hA : ∀ sp : Nat → Bool, (∀ x ∈ before, sp x.block = true) → DataW.TrodAll enc P W' 0 sp true f.params.toList args.toList ds before := fun sp hsp => zmj hl hst hts h1 hlt hsp
  have hV : ∀ sp : Nat → Bool, DataW.TrodVars enc P W' sp s.vars ([] : List (DataW H)) [] := fun sp => by rw [hv0]; rfl
  refine ⟨ds, [], before, [], before, [], hW', by rw [hspec]; exact hR _ _ _, by rw [hspec]; exact hA _ (fun x hx => by simpa using hlt x hx), by rw [hspec]; exact hV _, World.keptBut_mono (fun p h => h.elim) hst.kept, fun _ => ?_⟩
  refine ⟨ok_one hres rfl (okWide_bool_mk htb true), [.lit (.bool true)] ++ ds, [], [] ++ before, ⟨[] ++ before, [], trodAll_append (hA _ (fun _ _ => rfl)) (hR _ _ _), hV _, by simp, ?_, ?_⟩, ?_⟩
  · intro b off hp
    rw [hst.fro _ (hlt _ (by simpa using hp))]
    exact h4 b off (by simpa using hp)
  · intro ha; simpa using h5 ha
  · intro x hx _; simpa using hx
end
end Go.Sx
set_option linter.unusedVariables false
set_option linter.unusedSimpArgs false
namespace Go.Sx
section
variable {P : Program} {cfg : Cfg} {dr : Array Oper → (St → Prop) → St → Prop} {e : List (Nat × EV)} {L : List (Nat × List AV)} {H : List (List AV)} {Q : XE → St → Prop} {K : St → Prop}
variable {d : Option Tmp} {ty : TypeId} {pos : String} {aft : Array Edge} {gd : Option (Nat × Bool)} {dd : Nat}
theorem zqy {b : Nat} (hb : (decide (b < 2 ^ 64) && !isNaN b) = true) : aOf (.float .f64 b) = .flt b := by
  simp only [Bool.and_eq_true, decide_eq_true_eq, Bool.not_eq_true'] at hb
  show zbn (.float .f64 b) = .flt b
  simp only [zbn, hb.1, if_true, cn, hb.2, Bool.false_eq_true, if_false]
theorem zq6 {b : Nat} (hb : (decide (b < 2 ^ 64) && !isNaN b) = true) (h : K ⟨(dd, .val (.flt b)) :: e, L, H⟩) : opX P cfg ⟨some dd, .assign (.const (.float .f64 b)), ty, pos, aft, gd⟩ K ⟨e, L, H⟩ :=
  zh9 (by show EV.val (aOf (.float .f64 b)) = _; rw [zqy hb]) h
theorem zy8 {b : Nat} (hb : (decide (b < 2 ^ 64) && !isNaN b) = true) (h : K ⟨(dd, .val (.flt b)) :: e, L, H⟩) : opX P cfg ⟨some dd, .move (.const (.float .f64 b)), ty, pos, aft, gd⟩ K ⟨e, L, H⟩ :=
  zq7 (by show EV.val (aOf (.float .f64 b)) = _; rw [zqy hb]) h
theorem zab {k : IntKind} {n : Int} (h : K ⟨(dd, .val (.int k n)) :: e, L, H⟩) : opX P cfg ⟨some dd, .assign (.const (.int k n)), ty, pos, aft, gd⟩ K ⟨e, L, H⟩ := zh9 rfl h
theorem zb0 {k : IntKind} {n : Int} (h : K ⟨(dd, .val (.int k n)) :: e, L, H⟩) : opX P cfg ⟨some dd, .move (.const (.int k n)), ty, pos, aft, gd⟩ K ⟨e, L, H⟩ := zq7 rfl h
theorem zac (h : K ⟨(dd, .val .slnil) :: e, L, H⟩) : opX P cfg ⟨some dd, .assign (.const (.slice none 0 0)), ty, pos, aft, gd⟩ K ⟨e, L, H⟩ := zh9 rfl h
theorem zyt {id : Nat} {xs : List Operand} {acc : List AV} {b : Nat} (hb : (decide (b < 2 ^ 64) && !isNaN b) = true) (h : zd1 P cfg id xs (acc ++ [.flt b]) dd K ⟨e, L, H⟩) : zd1 P cfg id (.const (.float .f64 b) :: xs) acc dd K ⟨e, L, H⟩ :=
  zqz (by show EV.val (aOf (.float .f64 b)) = _; rw [zqy hb]) h
theorem zy2 {f : Operand} {id : Nat} {first caps : List AV} {args : Array Operand} {ts : Array TypeId} (hf : St.ev ⟨e, L, H⟩ f = .val (.func id first caps)) (h : gK args.toList [] (fun vs => zb4 P cfg id (first ++ vs ++ caps) dd K ⟨e, L, H⟩) ⟨e, L, H⟩) :
    opX P cfg ⟨some dd, .call { callee := .value f, args := args, argTypes := ts }, ty, pos, aft, gd⟩ K ⟨e, L, H⟩ := by
  obtain ⟨vs, ha, r, H', h1, h2, h3⟩ := h
  simp only [opX, opE, hf, ha]
  exact ⟨r, H', by simpa using h1, h2, h3⟩
theorem zjn {f : Nat} {first caps : Array Operand} (h : gK first.toList [] (fun vs => gK caps.toList [] (fun us => K ⟨(dd, .val (.func f vs us)) :: e, L, H⟩) ⟨e, L, H⟩) ⟨e, L, H⟩) :
    opX P cfg ⟨some dd, .makeFunc (.func f) first caps, ty, pos, aft, gd⟩ K ⟨e, L, H⟩ := by
  obtain ⟨vs, h1, us, h2, h⟩ := h
  rw [zda P cfg e L H K _ _ _ _ _ _ rfl]
  unfold zga at h1 h2
  simp only [za2, h1, h2, zdz]
  simp only [List.nil_append] at h
  exact ⟨trivial, h⟩
theorem zus {t : TypeId} {A N : List (List AV)} {n j g o len sz off k : Nat} {cs l : List AV} [i : TyI P t k true] (hA : A.length = n) (hj : N[j]? = some cs) (hg : cs.length = g) (hl : gc cs (o + off) k = some l) (hk : K ⟨(dd, .val (.agg l)) :: e, L, A ++ N⟩) : zbu P t dd K ⟨e, L, A ++ N⟩ (.val (.eptr (.slm (n + j) g o len sz) off)) :=
  zxz (by simp only [zc6, za9 hA hj, Option.bind_some, hg, if_true]; exact hl) hk
theorem zsp {t : TypeId} {A N : List (List AV)} {n j g o len sz off : Nat} {cs : List AV} {c : AV} [i : TyI P t 1 false] (hA : A.length = n) (hj : N[j]? = some cs) (hg : cs.length = g) (hl : cs[o + off]? = some c) (hk : K ⟨(dd, .val c) :: e, L, A ++ N⟩) : zbu P t dd K ⟨e, L, A ++ N⟩ (.val (.eptr (.slm (n + j) g o len sz) off)) :=
  zl8 (by simp only [zc6, za9 hA hj, Option.bind_some, hg, if_true]; exact zl1 hl) hk
theorem qbq {t : TypeId} {A N : List (List AV)} {b g o len sz off k : Nat} {cs l : List AV} [i : TyI P t k true] (hj : A[b]? = some cs) (hg : cs.length = g) (hl : gc cs (o + off) k = some l) (hk : K ⟨(dd, .val (.agg l)) :: e, L, A ++ N⟩) : zbu P t dd K ⟨e, L, A ++ N⟩ (.val (.eptr (.slm b g o len sz) off)) :=
  zxz (by simp only [zc6, zdw hj, Option.bind_some, hg, if_true]; exact hl) hk
theorem zj3 {t : TypeId} {A N : List (List AV)} {b g o len sz off : Nat} {cs : List AV} {c : AV} [i : TyI P t 1 false] (hj : A[b]? = some cs) (hg : cs.length = g) (hl : cs[o + off]? = some c) (hk : K ⟨(dd, .val c) :: e, L, A ++ N⟩) : zbu P t dd K ⟨e, L, A ++ N⟩ (.val (.eptr (.slm b g o len sz) off)) :=
  zl8 (by simp only [zc6, zdw hj, Option.bind_some, hg, if_true]; exact zl1 hl) hk
theorem zbv {id : Nat} {xs : List Operand} {acc : List AV} {k : IntKind} {n : Int} (h : zd1 P cfg id xs (acc ++ [.int k n]) dd K ⟨e, L, H⟩) : zd1 P cfg id (.const (.int k n) :: xs) acc dd K ⟨e, L, H⟩ := zqz rfl h
def gV (n i k : Nat) : AV := if k = 0 then .slnil else .slm (n + i) k 0 k 1
def gN (l : List AV) : List (List AV) := if l = [] then [] else [l]
theorem zee {t tx : TypeId} {s x : Operand} {n i k by_ el' z' : Nat} {z v : AV} {l l' : List AV} {A N₀ : List (List AV)} [ei : EI P t 1 by_ [z]] [si : SlI P tx el' z'] (hs : St.ev ⟨e, L, A ++ (N₀ ++ gN l)⟩ s = .val (gV n i k)) (hx : St.ev ⟨e, L, A ++ (N₀ ++ gN l)⟩ x = .val (.sl none 1 [v]))
    (hA : A.length = n) (hi : N₀.length = i) (hk : l.length = k) (hm : k + 1 ≤ 2 ^ 32) (hn : cfg.n0 = n) (hz : (decide (by_ ≤ 2 ^ 10) && decide (0 < by_)) = true) (hl : l ++ [v] = l')
    (h : K ⟨(dd, .val (gV n i (k + 1))) :: e, L, A ++ (N₀ ++ gN l')⟩) :
    opX P cfg ⟨some dd, .call { callee := .builtin .append, args := #[s, x], argTypes := #[t, tx] }, ty, pos, aft, gd⟩ K ⟨e, L, A ++ (N₀ ++ gN l)⟩ := by
  subst hl
  have e1 : gV n i (k + 1) = .slm (n + i) (k + 1) 0 (k + 1) 1 := by simp [gV]
  have e2 : gN (l ++ [v]) = [l ++ [v]] := by simp [gN]
  rw [e1, e2] at h
  cases l with
  | nil =>
    simp only [List.length_nil] at hk; subst hk
    simp only [gN, if_true, List.append_nil, List.nil_append] at hs hx h ⊢
    exact zxc (n := n) (i := i) (xs := [v]) (m := 1) hs hx (zt4 rfl) (by omega) hA hi hz rfl rfl h
  | cons a l =>
    have hk0 : k ≠ 0 := by simp at hk; omega
    have e3 : gV n i k = .slm (n + i) k 0 k 1 := by simp [gV, hk0]
    have e4 : gN (a :: l) = [a :: l] := by simp [gN]
    rw [e3] at hs
    rw [e4] at hs hx ⊢
    subst hi
    exact zfp (cs := a :: l) (xs := [v]) (m := 1) hs hx hA (by simp) (zt4 rfl) hk rfl hm (.inl (by omega)) hz rfl (by simp) (by simp at hk ⊢; omega) rfl h
theorem zi0 {n i k : Nat} {l : List AV} {A N₀ : List (List AV)} (hA : A.length = n) (hi : N₀.length = i) (hk : l.length = k) (hm : mxL l ≤ n) : Fr n [] (A ++ (N₀ ++ gN l)) (gV n i k) (.sl none k l) := by
  cases l with
  | nil =>
    simp only [List.length_nil] at hk; subst hk
    simp only [gV, if_true]; exact Fr.nil
  | cons a l =>
    have hk0 : k ≠ 0 := by simp at hk; omega
    simp only [gV, if_neg hk0]
    have : (A ++ (N₀ ++ gN (a :: l)))[n + i]? = some (a :: l) := by
      refine za9 hA ?_
      subst hi; simp [gN]
    exact Fr.fz (by omega) (by simp) this hk (ze9 _ (by rw [hk]; omega)) (Frs.old hm)
theorem z9t {n i : Nat} {l : List Nat} {A N₀ : List (List AV)} (hA : A.length = n) (hi : N₀.length = i) : FL (A ++ (N₀ ++ gN (fl l))) (gV n i l.length) l := by
  cases l with
  | nil => exact FL.nil _
  | cons a l =>
    have : (A ++ (N₀ ++ gN (fl (a :: l))))[n + i]? = some (fl (a :: l)) := by
      refine za9 hA ?_
      subst hi; simp [gN, fl]
    simp only [gV, List.length_cons, Nat.add_eq_zero_iff, Nat.succ_ne_zero, and_false, if_false]
    exact FL.old this (by simp) (by simp)
end
theorem take_succ' {l : List Nat} {k : Nat} (h : k < l.length) : l.take (k + 1) = l.take k ++ [l.getD k 0] := by
  rw [List.take_add_one]; simp [List.getD, h]
def fo (f : Nat → Nat → Nat) (s : Nat) (l : List Nat) (k : Nat) : Nat := (l.take k).foldl f s
theorem zkq {f : Nat → Nat → Nat} {s : Nat} {l : List Nat} {k : Nat} (h : k < l.length) : fo f s l (k + 1) = f (fo f s l k) (l.getD k 0) := by
  simp only [fo, take_succ' h, List.foldl_append, List.foldl_cons, List.foldl_nil]
theorem zob (f : Nat → Nat → Nat) (s : Nat) (l : List Nat) : fo f s l l.length = l.foldl f s := by simp [fo]
def mpl (f : Nat → Nat) (l : List Nat) (k : Nat) : List Nat := (l.take k).map f
theorem zoo {f : Nat → Nat} {l : List Nat} {k : Nat} (h : k < l.length) : mpl f l (k + 1) = mpl f l k ++ [f (l.getD k 0)] := by simp [mpl, take_succ' h]
theorem zs6 (f : Nat → Nat) (l : List Nat) : mpl f l l.length = l.map f := by simp [mpl]
@[simp] theorem zs7 {f : Nat → Nat} {l : List Nat} {k : Nat} (h : k ≤ l.length) : (mpl f l k).length = k := by simp [mpl]; omega
def zbm (x : Nat) : Nat := cn (x % 9223372036854775808)
theorem zq0 (b : Nat) : zbm (cn b) = cn (b % 9223372036854775808) := by
  unfold zbm
  have key : ∀ b, isNaN (b % 9223372036854775808) = isNaN b := by
    intro b
    have e : ∀ x, isNaN x = decide (9218868437227405312 < x % 9223372036854775808) := by
      intro x
      have e1 : Ieee.double.signWeight = 9223372036854775808 := by decide
      have e2 : Ieee.double.binade = 4503599627370496 := by decide
      have e3 : Ieee.double.infRung = 9218868437227405312 := by decide
      unfold isNaN Ieee.Format.read
      simp only [e1, e2, e3]
      split
      · simp [Ieee.Datum.isNaN]; omega
      · split
        · simp [Ieee.Datum.isNaN]; omega
        · split
          · simp [Ieee.Datum.isNaN]; omega
          · simp [Ieee.Datum.isNaN]; omega
    rw [e, e, Nat.mod_mod]
  rcases zb1 b with ⟨h1, h2⟩ | ⟨h1, h2⟩
  · rw [h2]
    have h3 : isNaN (b % 9223372036854775808) = true := by rw [key]; exact h1
    have h4 : isNaN (qn % 9223372036854775808) = true := by rw [key]; decide
    simp only [cn, h3, h4, if_true]
  · rw [h2]
def mxF (m x : Nat) : Nat := if flt m x then x else m
theorem z0h {m x : Nat} (h : flt m x = true) : mxF m x = x := by simp [mxF, h]
theorem z0g {m x : Nat} (h : flt m x = false) : mxF m x = m := by simp [mxF, h]
def zbp (l : List Nat) : Nat :=
  match l.find? (fun x => !feq x x) with
  | some x => x
  | none => l.foldl mxF 0
theorem zlx : ∀ (l : List Nat), ∃ N, N ≤ l.length ∧ (∀ k, k < N → feq (l.getD k 0) (l.getD k 0) = true) ∧ (N < l.length → feq (l.getD N 0) (l.getD N 0) = false ∧ zbp l = l.getD N 0) ∧ (N = l.length → zbp l = l.foldl mxF 0)
  | l => by
    have key : ∀ l : List Nat, ∃ N, N ≤ l.length ∧ (∀ k, k < N → feq (l.getD k 0) (l.getD k 0) = true) ∧ (N < l.length → feq (l.getD N 0) (l.getD N 0) = false ∧ l.find? (fun x => !feq x x) = some (l.getD N 0)) ∧ (N = l.length → l.find? (fun x => !feq x x) = none) := by
      intro l
      induction l with
      | nil => exact ⟨0, Nat.le_refl _, by simp, by simp, by simp⟩
      | cons a l ih =>
        by_cases h : feq a a = true
        · obtain ⟨N, h1, h2, h3, h4⟩ := ih
          refine ⟨N + 1, by simp; omega, fun k hk => ?_, fun hN => ?_, fun hN => ?_⟩
          · cases k with
            | zero => simpa using h
            | succ k => simpa using h2 k (by omega)
          · have := h3 (by simp at hN; omega)
            refine ⟨by simpa using this.1, ?_⟩
            rw [List.find?_cons_of_neg (by simp [h])]
            simpa using this.2
          · rw [List.find?_cons_of_neg (by simp [h])]
            exact h4 (by simp at hN; omega)
        · refine ⟨0, by omega, by simp, fun _ => ⟨by simpa using h, ?_⟩, by simp⟩
          rw [List.find?_cons_of_pos (by simpa using h)]; simp
    obtain ⟨N, h1, h2, h3, h4⟩ := key l
    refine ⟨N, h1, h2, fun h => ⟨(h3 h).1, ?_⟩, fun h => ?_⟩
    · unfold zbp; rw [(h3 h).2]
    · unfold zbp; rw [h4 h]
def zbe (l : List Nat) : Nat := l.foldl (fun s x => zjr s (zbm x)) 0
def sumF (l : List Nat) : Nat := l.foldl zjr 0
theorem zu1 (l : List Nat) : sumF (l.map zbm) = zbe l := by simp [sumF, zbe, List.foldl_map]
theorem z2v (b : Nat) (h : b < 2 ^ 64) : zd6 .andNot .u64 b 9223372036854775808 = ((b % 9223372036854775808 : Nat) : Int) := by
  have e1 : (BitVec.ofInt 64 (b : Int)).toNat = b := by
    rw [BitVec.toNat_ofInt]
    omega
  have e2 : ~~~(BitVec.ofInt 64 (9223372036854775808 : Int)) = BitVec.ofNat 64 (2 ^ 63 - 1) := by decide
  simp only [zd6]
  show IntKind.u64.wrap ((BitVec.ofInt 64 (b : Int) &&& ~~~(BitVec.ofInt 64 (9223372036854775808 : Int))).toNat : Int) = _
  rw [e2, BitVec.toNat_and, e1, BitVec.toNat_ofNat]
  have e3 : (2 ^ 63 - 1) % 2 ^ 64 = 2 ^ 63 - 1 := by decide
  rw [e3, Nat.and_two_pow_sub_one_eq_mod]
  rw [zqv (by omega)]
theorem z7j {e : List (Nat × EV)} {L : List (Nat × List AV)} {H : List (List AV)} {K : St → Prop} {dd b : Nat} (hb : b < 2 ^ 64) (h : K ⟨(dd, .val (.int .u64 ((b % 9223372036854775808 : Nat) : Int))) :: e, L, H⟩) : zb8 dd K ⟨e, L, H⟩ (some (True, .int .u64 (zd6 .andNot .u64 (b : Int) 9223372036854775808))) := by
  rw [z2v b hb]; exact ⟨trivial, h⟩
abbrev vt (D : AV) (off n inc : Int) : AV := .agg [D, .int .i64 off, .int .i64 n, .int .i64 inc]
structure VI (m : Nat) (off n inc : Int) : Prop where
  m : m ≤ 9223372036854775807
  o1 : -9223372036854775808 ≤ off
  o2 : off ≤ 9223372036854775807
  n1 : -9223372036854775808 ≤ n
  n2 : n ≤ 9223372036854775807
  i1 : -9223372036854775808 ≤ inc
  i2 : inc ≤ 9223372036854775807
def za8 (m : Nat) (off n inc : Int) : Prop := 0 ≤ n ∧ 1 ≤ inc ∧ 0 ≤ off ∧ (n = 0 ∨ (off < m ∧ (n - 1) * inc ≤ m - 1 - off))
instance (m : Nat) (off n inc : Int) : Decidable (za8 m off n inc) := by unfold za8; infer_instance
theorem zen {m : Nat} {off n inc i : Int} (h : za8 m off n inc) (hi : 0 ≤ i) (hi' : i < n) : 0 ≤ i * inc ∧ 0 ≤ off + i * inc ∧ off + i * inc < m ∧ 0 ≤ off ∧ 1 ≤ inc := by
  obtain ⟨h1, h2, h3, h4⟩ := h
  have h7 : i * inc ≤ (n - 1) * inc := Int.mul_le_mul_of_nonneg_right (by omega) (by omega)
  have h8 : 0 ≤ i * inc := Int.mul_nonneg hi (by omega)
  exact ⟨h8, by omega, by omega, h3, h2⟩
def zw3 (l : List Nat) (off n inc : Int) : List Nat := (List.range n.toNat).map fun (k : Nat) => l.getD (off + (k : Int) * inc).toNat 0
@[simp] theorem z8f (l : List Nat) (off n inc : Int) : (zw3 l off n inc).length = n.toNat := by simp [zw3]
theorem zpf {l : List Nat} {off n inc : Int} {k : Nat} (h : k < n.toNat) : (zw3 l off n inc).getD k 0 = l.getD (off + (k : Int) * inc).toNat 0 := by
  simp [zw3, List.getD, h]
theorem zcn {D : AV} {n : Nat} (h : slen D = some n) : D.cells = some [D] := by
  cases D <;> first | rfl | (simp [slen] at h; done)
def rml (g : Nat → Nat) (k : Nat) : List Nat := (List.range k).map g
@[simp] theorem zbr (g : Nat → Nat) (k : Nat) : (rml g k).length = k := by simp [rml]
theorem zwg (g : Nat → Nat) (k : Nat) : rml g (k + 1) = rml g k ++ [g k] := by simp [rml, List.range_succ]
theorem zg7 (g : Nat → Nat) (k : Nat) : fl (rml g k) ++ [.flt (g k)] = fl (rml g (k + 1)) := by rw [zwg]; simp [fl]
theorem zcz {g : Nat → Nat} {n k : Nat} (h : k < n) : (rml g n).getD k 0 = g k := by simp [rml, List.getD, h]
theorem zbw {g g' : Nat → Nat} {n : Nat} (h : ∀ k, k < n → g k = g' k) : rml g n = rml g' n := by
  unfold rml; exact List.map_congr_left (fun k hk => h k (by simpa using hk))
def mel (l : List Nat) (off ld : Int) (i j : Nat) : Nat := l.getD (off + (i : Int) + (j : Int) * ld).toNat 0
abbrev mM (A : AV) (r c : Int) : AV := .agg [.int .i64 r, .int .i64 c, A]
def rmA (g : Nat → Nat → Nat) (r c : Nat) : List Nat := rml (fun k => g (k / c) (k % c)) (r * c)
@[simp] theorem qai (g : Nat → Nat → Nat) (r c : Nat) : (rmA g r c).length = r * c := by simp [rmA]
theorem zvu {r c i j : Nat} (hi : i < r) (hj : j < c) : i * c + j < r * c := by
  have h1 : (i + 1) * c ≤ r * c := Nat.mul_le_mul_right _ hi
  rw [Nat.add_mul, Nat.one_mul] at h1
  omega
theorem zxw {c i j : Nat} (hj : j < c) : (i * c + j) / c = i := by
  rw [Nat.mul_comm, Nat.mul_add_div (by omega), Nat.div_eq_of_lt hj, Nat.add_zero]
theorem zxx {c i j : Nat} (hj : j < c) : (i * c + j) % c = j := by
  rw [Nat.mul_comm, Nat.mul_add_mod, Nat.mod_eq_of_lt hj]
theorem z01 {g : Nat → Nat → Nat} {r c i j : Nat} (hi : i < r) (hj : j < c) : (rmA g r c).getD (i * c + j) 0 = g i j := by
  rw [rmA, zcz (zvu hi hj), zxw hj, zxx hj]
def ofL (g : Nat → Nat → Nat) (r c n : Nat) : List Nat := rml (fun k => if k < n then g (k / c) (k % c) else 0) (r * c)
@[simp] theorem z0l (g : Nat → Nat → Nat) (r c n : Nat) : (ofL g r c n).length = r * c := by simp [ofL]
theorem zv5 (g : Nat → Nat → Nat) (r c : Nat) : ofL g r c 0 = List.replicate (r * c) 0 := by
  apply List.ext_getElem
  · simp
  · intro i h1 h2; simp [ofL, rml]
theorem z0k (g : Nat → Nat → Nat) (r c : Nat) : ofL g r c (r * c) = rmA g r c := by
  unfold ofL rmA
  exact zbw fun k hk => by rw [if_pos hk]
theorem z0m {g : Nat → Nat → Nat} {r c i j : Nat} (hi : i < r) (hj : j < c) {x : Nat} (hx : x = g i j) : (ofL g r c (i * c + j)).set (i * c + j) x = ofL g r c (i * c + j + 1) := by
  have hlt := zvu hi hj
  subst hx
  apply List.ext_getElem
  · simp
  · intro k h1 h2
    simp only [z0l] at h2
    rw [List.getElem_set]
    split
    · rename_i hk
      subst hk
      simp [ofL, rml, zxw hj, zxx hj]
    · rename_i hk
      simp only [ofL, rml, List.getElem_map, List.getElem_range]
      by_cases h : k < i * c + j
      · rw [if_pos h, if_pos (by omega)]
      · rw [if_neg h, if_neg (by omega)]
theorem z8e {e : List (Nat × EV)} {L : List (Nat × List AV)} {H : List (List AV)} {K : St → Prop} {dd : Nat} {b : Bool} (h : b = true) (hk : K ⟨(dd, .val (.bool true)) :: e, L, H⟩) : zb8 dd K ⟨e, L, H⟩ (some (True, .bool b)) := by
  subst h; exact ⟨trivial, hk⟩
theorem zuu {e : List (Nat × EV)} {L : List (Nat × List AV)} {H : List (List AV)} {K : St → Prop} {dd : Nat} {b : Bool} (h : b = false) (hk : K ⟨(dd, .val (.bool false)) :: e, L, H⟩) : zb8 dd K ⟨e, L, H⟩ (some (True, .bool b)) := by
  subst h; exact ⟨trivial, hk⟩
section
variable {P : Program} {cfg : Cfg} {dr : Array Oper → (St → Prop) → St → Prop} {e : List (Nat × EV)} {L : List (Nat × List AV)} {H : List (List AV)} {Q : XE → St → Prop} {K : St → Prop}
variable {kn : Option (Nat × Bool)} {ops : Array Oper} {d : Option Tmp} {o : Op} {ty : TypeId} {pos : String} {aft : Array Edge} {rest : List Oper} {j : Nat} {b want : Bool} {gd : Option (Nat × Bool)} {dd : Nat}
theorem m00 {op : BinOp} {t t' : TypeId} {x y : Operand} {vx vy : EV} {r : Option (Prop × AV)} (h : zb8 dd K ⟨e, L, H⟩ r) (hx : St.ev ⟨e, L, H⟩ x = vx := by (conv => {lhs; whnf}); done) (hy : St.ev ⟨e, L, H⟩ y = vy := by (conv => {lhs; whnf}); done) (hr : znw P op t vx vy = r := by (conv => {lhs; whnf}); done) : opX P cfg ⟨some dd, .binOp op t x y t', ty, pos, aft, gd⟩ K ⟨e, L, H⟩ := zu3 hx hy hr h
theorem m01 {t : TypeId} {x : Operand} {vx : EV} {r : Option (List AV)} {cs : List AV} (h : K ⟨(dd, .loc dd 0) :: e, (dd, cs) :: L, H⟩) (hx : St.ev ⟨e, L, H⟩ x = vx := by (conv => {lhs; whnf}); done) (hr : vx.asV.bind AV.cells = r := by exact rfl) (hcs : r = some cs := by exact rfl) (hesc : cfg.esc = false := by exact rfl) (hn : zhg dd e = true := by exact rfl) : opX P cfg ⟨some dd, .box t x, ty, pos, aft, gd⟩ K ⟨e, L, H⟩ := z8n hx hr hcs hesc hn h
theorem m02 {x t n : Nat} {rs : List ResultVar} {acc : List AV} {k : List AV → Prop} [ti : TyI P t n true] {key off : Nat} {cs l : List AV} (h : rK P rs (acc ++ [.agg l]) k ⟨e, L, H⟩) (hx : St.ev ⟨e, L, H⟩ (.tmp x) = .loc key off := by (conv => {lhs; whnf}); done) (hc : lk L key = some cs := by exact rfl) (hl : gc cs off n = some l := by exact rfl) : rK P (.cell x t :: rs) acc k ⟨e, L, H⟩ := zwf hx hc hl h
theorem m03 {x t : Nat} {rs : List ResultVar} {acc : List AV} {k : List AV → Prop} [ti : TyI P t 1 false] {key off : Nat} {cs : List AV} {v : AV} (h : rK P rs (acc ++ [v]) k ⟨e, L, H⟩) (hx : St.ev ⟨e, L, H⟩ (.tmp x) = .loc key off := by (conv => {lhs; whnf}); done) (hc : lk L key = some cs := by exact rfl) (hl : cs[off]? = some v := by exact rfl) : rK P (.cell x t :: rs) acc k ⟨e, L, H⟩ := zwe hx hc hl h
theorem m04 {t : Nat} {rs : List ResultVar} {acc : List AV} {k : List AV → Prop} {v : AV} (h : rK P rs (acc ++ [v]) k ⟨e, L, H⟩) (hv : St.ev ⟨e, L, H⟩ (.tmp t) = .val v := by (conv => {lhs; whnf}); done) : rK P (.tmp t :: rs) acc k ⟨e, L, H⟩ := z5x hv h
theorem m05 {fn : Func} {H₀ H' : List (List AV)} {r : AV} {x : XE} {rs : List ResultVar} (h : rK P rs [] (zeq H₀ r H' H) ⟨e, L, H⟩) (hx : x = .ret ∨ x = .normal := by simp) (hf : fn.results.toList = rs := by (conv => {lhs; whnf}); done) : zd4 P fn H₀ r H' x ⟨e, L, H⟩ := z3g hx hf h
theorem m06 {c : Operand} {x y : Code} {v : EV} (h : zb9 P cfg dr x y Q ⟨e, L, H⟩ v) (hv : St.ev ⟨e, L, H⟩ c = v := by (conv => {lhs; whnf}); done) : Ex P cfg dr (.cond c x y) Q ⟨e, L, H⟩ := b_cond hv h
theorem m07 {t : TypeId} {x : Operand} {v : EV} (h : zbu P t dd K ⟨e, L, H⟩ v) (hv : St.ev ⟨e, L, H⟩ x = v := by (conv => {lhs; whnf}); done) : opX P cfg ⟨some dd, .load t x, ty, pos, aft, gd⟩ K ⟨e, L, H⟩ := z3c hv h
theorem m08 {x : Operand} {v : EV} (h : K ⟨(dd, v) :: e, L, H⟩) (hv : St.ev ⟨e, L, H⟩ x = v := by (conv => {lhs; whnf}); done) : opX P cfg ⟨some dd, .assign x, ty, pos, aft, gd⟩ K ⟨e, L, H⟩ := zh9 hv h
theorem m09 {t j' : Nat} {b' : Bool} {v : EV} (h : zbb P cfg ops ⟨d, o, ty, pos, aft, some (j, want)⟩ j want t rest K ⟨e, L, H⟩ v) (ht : (ops[j]?).bind (·.dst) = some t := by exact rfl) (hd : (d == some t) = false := by exact rfl) (hj : (j' == j) = false := by exact rfl) (hv : St.ev ⟨e, L, H⟩ (.tmp t) = v := by (conv => {lhs; whnf}); done) : za3 P cfg ops (some (j', b')) (⟨d, o, ty, pos, aft, some (j, want)⟩ :: rest) K ⟨e, L, H⟩ := qbz ht hd hj hv h
theorem m10 {t : Nat} {v : EV} (h : zbb P cfg ops ⟨d, o, ty, pos, aft, some (j, want)⟩ j want t rest K ⟨e, L, H⟩ v) (ht : (ops[j]?).bind (·.dst) = some t := by exact rfl) (hd : (d == some t) = false := by exact rfl) (hv : St.ev ⟨e, L, H⟩ (.tmp t) = v := by (conv => {lhs; whnf}); done) : za3 P cfg ops none (⟨d, o, ty, pos, aft, some (j, want)⟩ :: rest) K ⟨e, L, H⟩ := qby ht hd hv h
theorem m11 {t : Nat} (h : za3 P cfg ops kn rest K ⟨(dd, .val (.tup [])) :: e, L, H⟩) (ht : (ops[j]?).bind (·.dst) = some t := by exact rfl) (hd : (dd == t) = false := by exact rfl) (hk : kn ≠ some (j, want) ∧ kn ≠ some (j, !want) := by constructor <;> simp) (hv : St.ev ⟨e, L, H⟩ (.tmp t) = .val (.tup []) := by exact rfl) (hn : kn.any (fun p => ((ops[p.1]?).bind (·.dst)) == some dd) = false := by exact rfl) : za3 P cfg ops kn (⟨some dd, o, ty, pos, aft, some (j, want)⟩ :: rest) K ⟨e, L, H⟩ := qb5 ht hd hk hv hn h
theorem m12 {t : Nat} (h : za3 P cfg ops (some (j, b)) rest K ⟨(dd, .val (.tup [])) :: e, L, H⟩) (ht : (ops[j]?).bind (·.dst) = some t := by exact rfl) (hd : (dd == t) = false := by exact rfl) (hb : b = !want := by exact rfl) : za3 P cfg ops (some (j, b)) (⟨some dd, o, ty, pos, aft, some (j, want)⟩ :: rest) K ⟨e, L, H⟩ := qb3 ht hd hb h
theorem m13 {t : Nat} (h : opX P cfg ⟨d, o, ty, pos, aft, some (j, want)⟩ (za3 P cfg ops (some (j, want)) rest K) ⟨e, L, H⟩) (ht : (ops[j]?).bind (·.dst) = some t := by exact rfl) (hd : (d == some t) = false := by exact rfl) : za3 P cfg ops (some (j, want)) (⟨d, o, ty, pos, aft, some (j, want)⟩ :: rest) K ⟨e, L, H⟩ := qb4 ht hd h
theorem m14 {x : Operand} {v : EV} (h : K ⟨(dd, v) :: e, L, H⟩) (hv : St.ev ⟨e, L, H⟩ x = v := by (conv => {lhs; whnf}); done) : opX P cfg ⟨some dd, .move x, ty, pos, aft, gd⟩ K ⟨e, L, H⟩ := zq7 hv h
theorem m15 {t : TypeId} {key off : Nat} {cs : List AV} {c : AV} [i : TyI P t 1 false] (hk : K ⟨(dd, .val c) :: e, L, H⟩) (h1 : lk L key = some cs := by exact rfl) (h2 : cs[off]? = some c := by exact rfl) : zbu P t dd K ⟨e, L, H⟩ (.loc key off) := z4j h1 h2 hk
theorem m16 {t : TypeId} {key off n : Nat} {cs l : List AV} [i : TyI P t n true] (hk : K ⟨(dd, .val (.agg l)) :: e, L, H⟩) (h1 : lk L key = some cs := by exact rfl) (h2 : gc cs off n = some l := by exact rfl) : zbu P t dd K ⟨e, L, H⟩ (.loc key off) := z4k h1 h2 hk
theorem m17 {t : TypeId} {x : Operand} {i off : Nat} {ft : TypeId} [fi : FldI P t i off ft] {v : EV} (h : faK dd K off ⟨e, L, H⟩ v) (hv : St.ev ⟨e, L, H⟩ x = v := by (conv => {lhs; whnf}); done) : opX P cfg ⟨some dd, .fieldAddr t x i, ty, pos, aft, gd⟩ K ⟨e, L, H⟩ := qbx hv h
theorem m18 {s : AV} {off o m : Nat} (h : K ⟨(dd, .val (.eptr s m)) :: e, L, H⟩) (hm : off + o = m := by (conv => {lhs; whnf}); done) : faK dd K o ⟨e, L, H⟩ (.val (.eptr s off)) := z9j hm h
theorem m19 {key off o m : Nat} (h : K ⟨(dd, .loc key m) :: e, L, H⟩) (hm : off + o = m := by (conv => {lhs; whnf}); done) : faK dd K o ⟨e, L, H⟩ (.loc key off) := z9i hm h
theorem m20 {op : UnOp} {t : TypeId} {x : Operand} {vx : EV} {r : Option (Prop × AV)} (h : zb8 dd K ⟨e, L, H⟩ r) (hx : St.ev ⟨e, L, H⟩ x = vx := by (conv => {lhs; whnf}); done) (hr : unV op vx = r := by (conv => {lhs; whnf}); done) : opX P cfg ⟨some dd, .unOp op t x, ty, pos, aft, gd⟩ K ⟨e, L, H⟩ := qb6 hx hr h
theorem m22 {x y z : Operand} {v : EV} (h : zb6 dd K y z ⟨e, L, H⟩ v) (hv : St.ev ⟨e, L, H⟩ x = v := by (conv => {lhs; whnf}); done) : opX P cfg ⟨some dd, .pick x y z, ty, pos, aft, gd⟩ K ⟨e, L, H⟩ := z3f hv h
theorem m24 {t : TypeId} {cs : List AV} [z : ZI P t cs] (h : K ⟨(dd, .loc dd 0) :: e, (dd, cs) :: L, H⟩) (hesc : cfg.esc = false := by exact rfl) (hn : zhg dd e = true := by exact rfl) : opX P cfg ⟨some dd, .alloc t, ty, pos, aft, gd⟩ K ⟨e, L, H⟩ := zyz hesc hn h
theorem m26 {y z : Operand} {v : EV} (h : K ⟨(dd, v) :: e, L, H⟩) (hv : St.ev ⟨e, L, H⟩ y = v := by (conv => {lhs; whnf}); done) : zb6 dd K y z ⟨e, L, H⟩ (.val (.bool true)) := p_T hv h
theorem m27 {y z : Operand} {v : EV} (h : K ⟨(dd, v) :: e, L, H⟩) (hv : St.ev ⟨e, L, H⟩ z = v := by (conv => {lhs; whnf}); done) : zb6 dd K y z ⟨e, L, H⟩ (.val (.bool false)) := p_F hv h
theorem m38  (h : opX P cfg ⟨d, o, ty, pos, aft, none⟩ (za3 P cfg ops (some (j, b)) rest K) ⟨e, L, H⟩) (hj : (((ops[j]?).bind (·.dst)) == d) = false := by exact rfl) : za3 P cfg ops (some (j, b)) (⟨d, o, ty, pos, aft, none⟩ :: rest) K ⟨e, L, H⟩ := qbw hj h
theorem m40 {acc : List AV} {k : List AV → Prop} {x : Operand} {xs : List Operand} {v : AV} (h : gK xs (acc ++ [v]) k ⟨e, L, H⟩) (hv : St.ev ⟨e, L, H⟩ x = .val v := by (conv => {lhs; whnf}); done) : gK (x :: xs) acc k ⟨e, L, H⟩ := zsc hv h
theorem m46 {src dst : TypeId} {x : Operand} {k k' : IntKind} {n : Int} {td : TypeDesc} [u : UI P dst (.int k)] [us : UI P src td] (h : zb8 dd K ⟨e, L, H⟩ (some (True, .int k (k.wrap n)))) (hx : St.ev ⟨e, L, H⟩ x = .val (.int k' n) := by first | (conv => {lhs; whnf}; done) | exact (by exact rfl) | fail) : opX P cfg ⟨some dd, .convert src dst x, ty, pos, aft, gd⟩ K ⟨e, L, H⟩ := z3a hx h
theorem m47 {p : Prop} [Decidable p] (h : K ⟨(dd, .val (.bool true)) :: e, L, H⟩) (hp : p := by omega) : zb8 dd K ⟨e, L, H⟩ (some (True, .bool (decide p))) := v_T hp h
theorem m48 {p : Prop} [Decidable p] (h : K ⟨(dd, .val (.bool false)) :: e, L, H⟩) (hp : ¬ p := by omega) : zb8 dd K ⟨e, L, H⟩ (some (True, .bool (decide p))) := v_F hp h
theorem m49 {n : Int} (h : K ⟨(dd, .val (.int .i64 n)) :: e, L, H⟩) (hw : -9223372036854775808 ≤ n ∧ n ≤ 9223372036854775807 := by omega) : zb8 dd K ⟨e, L, H⟩ (some (True, .int .i64 (IntKind.i64.wrap n))) := v_w hw h
theorem m50 {n : Int} (h : K ⟨(dd, .val (.int .u64 n)) :: e, L, H⟩) (hw : 0 ≤ n ∧ n ≤ 18446744073709551615 := by omega) : zb8 dd K ⟨e, L, H⟩ (some (True, .int .u64 (IntKind.u64.wrap n))) := qbf hw h
theorem m51 {c : Prop} {v : AV} (h : zb8 dd K ⟨e, L, H⟩ (some (True, v))) (hc : c := by omega) : zb8 dd K ⟨e, L, H⟩ (some (c, v)) := v_c hc h
theorem m57 {i k : Nat} (h : Q (.exit k) ⟨e, L, H⟩) (hik : (k == i) = false := by exact rfl) : zd3 i Q (.exit k) ⟨e, L, H⟩ := z8m hik h
theorem m58 {pl : List (Nat × Nat)} {zc zc' vs : List AV} {i off sz : Nat} {x : Operand} {ps : List (Nat × Operand)} {k : List AV → Prop} {v : AV} (h : fK pl zc' ps k ⟨e, L, H⟩) (hx : St.ev ⟨e, L, H⟩ x = .val v := by (conv => {lhs; whnf}); done) (hc : v.cells = some vs := by first | exact rfl | exact zcn (FL.len (by assumption)) | exact zcn (IL.len (by assumption)) | fail) (hp : pl[i]? = some (off, sz) := by exact rfl) (hl : (vs.length == sz && decide (off + vs.length ≤ zc.length)) = true := by exact rfl) (hz : sc zc off vs = zc' := by (conv => {lhs; simp only [sc, List.set_cons_zero, List.set_cons_succ]}); done) : fK pl zc ((i, x) :: ps) k ⟨e, L, H⟩ := zr7 hx hc hp hl hz h
end
section
theorem m21 {P : Program} {cfg : Cfg} {e : List (Nat × EV)} {L : List (Nat × List AV)} {H : List (List AV)} {K : St → Prop} {dd id : Nat} {acc : List AV} {x : Operand} {xs : List Operand} {v : AV} (h : zd1 P cfg id xs (acc ++ [v]) dd K ⟨e, L, H⟩) (hv : St.ev ⟨e, L, H⟩ x = .val v := by (conv => {lhs; whnf}); done) : zd1 P cfg id (x :: xs) acc dd K ⟨e, L, H⟩ := zqz hv h
theorem m35 {nY : NY} {K : St → Prop} {d : Option Tmp} {ty : TypeId} {pos : String} {aft : Array Edge} {gd : Option (Nat × Bool)} {t : TypeId} {x : Operand} {st s : St} {v : AV} (h : K s) (hv : St.ev st x = .val v := by (conv => {lhs; whnf}); done) : ckK (.ld true) nY ⟨d, .load t x, ty, pos, aft, gd⟩ st K s := z9y hv h
theorem m44 {e : List (Nat × EV)} {L : List (Nat × List AV)} {H : List (List AV)} {b : Nat} {xs : List Operand} {acc : List AV} {k : List AV → Prop} (h : gK xs (acc ++ [.flt b]) k ⟨e, L, H⟩) (hb : (decide (b < 2 ^ 64) && !isNaN b) = true := by kernel_rfl) : gK (.const (.float .f64 b) :: xs) acc k ⟨e, L, H⟩ := zvp hb h
theorem m56 {q : Bool} {nY : NY} {o : Oper} {e e' : List (Nat × EV)} {L : List (Nat × List AV)} {A N N' M : List (List AV)} {K : St → Prop} (h : K ⟨e', L, A ++ N'⟩) (hN : N ++ M = N' := by exact rfl) : ckK (.mn q) nY o ⟨e, L, A ++ N⟩ K ⟨e', L, A ++ N'⟩ := z90 hN h
end
section
variable {P : Program} {cfg : Cfg} {e e' : List (Nat × EV)} {L : List (Nat × List AV)} {H : List (List AV)} {Q : XE → St → Prop} {K : St → Prop}
variable {kn : Option (Nat × Bool)} {ops : Array Oper} {nY : NY} {d : Option Tmp} {o : Op} {ty : TypeId} {pos : String} {aft : Array Edge} {rest : List (Nat × DFl)} {i j : Nat} {f : DFl} {b want : Bool} {gd : Option (Nat × Bool)} {dd : Nat}
theorem m23 {x : Operand} {n : Nat} {vs : List AV} {v : AV} (h : K ⟨(dd, .val v) :: e, L, H⟩) (hx : St.ev ⟨e, L, H⟩ x = .val (.tup vs) := by (conv => {lhs; whnf}); done) (hv : vs[n]? = some v := by exact rfl) : opX P cfg ⟨some dd, .extract x n, ty, pos, aft, gd⟩ K ⟨e, L, H⟩ := z8o hx hv h
theorem m25 {t : TypeId} {x v : Operand} {key off n : Nat} {a : Bool} {cs vs cs' : List AV} [ti : TyI P t n a] {ev : EV} (h : K ⟨e, (key, cs') :: L, H⟩) (hx : St.ev ⟨e, L, H⟩ x = .loc key off := by (conv => {lhs; whnf}); done) (hv : St.ev ⟨e, L, H⟩ v = ev := by (conv => {lhs; whnf}); done) (hvs : ev.asV.bind AV.cells = some vs := by first | exact rfl | exact zcn (FL.len (by assumption)) | exact zcn (IL.len (by assumption)) | fail) (hn : vs.length = n := by exact rfl) (hc : lk L key = some cs := by exact rfl) (hle : off + vs.length ≤ cs.length := by exact Nat.le_of_ble_eq_true rfl) (hcs : sc cs off vs = cs' := by (conv => {lhs; simp only [sc, List.set_cons_zero, List.set_cons_succ]}); done) : opX P cfg ⟨none, .store t x v, ty, pos, aft, gd⟩ K ⟨e, L, H⟩ := z8u hx hv hvs hn hc hle hcs h
theorem m28 {t : Nat} {v : EV} (h : zba P cfg ops nY f ⟨d, o, ty, pos, aft, some (j, want)⟩ j want t rest K ⟨e, L, H⟩ v) (ho : ops[i]? = some ⟨d, o, ty, pos, aft, some (j, want)⟩ := by exact rfl) (ht : (ops[j]?).bind (·.dst) = some t := by exact rfl) (hd : (d == some t) = false := by exact rfl) (hv : St.ev ⟨e, L, H⟩ (.tmp t) = v := by (conv => {lhs; whnf}); done) : exD P cfg ops nY none ((i, f) :: rest) K ⟨e, L, H⟩ := qb9 ho ht hd hv h
theorem m29 {t j' : Nat} {b' : Bool} {v : EV} (h : zba P cfg ops nY f ⟨d, o, ty, pos, aft, some (j, want)⟩ j want t rest K ⟨e, L, H⟩ v) (ho : ops[i]? = some ⟨d, o, ty, pos, aft, some (j, want)⟩ := by exact rfl) (ht : (ops[j]?).bind (·.dst) = some t := by exact rfl) (hd : (d == some t) = false := by exact rfl) (hj : (j' == j) = false := by exact rfl) (hv : St.ev ⟨e, L, H⟩ (.tmp t) = v := by (conv => {lhs; whnf}); done) : exD P cfg ops nY (some (j', b')) ((i, f) :: rest) K ⟨e, L, H⟩ := qca ho ht hd hj hv h
theorem m30 {t : Nat} (h : exD P cfg ops nY kn rest K ⟨(dd, .val (.tup [])) :: e, L, H⟩) (ho : ops[i]? = some ⟨some dd, o, ty, pos, aft, some (j, want)⟩ := by exact rfl) (ht : (ops[j]?).bind (·.dst) = some t := by exact rfl) (hd : (dd == t) = false := by exact rfl) (hk : kn ≠ some (j, want) ∧ kn ≠ some (j, !want) := by constructor <;> simp) (hv : St.ev ⟨e, L, H⟩ (.tmp t) = .val (.tup []) := by exact rfl) (hn : kn.any (fun p => ((ops[p.1]?).bind (·.dst)) == some dd) = false := by exact rfl) : exD P cfg ops nY kn ((i, f) :: rest) K ⟨e, L, H⟩ := qcd ho ht hd hk hv hn h
theorem m31 {t : Nat} (h : exD P cfg ops nY (some (j, b)) rest K ⟨(dd, .val (.tup [])) :: e, L, H⟩) (ho : ops[i]? = some ⟨some dd, o, ty, pos, aft, some (j, want)⟩ := by exact rfl) (ht : (ops[j]?).bind (·.dst) = some t := by exact rfl) (hd : (dd == t) = false := by exact rfl) (hb : b = !want := by exact rfl) : exD P cfg ops nY (some (j, b)) ((i, f) :: rest) K ⟨e, L, H⟩ := qcb ho ht hd hb h
theorem m32 {t : Nat} (h : opX P cfg ⟨d, o, ty, pos, aft, some (j, want)⟩ (ckK f nY ⟨d, o, ty, pos, aft, some (j, want)⟩ ⟨e, L, H⟩ (exD P cfg ops nY (some (j, want)) rest K)) ⟨e, L, H⟩) (ho : ops[i]? = some ⟨d, o, ty, pos, aft, some (j, want)⟩ := by exact rfl) (ht : (ops[j]?).bind (·.dst) = some t := by exact rfl) (hd : (d == some t) = false := by exact rfl) : exD P cfg ops nY (some (j, want)) ((i, f) :: rest) K ⟨e, L, H⟩ := qcc ho ht hd h
theorem m33 {hl : Bool} {op : BinOp} {t t' : TypeId} {x y : Operand} {st s : St} {v : EV} (h : K s) (hv : St.ev st x = v := by (conv => {lhs; whnf}); done) (hk : (hl || !z4i v) = true := by exact rfl) : ckK (.ld hl) nY ⟨d, .binOp op t x y t', ty, pos, aft, gd⟩ st K s := z9x hv hk h
theorem m34 {hl : Bool} {t : TypeId} {x : Operand} {st s : St} {v : EV} (h : K s) (hv : St.ev st x = v := by (conv => {lhs; whnf}); done) (hk : z4l nY hl v = true := by exact rfl) : ckK (.ld hl) nY ⟨d, .load t x, ty, pos, aft, gd⟩ st K s := k_ld hv hk h
theorem m36  (h : opX P cfg ⟨d, o, ty, pos, aft, none⟩ (ckK f nY ⟨d, o, ty, pos, aft, none⟩ ⟨e, L, H⟩ (exD P cfg ops nY none rest K)) ⟨e, L, H⟩) (ho : ops[i]? = some ⟨d, o, ty, pos, aft, none⟩ := by exact rfl) : exD P cfg ops nY none ((i, f) :: rest) K ⟨e, L, H⟩ := qb7 ho h
theorem m37  (h : opX P cfg ⟨d, o, ty, pos, aft, none⟩ (ckK f nY ⟨d, o, ty, pos, aft, none⟩ ⟨e, L, H⟩ (exD P cfg ops nY (some (j, b)) rest K)) ⟨e, L, H⟩) (ho : ops[i]? = some ⟨d, o, ty, pos, aft, none⟩ := by exact rfl) (hj : (((ops[j]?).bind (·.dst)) == d) = false := by exact rfl) : exD P cfg ops nY (some (j, b)) ((i, f) :: rest) K ⟨e, L, H⟩ := qb8 ho hj h
theorem m52 {x y : Int} (h : K ⟨(dd, .val (.bool true)) :: e, L, H⟩) (hp : x = y := by omega) : zb8 dd K ⟨e, L, H⟩ (some (True, .bool (x == y))) := qdn hp h
theorem m53 {x y : Int} (h : K ⟨(dd, .val (.bool false)) :: e, L, H⟩) (hp : x ≠ y := by omega) : zb8 dd K ⟨e, L, H⟩ (some (True, .bool (x == y))) := qdm hp h
theorem m54 {x y : Int} (h : K ⟨(dd, .val (.bool true)) :: e, L, H⟩) (hp : x ≠ y := by omega) : zb8 dd K ⟨e, L, H⟩ (some (True, .bool (x != y))) := qbe hp h
theorem m55 {x y : Int} (h : K ⟨(dd, .val (.bool false)) :: e, L, H⟩) (hp : x = y := by omega) : zb8 dd K ⟨e, L, H⟩ (some (True, .bool (x != y))) := qbc hp h
end
section
variable {P : Program} {cfg : Cfg} {dr : Array Oper → (St → Prop) → St → Prop} {e : List (Nat × EV)} {L : List (Nat × List AV)} {H : List (List AV)} {Q : XE → St → Prop} {K : St → Prop}
variable {d : Option Tmp} {ty : TypeId} {pos : String} {aft : Array Edge} {gd : Option (Nat × Bool)} {dd : Nat}
theorem m39 {f : Operand} {id : Nat} {first caps : List AV} {args : Array Operand} {ts : Array TypeId} (h : gK args.toList [] (fun vs => zb4 P cfg id (first ++ vs ++ caps) dd K ⟨e, L, H⟩) ⟨e, L, H⟩) (hf : St.ev ⟨e, L, H⟩ f = .val (.func id first caps) := by first | (conv => {lhs; whnf}; done) | exact (by exact rfl) | fail) : opX P cfg ⟨some dd, .call { callee := .value f, args := args, argTypes := ts }, ty, pos, aft, gd⟩ K ⟨e, L, H⟩ := zy2 hf h
theorem m41 {b : Nat} (h : K ⟨(dd, .val (.flt b)) :: e, L, H⟩) (hb : (decide (b < 2 ^ 64) && !isNaN b) = true := by kernel_rfl) : opX P cfg ⟨some dd, .move (.const (.float .f64 b)), ty, pos, aft, gd⟩ K ⟨e, L, H⟩ := zy8 hb h
theorem m42 {b : Nat} (h : K ⟨(dd, .val (.flt b)) :: e, L, H⟩) (hb : (decide (b < 2 ^ 64) && !isNaN b) = true := by kernel_rfl) : opX P cfg ⟨some dd, .assign (.const (.float .f64 b)), ty, pos, aft, gd⟩ K ⟨e, L, H⟩ := zq6 hb h
theorem m43 {id : Nat} {xs : List Operand} {acc : List AV} {b : Nat} (h : zd1 P cfg id xs (acc ++ [.flt b]) dd K ⟨e, L, H⟩) (hb : (decide (b < 2 ^ 64) && !isNaN b) = true := by kernel_rfl) : zd1 P cfg id (.const (.float .f64 b) :: xs) acc dd K ⟨e, L, H⟩ := zyt hb h
end
section
variable {P : Program} {cfg : Cfg} {e : List (Nat × EV)} {L : List (Nat × List AV)} {H : List (List AV)} {K : St → Prop} {ty : TypeId} {pos : String} {aft : Array Edge} {gd : Option (Nat × Bool)} {dd : Nat}
theorem m45 {t t' : TypeId} [u : UI P t .bool] {x y : Operand} {p q : Bool} (h : zb8 dd K ⟨e, L, H⟩ (some (True, .bool (p == q)))) (hx : St.ev ⟨e, L, H⟩ x = .val (.bool p) := by first | (conv => {lhs; whnf}; done) | exact (by exact rfl) | fail) (hy : St.ev ⟨e, L, H⟩ y = .val (.bool q) := by first | (conv => {lhs; whnf}; done) | exact (by exact rfl) | fail) : opX P cfg ⟨some dd, .binOp .eql t x y t', ty, pos, aft, gd⟩ K ⟨e, L, H⟩ := z2z hx hy h
end
section
variable {P : Program} {f : Nat} {fn : Func} {body : Code} {args : List AV} {H H' : List (List AV)} {r : AV}
theorem Spec.go (hf : P.funcs[f]? = some fn) (esc : Bool) (fz : List Nat) (hdr : ∀ C : Cx, C.P = P → C.cfg = ⟨esc, H.length, fz⟩ → zgd C (zds P ⟨esc, H.length, fz⟩)) (h : Ex P ⟨esc, H.length, fz⟩ (zds P ⟨esc, H.length, fz⟩) body (zd4 P fn H r H') ⟨za0 0 args, [], H ++ []⟩) (hb : fn.body = some body := by rfl) (hd : zdg fn.ntmps body = true := by kernel_rfl) (hn : args.length ≤ fn.ntmps := by simp) : Spec P f args H r H' := Spec.intro' hf hb hd hn esc fz hdr h
theorem zaa.go (he : Enters P f) (hf : P.funcs[f]? = some fn) (esc : Bool) (fz : List Nat) (hdr : ∀ C : Cx, C.P = P → C.cfg = ⟨esc, H.length, fz⟩ → zgd C (zds P ⟨esc, H.length, fz⟩)) (h : Ex P ⟨esc, H.length, fz⟩ (zds P ⟨esc, H.length, fz⟩) body (zd4 P fn H r H') ⟨za0 0 args, [], H ++ []⟩) (hb : fn.body = some body := by rfl) (hd : zdg fn.ntmps body = true := by kernel_rfl) (hn : args.length ≤ fn.ntmps := by simp) : zaa P f args H r H' := .mk he (Spec.intro' hf hb hd hn esc fz hdr h)
theorem cA {cfg : Cfg} {e : List (Nat × EV)} {L : List (Nat × List AV)} {A N N' : List (List AV)} {K : St → Prop} {dd id : Nat} {vs : List AV} (hs : zaa P id vs (A ++ N) r (A ++ N')) (h : K ⟨(dd, .val r) :: e, L, A ++ N'⟩) (ho : cfg.n0 ≤ A.length := by simp) : zb4 P cfg id vs dd K ⟨e, L, A ++ N⟩ := c_call hs (zbk.app ho) h
end
end Go.Sx
set_option linter.unusedVariables false
set_option linter.unusedSimpArgs false
namespace Go.Sx
open Go.ChangeShapes Go.WideShapes Go.ChangeAt Go.RowKit Go.Deep
def aI (p : Nat × Nat) (l : List Int) : AV := .sl (if l = [] then none else some p) l.length (il l)
theorem zbl (H : List (List AV)) (p : Nat × Nat) (l : List Int) : IL H (aI p l) l := IL.fz H _ l
inductive Shp where
  | flt
  | bool
  | int (k : IntKind)
  | fls
  | ils
  | st (l : List Shp)
mutual
def Shp.n : Shp → Nat
  | .st l => Shp.ns l
  | _ => 1
def Shp.ns : List Shp → Nat
  | [] => 0
  | s :: r => s.n + Shp.ns r
end
mutual
def Shp.Dom : Shp → List AV → Prop
  | .flt, cz => ∃ x, cz = [.flt x]
  | .bool, cz => ∃ b, cz = [.bool b]
  | .int k, cz => ∃ i, cz = [.int k i] ∧ k.min ≤ i ∧ i ≤ k.max
  | .fls, cz => ∃ p l, cz = [aD p l] ∧ l.length ≤ 9223372036854775807
  | .ils, cz => ∃ p l, cz = [aI p l] ∧ l.length ≤ 9223372036854775807 ∧ ∀ x ∈ l, -9223372036854775808 ≤ x ∧ x ≤ 9223372036854775807
  | .st l, cz => Shp.Doms l cz
def Shp.Doms : List Shp → List AV → Prop
  | [], cz => cz = []
  | s :: r, cz => ∃ a b, cz = a ++ b ∧ s.Dom a ∧ Shp.Doms r b
end
def z2g (P : Program) (t : TypeId) (d : TypeDesc) : Bool :=
  match P.underlying t, d with
  | some (.float .f64), .float .f64 => true
  | some .bool, .bool => true
  | some (.int k), .int k' => decide (k = k')
  | _, _ => false
mutual
def Shp.ok (P : Program) : Nat → Shp → TypeId → Bool
  | 0, _, _ => false
  | d + 1, s, t =>
    match s, P.underlying t with
    | .flt, some (.float .f64) => P.cellsOf t == 1
    | .bool, some .bool => P.cellsOf t == 1
    | .int k, some (.int k') => decide (k = k') && P.cellsOf t == 1
    | .fls, some (.slice e) => z2g P e (.float .f64) && P.cellsOf e == 1 && P.cellsOf t == 1
    | .ils, some (.slice e) => z2g P e (.int .i64) && P.cellsOf e == 1 && P.cellsOf t == 1
    | .st l, some (.struct fs) => P.cellsOf t == Shp.ns l && Shp.oks P d l fs.toList 0
    | _, _ => false
def Shp.oks (P : Program) : Nat → List Shp → List Field → Nat → Bool
  | 0, _, _, _ => false
  | _ + 1, [], [], _ => true
  | d + 1, s :: r, f :: fs, o => f.offset == o && P.cellsOf f.type == s.n && Shp.ok P d s f.type && Shp.oks P d r fs (o + s.n)
  | _, _, _, _ => false
end
section
variable {H : Type} {enc : TypeId × Value → H} {P : Program} {W : World} {base : Nat}
theorem ztg {t e : TypeId} {n : Nat} {X : Value} {x : DataW H × List MemPlace} (ht : P.underlying t = some (.slice e)) (he : P.underlying e = some (.int .i64)) (hc : P.cellsOf e = 1) (h : DataW.trod enc P W base (fun _ => true) true n t [X] = some x) :
    ∃ p l, (l.length ≤ 9223372036854775807 ∧ ∀ x ∈ l, -9223372036854775808 ≤ x ∧ x ≤ 9223372036854775807) ∧ zay W (g0 W) (aI p l) X := by
  rcases open_slice1 ht hc h with ⟨h1, _⟩ | ⟨a, len, cap, m, k, V, D, Pl, h1, hb, hl, hm, hmm, _, hx⟩
  · simp only [List.cons.injEq, and_true] at h1
    subst h1
    exact ⟨(0, 0), [], by simp, by simp only [aI, if_true, zay]; exact ⟨0, Nat.le_refl _, .inl (by simp [il])⟩⟩
  · simp only [List.cons.injEq, and_true] at h1
    subst h1
    simp only [if_true] at hmm
    have hf : ∀ i, i < len → ∃ b, V i = .int .i64 b ∧ -9223372036854775808 ≤ b ∧ b ≤ 9223372036854775807 := fun i hi => zhb he (hx i (by omega)).2
    have hbs : ∃ bs : Nat → Int, ∀ i, i < len → V i = .int .i64 (bs i) ∧ -9223372036854775808 ≤ bs i ∧ bs i ≤ 9223372036854775807 :=
      ⟨fun i => if h : i < len then (hf i h).choose else 0, fun i hi => by simp only [hi, dif_pos]; exact (hf i hi).choose_spec⟩
    obtain ⟨bs, hbs⟩ := hbs
    have hml : maxLen = 9223372036854775807 := by decide
    refine ⟨(a.block, a.off), (List.range len).map fun i => bs i, ⟨by simp; omega, ?_⟩, ?_⟩
    · intro x hxm
      simp only [List.mem_map, List.mem_range] at hxm
      obtain ⟨i, hi, rfl⟩ := hxm
      exact (hbs i hi).2
    by_cases h0 : len = 0
    · subst h0
      simp only [aI, List.range_zero, List.map_nil, if_true, zay, List.length_nil]
      exact ⟨cap, Nat.zero_le _, .inl (by simp [il])⟩
    · have hc0 := (hx 0 (by omega)).1
      have ha0 : a.add 0 = a := by simp [Addr.add]
      rw [ha0] at hc0
      obtain ⟨_, _, hsh, _, hsp⟩ := World.shape?_of_cell? hc0
      have hae : a = ⟨a.block, a.off, none⟩ := by cases a; simp_all
      have hne : ¬ ((List.range len).map fun i => bs i) = [] := by simp; omega
      simp only [aI, if_neg hne, zay, List.length_map, List.length_range]
      have hblk : a.block < W.heap.size := by
        unfold World.shape? at hsh
        cases hq : W.heap[a.block]? with
        | none => rw [hq] at hsh; simp at hsh
        | some o => exact (Array.getElem?_eq_some_iff.1 hq).1
      refine ⟨cap, hl, .inr ⟨a.block, a.off, by rw [← hae], .inr rfl, hblk, ?_⟩⟩
      rw [zd2]
      intro i c hi
      have hil : i < len := by
        have := (List.getElem?_eq_some_iff.1 hi).1
        simpa [il] using this
      have hci := (hx i (by omega)).1
      have hadd : a.add i = ⟨a.block, a.off + i, none⟩ := by rw [hae]; simp [Addr.add]
      rw [hadd] at hci
      refine ⟨V i, hci, ?_, ?_⟩
      · rw [(hbs i hil).1]; rfl
      · simp [il, hil] at hi
        subst hi
        simp only [zay]
        exact (hbs i hil).1
theorem ztd {cells : List Value} (h : cells.length = 1) : ∃ v, cells = [v] := by
  match cells, h with
  | [v], _ => exact ⟨v, rfl⟩
theorem zvs {e : TypeId} (h : z2g P e (.float .f64) = true) : P.underlying e = some (.float .f64) := by
  unfold z2g at h
  split at h <;> simp_all
theorem zvt {e : TypeId} (h : z2g P e (.int .i64) = true) : P.underlying e = some (.int .i64) := by
  unfold z2g at h
  split at h <;> simp_all
def zya (cells : List Value) : Prop := ∀ x ∈ cells, x.oneCell' = true
theorem z2r {p : Nat × Nat} {l : List Nat} {v : Value} (h : zay W (g0 W) (aD p l) v) : v.oneCell' = true := by
  simp only [aD, zay] at h
  obtain ⟨cap, _, ⟨_, _, _, ao, rfl⟩ | ⟨b, o, rfl, _⟩⟩ := h <;> rfl
theorem z2s {p : Nat × Nat} {l : List Int} {v : Value} (h : zay W (g0 W) (aI p l) v) : v.oneCell' = true := by
  simp only [aI, zay] at h
  obtain ⟨cap, _, ⟨_, _, _, ao, rfl⟩ | ⟨b, o, rfl, _⟩⟩ := h <;> rfl
mutual
theorem Shp.opens : ∀ (d : Nat) (s : Shp) (t : TypeId) (n : Nat) (cells : List Value) (x : DataW H × List MemPlace), Shp.ok P d s t = true → DataW.trod enc P W base (fun _ => true) true n t cells = some x → cells.length = s.n →
    ∃ cz, s.Dom cz ∧ zbq W (g0 W) cz cells ∧ zya cells
  | 0, s, t, n, cells, x, h, _, _ => by simp [Shp.ok] at h
  | d + 1, s, t, n, cells, x, h, ht, hl => by
    unfold Shp.ok at h
    split at h
    · rename_i hu
      obtain ⟨v, rfl⟩ := ztd hl
      obtain ⟨b, rfl, hb⟩ := zpc hu ht
      exact ⟨[.flt (cn b)], ⟨_, rfl⟩, by simp only [zbq]; exact ⟨_, _, rfl, by simp only [zay]; exact ⟨b, rfl, hb, rfl⟩, rfl⟩, by intro x hx; simp at hx; subst hx; rfl⟩
    · rename_i hu
      obtain ⟨b, h1, _⟩ := DataW.trod_bool hu ht
      subst h1
      exact ⟨[.bool b], ⟨_, rfl⟩, by simp only [zbq]; exact ⟨_, _, rfl, by simp [zay], rfl⟩, by intro x hx; simp at hx; subst hx; rfl⟩
    · rename_i k k' hu
      simp only [Bool.and_eq_true, decide_eq_true_eq] at h
      obtain ⟨rfl, _⟩ := h
      obtain ⟨i, h1, _, h2⟩ := DataW.trod_int hu ht
      subst h1
      simp only [Lit.wf, Bool.and_eq_true, decide_eq_true_eq] at h2
      exact ⟨[.int k i], ⟨_, rfl, h2.1, h2.2⟩, by simp only [zbq]; exact ⟨_, _, rfl, by simp [zay], rfl⟩, by intro x hx; simp at hx; subst hx; rfl⟩
    · rename_i e hu
      simp only [Bool.and_eq_true, beq_iff_eq] at h
      obtain ⟨v, rfl⟩ := ztd hl
      obtain ⟨p, l, h1, h2⟩ := zna hu (zvs h.1.1) h.1.2 ht
      exact ⟨[aD p l], ⟨_, _, rfl, h1⟩, by simp only [zbq]; exact ⟨_, _, rfl, h2, rfl⟩, by intro x hx; simp at hx; subst hx; exact z2r h2⟩
    · rename_i e hu
      simp only [Bool.and_eq_true, beq_iff_eq] at h
      obtain ⟨v, rfl⟩ := ztd hl
      obtain ⟨p, l, h1, h2⟩ := ztg hu (zvt h.1.1) h.1.2 ht
      exact ⟨[aI p l], ⟨_, _, rfl, h1⟩, by simp only [zbq]; exact ⟨_, _, rfl, h2, rfl⟩, by intro x hx; simp at hx; subst hx; exact z2s h2⟩
    · rename_i l fs hu
      simp only [Bool.and_eq_true, beq_iff_eq] at h
      obtain ⟨xs, m, _, _, hcl, hlen, hg⟩ := DataW.trod_struct hu ht
      have := Shp.openss d l fs.toList 0 m cells h.2 (fun i f hi => ?_) (by rw [hcl, h.1, Nat.zero_add])
      · simpa [Shp.Dom] using this
      · have hi' : fs[i]? = some f := by simpa using hi
        have h3 := hg i f hi'
        have hlt : i < xs.length := by rw [hlen]; exact (Array.getElem?_eq_some_iff.1 hi').1
        exact ⟨xs[i], by rw [h3]; simp [hlt]⟩
    · cases h
theorem Shp.openss : ∀ (d : Nat) (l : List Shp) (fs : List Field) (o : Nat) (m : Nat) (cells : List Value), Shp.oks P d l fs o = true →
    (∀ (i : Nat) (f : Field), fs[i]? = some f → ∃ y, DataW.trod enc P W base (fun _ => true) true m f.type ((cells.drop f.offset).take (P.cellsOf f.type)) = some y) → cells.length = o + Shp.ns l →
    ∃ cz, Shp.Doms l cz ∧ zbq W (g0 W) cz (cells.drop o) ∧ zya (cells.drop o)
  | 0, _, _, _, _, _, h, _, _ => by simp [Shp.oks] at h
  | d + 1, [], [], o, m, cells, h, _, hl => by
    have : cells.drop o = [] := by rw [List.drop_eq_nil_iff]; simp [Shp.ns] at hl; omega
    exact ⟨[], by simp [Shp.Doms], by rw [this]; simp [zbq], by rw [this]; intro x hx; simp at hx⟩
  | d + 1, s :: r, f :: fs, o, m, cells, h, hg, hl => by
    simp only [Shp.oks, Bool.and_eq_true, beq_iff_eq] at h
    obtain ⟨⟨⟨h1, h2⟩, h3⟩, h4⟩ := h
    simp only [Shp.ns] at hl
    obtain ⟨y, hy⟩ := hg 0 f (by simp)
    rw [h1, h2] at hy
    obtain ⟨a, ha1, ha2, ha3⟩ := Shp.opens d s f.type m _ y h3 hy (by rw [List.length_take, List.length_drop]; omega)
    obtain ⟨b, hb1, hb2, hb3⟩ := Shp.openss d r fs (o + s.n) m cells h4 (fun i f' hi => hg (i + 1) f' (by simpa using hi)) (by omega)
    have e : cells.drop o = (cells.drop o).take s.n ++ cells.drop (o + s.n) := by
      rw [← List.drop_drop, List.take_append_drop]
    refine ⟨a ++ b, ?_, ?_, ?_⟩
    · simp only [Shp.Doms]; exact ⟨a, b, rfl, ha1, hb1⟩
    · rw [e]; exact zfb ha2 hb2
    · rw [e]; intro x hx
      rcases List.mem_append.1 hx with hx | hx
      · exact ha3 x hx
      · exact hb3 x hx
  | d + 1, [], _ :: _, o, m, cells, h, _, _ => by simp [Shp.oks] at h
  | d + 1, _ :: _, [], o, m, cells, h, _, _ => by simp [Shp.oks] at h
end
theorem z0q {t : TypeId} {l : List Shp} {v : Value} {d : DataW H} {ps : List MemPlace} {r : Reach} {b0 : Nat} {fs : Array Field} (hs : P.underlying t = some (.struct fs)) (hok : Shp.ok P 40 (.st l) t = true)
    (hv : Value.okWide P W r b0 t v) (h : DataW.Trod enc P W base (fun _ => true) true t v d ps) : ∃ cz, Shp.Doms l cz ∧ zay W (g0 W) (.agg cz) v := by
  obtain ⟨cs, rfl, hsz⟩ := okWide_struct hs hv
  obtain ⟨fuel, hf⟩ := h
  have hn : cs.toList.length = (Shp.st l).n := by
    simp only [Shp.ok, hs, Bool.and_eq_true, beq_iff_eq] at hok
    simp only [Shp.n]
    rw [← hok.1, ← hsz]; simp
  obtain ⟨cz, h1, h2, h3⟩ := Shp.opens 40 (.st l) t fuel cs.toList _ hok hf hn
  exact ⟨cz, by simpa [Shp.Dom] using h1, by simp only [zay]; exact ⟨cs, rfl, h3, h2⟩⟩
def z4h : Shp := .int .i64
theorem zz0 : IntKind.i64.min = -9223372036854775808 := by decide
theorem zzy : IntKind.i64.max = 9223372036854775807 := by decide
def z9m : List Shp := [.st [.fls, z4h, z4h, z4h, z4h], .ils]
theorem zzp {cz : List AV} (h : Shp.Doms z9m cz) : ∃ p l off rows cols ld q m, MI l.length off rows cols ld ∧ m.length ≤ 9223372036854775807 ∧ (∀ x ∈ m, -9223372036854775808 ≤ x ∧ x ≤ 9223372036854775807) ∧ cz = [aD p l, .int .i64 off, .int .i64 rows, .int .i64 cols, .int .i64 ld, aI q m] := by
  simp only [z9m, z4h, Shp.Doms, Shp.Dom, zz0, zzy] at h
  obtain ⟨a, b, rfl, ⟨a1, b1, rfl, ⟨p, l, rfl, hl⟩, a2, b2, rfl, ⟨off, rfl, h1, h2⟩, a3, b3, rfl, ⟨rows, rfl, h3, h4⟩, a4, b4, rfl, ⟨cols, rfl, h5, h6⟩, a5, b5, rfl, ⟨ld, rfl, h7, h8⟩, rfl⟩, a6, b6, rfl, ⟨q, m, rfl, hm, hx⟩, rfl⟩ := h
  exact ⟨p, l, off, rows, cols, ld, q, m, ⟨hl, h1, h2, h3, h4, h5, h6, h7, h8⟩, hm, hx, rfl⟩
theorem zow {t e : TypeId} {v : Value} {d : DataW H} {ps : List MemPlace} {r : Reach} {b0 : Nat} (ht : P.underlying t = some (.slice e)) (he : P.underlying e = some (.int .i64)) (hc : P.cellsOf e = 1) (hv : Value.okWide P W r b0 t v) (h : DataW.Trod enc P W base (fun _ => true) true t v d ps) :
    ∃ p l, (l.length ≤ 9223372036854775807 ∧ ∀ x ∈ l, -9223372036854775808 ≤ x ∧ x ≤ 9223372036854775807) ∧ zay W (g0 W) (aI p l) v := by
  obtain ⟨n, hn⟩ := h
  rw [zix ht hv] at hn
  exact ztg ht he hc hn
end
end Go.Sx
