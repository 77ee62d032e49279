/- A part of the proofs of this seat: YE. No condition is set. -/
import Derived.Deep.Fields
import Derived.Deep.Slices
import Derived.KernelRfl
import Derived.Laws.LoneSync
import Derived.OpenShut
import Derived.ProofKit
import Derived.Test.YtdlgclpoomlijaaProg
import Derived.WideKeyArgs
import Derived.Test.YtdlgclpoomlijaaYD
set_option linter.unusedVariables false
set_option linter.unusedSimpArgs false
namespace Go.Sx
def ckK (f : DFl) (nY : NY) (o : Oper) (st : St) (K : St → Prop) (s : St) : Prop := ckX f nY o st s ∧ K s
section
variable {P : Program} {cfg : Cfg} {e e' : List (Nat × EV)} {L : List (Nat × List AV)} {H : List (List AV)} {Q : XE → St → Prop} {K : St → Prop}
variable {kn : Option (Nat × Bool)} {ops : Array Oper} {nY : NY} {d : Option Tmp} {o : Op} {ty : TypeId} {pos : String} {aft : Array Edge} {rest : List (Nat × DFl)} {i j : Nat} {f : DFl} {b want : Bool} {gd : Option (Nat × Bool)} {dd : Nat}
theorem zax {id : Nat} {l : List Oper} (nY ch : List Nat) (fl : List (Nat × DFl)) (hc : z2x cfg.esc cfg.fz [] l.toArray ch fl = true) (h : exD P cfg l.toArray ⟨nY, fun _ => false, []⟩ none fl (Q .normal) ⟨e, L, H⟩) (hb : zhj cfg.esc e l = true := by kernel_rfl) : Ex P cfg (zhl P cfg) (.region id l.toArray true) Q ⟨e, L, H⟩ := by
  simp only [Ex, if_true]; exact ⟨⟨nY, fun _ => false, []⟩, ch, fl, hc, rfl, hb, h⟩
theorem zct (h : K ⟨e, L, H⟩) : exD P cfg ops nY kn [] K ⟨e, L, H⟩ := h
theorem z5m (ho : ops[i]? = some ⟨d, o, ty, pos, aft, none⟩) (h : opX P cfg ⟨d, o, ty, pos, aft, none⟩ (ckK f nY ⟨d, o, ty, pos, aft, none⟩ ⟨e, L, H⟩ (exD P cfg ops nY none rest K)) ⟨e, L, H⟩) : exD P cfg ops nY none ((i, f) :: rest) K ⟨e, L, H⟩ := by
  unfold exD; simp only [ho]; exact h
theorem z5n (ho : ops[i]? = some ⟨d, o, ty, pos, aft, none⟩) (hj : (((ops[j]?).bind (·.dst)) == d) = false) (h : opX P cfg ⟨d, o, ty, pos, aft, none⟩ (ckK f nY ⟨d, o, ty, pos, aft, none⟩ ⟨e, L, H⟩ (exD P cfg ops nY (some (j, b)) rest K)) ⟨e, L, H⟩) :
    exD P cfg ops nY (some (j, b)) ((i, f) :: rest) K ⟨e, L, H⟩ := by
  unfold exD; simp only [ho, Option.any_some, hj]; exact h
def zbe (P : Program) (cfg : Cfg) (ops : Array Oper) (nY : NY) (f : DFl) (o : Oper) (j : Nat) (want : Bool) (t : Nat) (rest : List (Nat × DFl)) (K : St → Prop) (st : St) (v : EV) : Prop :=
  St.ev st (.tmp t) = v →
  match v.asB with
  | none => False
  | some b =>
    (b = want → opX P cfg o (ckK f nY o st (exD P cfg ops nY (some (j, want)) rest K)) ⟨upd t (.val (.bool want)) st.env, st.L, st.H⟩) ∧
    (b = !want → exD P cfg ops nY (some (j, !want)) rest K (St.put ⟨upd t (.val (.bool (!want))) st.env, st.L, st.H⟩ o.dst (.val (.tup []))))
theorem z5r {t : Nat} (ho : ops[i]? = some ⟨d, o, ty, pos, aft, some (j, want)⟩) (ht : (ops[j]?).bind (·.dst) = some t) (hd : (d == some t) = false)
    (h : opX P cfg ⟨d, o, ty, pos, aft, some (j, want)⟩ (ckK f nY ⟨d, o, ty, pos, aft, some (j, want)⟩ ⟨e, L, H⟩ (exD P cfg ops nY (some (j, want)) rest K)) ⟨e, L, H⟩) :
    exD P cfg ops nY (some (j, want)) ((i, f) :: rest) K ⟨e, L, H⟩ := by
  have hd' : d ≠ some t := by simpa using hd
  unfold exD; simp only [ho, ht, hd', if_false, if_true]; exact h
theorem z5q {t : Nat} (ho : ops[i]? = some ⟨some dd, o, ty, pos, aft, some (j, want)⟩) (ht : (ops[j]?).bind (·.dst) = some t) (hd : (dd == t) = false) (hb : b = !want) (h : exD P cfg ops nY (some (j, b)) rest K ⟨(dd, .val (.tup [])) :: e, L, H⟩) :
    exD P cfg ops nY (some (j, b)) ((i, f) :: rest) K ⟨e, L, H⟩ := by
  have hd' : dd ≠ t := by simpa using hd
  subst hb
  unfold exD
  have h2 : ¬ (!want) = want := by cases want <;> simp
  simp only [ho, ht, Option.some.injEq, Prod.mk.injEq, hd', h2, and_false, if_false, if_true]; exact h
theorem zqg {t : Nat} {v : EV} (ho : ops[i]? = some ⟨d, o, ty, pos, aft, some (j, want)⟩) (ht : (ops[j]?).bind (·.dst) = some t) (hd : (d == some t) = false) (hk : kn ≠ some (j, want) ∧ kn ≠ some (j, !want)) (hv : St.ev ⟨e, L, H⟩ (.tmp t) = v)
    (h : zbe P cfg ops nY f ⟨d, o, ty, pos, aft, some (j, want)⟩ j want t rest K ⟨e, L, H⟩ v) : exD P cfg ops nY kn ((i, f) :: rest) K ⟨e, L, H⟩ := by
  have hd' : d ≠ some t := by simpa using hd
  subst hv
  have h' := h rfl
  unfold exD
  simp only [ho, ht, hd', hk.1, hk.2, if_false]
  cases hb : (St.ev ⟨e, L, H⟩ (.tmp t)).asB with
  | none => rw [hb] at h'; exact h'.elim
  | some b => rw [hb] at h'; exact h'
theorem z5s {t : Nat} (ho : ops[i]? = some ⟨some dd, o, ty, pos, aft, some (j, want)⟩) (ht : (ops[j]?).bind (·.dst) = some t) (hd : (dd == t) = false) (hk : kn ≠ some (j, want) ∧ kn ≠ some (j, !want)) (hv : St.ev ⟨e, L, H⟩ (.tmp t) = .val (.tup [])) (hn : kn.any (fun p => ((ops[p.1]?).bind (·.dst)) == some dd) = false)
    (h : exD P cfg ops nY kn rest K ⟨(dd, .val (.tup [])) :: e, L, H⟩) : exD P cfg ops nY kn ((i, f) :: rest) K ⟨e, L, H⟩ := by
  have hd' : dd ≠ t := by simpa using hd
  unfold exD
  simp only [ho, ht, Option.some.injEq, hd', if_false, hk.1, hk.2, hv, EV.asB, EV.isU, if_true, hn, Bool.false_eq_true]
  exact h
theorem z5o {t : Nat} {v : EV} (ho : ops[i]? = some ⟨d, o, ty, pos, aft, some (j, want)⟩) (ht : (ops[j]?).bind (·.dst) = some t) (hd : (d == some t) = false) (hv : St.ev ⟨e, L, H⟩ (.tmp t) = v)
    (h : zbe P cfg ops nY f ⟨d, o, ty, pos, aft, some (j, want)⟩ j want t rest K ⟨e, L, H⟩ v) : exD P cfg ops nY none ((i, f) :: rest) K ⟨e, L, H⟩ := zqg ho ht hd ⟨by simp, by simp⟩ hv h
theorem z5p {t j' : Nat} {b' : Bool} {v : EV} (ho : ops[i]? = some ⟨d, o, ty, pos, aft, some (j, want)⟩) (ht : (ops[j]?).bind (·.dst) = some t) (hd : (d == some t) = false) (hj : (j' == j) = false) (hv : St.ev ⟨e, L, H⟩ (.tmp t) = v)
    (h : zbe P cfg ops nY f ⟨d, o, ty, pos, aft, some (j, want)⟩ j want t rest K ⟨e, L, H⟩ v) : exD P cfg ops nY (some (j', b')) ((i, f) :: rest) K ⟨e, L, H⟩ := by
  have hj' : j' ≠ j := by simpa using hj
  exact zqg ho ht hd ⟨by simp [hj'], by simp [hj']⟩ hv h
theorem zca {t : Nat} (h : opX P cfg ⟨d, o, ty, pos, aft, gd⟩ (ckK f nY ⟨d, o, ty, pos, aft, gd⟩ ⟨e, L, H⟩ (exD P cfg ops nY (some (j, true)) rest K)) ⟨e, L, H⟩) : zbe P cfg ops nY f ⟨d, o, ty, pos, aft, gd⟩ j true t rest K ⟨e, L, H⟩ (.val (.bool true)) :=
  fun hv => ⟨fun _ => by dsimp only; rw [upd_same (zjc hv)]; exact h, (fun h => Bool.noConfusion h)⟩
theorem zb5 {t : Nat} (h : opX P cfg ⟨d, o, ty, pos, aft, gd⟩ (ckK f nY ⟨d, o, ty, pos, aft, gd⟩ ⟨e, L, H⟩ (exD P cfg ops nY (some (j, false)) rest K)) ⟨e, L, H⟩) : zbe P cfg ops nY f ⟨d, o, ty, pos, aft, gd⟩ j false t rest K ⟨e, L, H⟩ (.val (.bool false)) :=
  fun hv => ⟨fun _ => by dsimp only; rw [upd_same (zjc hv)]; exact h, (fun h => Bool.noConfusion h)⟩
theorem zb9 {t : Nat} (h : exD P cfg ops nY (some (j, true)) rest K ⟨(dd, .val (.tup [])) :: e, L, H⟩) : zbe P cfg ops nY f ⟨some dd, o, ty, pos, aft, gd⟩ j false t rest K ⟨e, L, H⟩ (.val (.bool true)) :=
  fun hv => ⟨(fun h => Bool.noConfusion h), fun _ => by simp only [Bool.not_false]; rw [upd_same (zjc hv)]; exact h⟩
theorem zb6 {t : Nat} (h : exD P cfg ops nY (some (j, false)) rest K ⟨(dd, .val (.tup [])) :: e, L, H⟩) : zbe P cfg ops nY f ⟨some dd, o, ty, pos, aft, gd⟩ j true t rest K ⟨e, L, H⟩ (.val (.bool false)) :=
  fun hv => ⟨(fun h => Bool.noConfusion h), fun _ => by simp only [Bool.not_true]; rw [upd_same (zjc hv)]; exact h⟩
theorem zb8 {t : Nat} {p : Prop} [Decidable p] (h1 : p → opX P cfg ⟨some dd, o, ty, pos, aft, gd⟩ (ckK f nY ⟨some dd, o, ty, pos, aft, gd⟩ ⟨e, L, H⟩ (exD P cfg ops nY (some (j, true)) rest K)) ⟨upd t (.val (.bool true)) e, L, H⟩)
    (h2 : ¬ p → exD P cfg ops nY (some (j, false)) rest K ⟨(dd, .val (.tup [])) :: upd t (.val (.bool false)) e, L, H⟩) :
    zbe P cfg ops nY f ⟨some dd, o, ty, pos, aft, gd⟩ j true t rest K ⟨e, L, H⟩ (.val (.bool (decide p))) :=
  fun _ => ⟨fun h => h1 (of_decide_eq_true h), fun h => h2 (of_decide_eq_false h)⟩
theorem zb7 {t : Nat} {p : Prop} [Decidable p] (h1 : ¬ p → opX P cfg ⟨some dd, o, ty, pos, aft, gd⟩ (ckK f nY ⟨some dd, o, ty, pos, aft, gd⟩ ⟨e, L, H⟩ (exD P cfg ops nY (some (j, false)) rest K)) ⟨upd t (.val (.bool false)) e, L, H⟩)
    (h2 : p → exD P cfg ops nY (some (j, true)) rest K ⟨(dd, .val (.tup [])) :: upd t (.val (.bool true)) e, L, H⟩) :
    zbe P cfg ops nY f ⟨some dd, o, ty, pos, aft, gd⟩ j false t rest K ⟨e, L, H⟩ (.val (.bool (decide p))) :=
  fun _ => ⟨fun h => h1 (of_decide_eq_false h), fun h => h2 (of_decide_eq_true h)⟩
theorem zb4 {t : Nat} {b : Bool} (h1 : b = true → opX P cfg ⟨some dd, o, ty, pos, aft, gd⟩ (ckK f nY ⟨some dd, o, ty, pos, aft, gd⟩ ⟨e, L, H⟩ (exD P cfg ops nY (some (j, true)) rest K)) ⟨upd t (.val (.bool true)) e, L, H⟩)
    (h2 : b = false → exD P cfg ops nY (some (j, false)) rest K ⟨(dd, .val (.tup [])) :: upd t (.val (.bool false)) e, L, H⟩) :
    zbe P cfg ops nY f ⟨some dd, o, ty, pos, aft, gd⟩ j true t rest K ⟨e, L, H⟩ (.val (.bool b)) := fun _ => ⟨h1, h2⟩
theorem zb3 {t : Nat} {b : Bool} (h1 : b = false → opX P cfg ⟨some dd, o, ty, pos, aft, gd⟩ (ckK f nY ⟨some dd, o, ty, pos, aft, gd⟩ ⟨e, L, H⟩ (exD P cfg ops nY (some (j, false)) rest K)) ⟨upd t (.val (.bool false)) e, L, H⟩)
    (h2 : b = true → exD P cfg ops nY (some (j, true)) rest K ⟨(dd, .val (.tup [])) :: upd t (.val (.bool true)) e, L, H⟩) :
    zbe P cfg ops nY f ⟨some dd, o, ty, pos, aft, gd⟩ j false t rest K ⟨e, L, H⟩ (.val (.bool b)) := fun _ => ⟨h1, h2⟩
theorem zfe {o : Oper} {st s : St} (h : K s) : ckK .lt nY o st K s := ⟨trivial, h⟩
def z19 (nY : NY) (hl : Bool) : EV → Bool
  | .loc k _ => !nY.ks.contains k
  | .val (.eptr (.slm id _ _ _ _) _) => hl || nY.W id
  | _ => true
theorem k_ld {hl : Bool} {t : TypeId} {x : Operand} {st s : St} {v : EV} (hv : St.ev st x = v) (hk : z19 nY hl v = true) (h : K s) : ckK (.ld hl) nY ⟨d, .load t x, ty, pos, aft, gd⟩ st K s := by
  refine ⟨?_, h⟩
  subst hv
  simp only [ckX]
  unfold z19 at hk
  split at hk <;> split <;> first
    | trivial
    | simp_all; done
    | (rename_i hne _ _ _ _ _ _ _ he; exact absurd rfl (hne _ _ _ _ _ _ |> fun h => by simp_all))
    | (exfalso; simp_all; rename_i hne; exact hne _ _ _ _ _ _ rfl rfl rfl rfl rfl rfl)
    | (exfalso; simp_all; rename_i hne _; exact hne _ _ _ _ _ _ rfl rfl rfl rfl rfl rfl)
theorem z3n {hl : Bool} {op : BinOp} {t t' : TypeId} {x y : Operand} {st s : St} {v : EV} (hv : St.ev st x = v) (hk : (hl || !z16 v) = true) (h : K s) : ckK (.ld hl) nY ⟨d, .binOp op t x y t', ty, pos, aft, gd⟩ st K s := by
  refine ⟨?_, h⟩
  subst hv
  have : z16 (st.ev x) = true → hl = true := by intro h'; rw [h'] at hk; simpa using hk
  cases op <;> simp only [ckX] <;> first | trivial | exact this
theorem zff {q : Bool} {o : Oper} (h : K ⟨e', L, H⟩) : ckK (.mn q) nY o ⟨e, L, H⟩ K ⟨e', L, H⟩ := ⟨⟨fun _ _ => rfl, fun _ _ _ => rfl⟩, h⟩
theorem z3p {q : Bool} {o : Oper} {N : List (List AV)} (h : K ⟨e', L, H ++ N⟩) : ckK (.mn q) nY o ⟨e, L, H⟩ K ⟨e', L, H ++ N⟩ := ⟨⟨fun _ _ => rfl, fun id _ hid => List.getElem?_append_left hid⟩, h⟩
theorem zcw {o : Oper} {H' : List (List AV)} (h : K ⟨e', L, H'⟩) (hW : ∀ id, nY.W id = false := by intro _; rfl) : ckK (.mn false) nY o ⟨e, L, H⟩ K ⟨e', L, H'⟩ := ⟨⟨fun _ _ => rfl, fun id h => by rw [hW id] at h; simp at h⟩, h⟩
theorem zdr {q : Bool} {o : Oper} {k : Nat} {cs : List AV} (hk : nY.ks.contains k = true) (h : K ⟨e', (k, cs) :: L, H⟩) (hw : lk nY.kw k = none := by rfl) : ckK (.mn q) nY o ⟨e, L, H⟩ K ⟨e', (k, cs) :: L, H⟩ := by
  refine ⟨⟨fun k' hk' => ?_, fun _ _ _ => rfl⟩, h⟩
  have : k ≠ k' := fun hh => by
    subst hh
    rcases hk' with h' | h'
    · exact h' (by simpa using hk)
    · rw [hw] at h'; cases h'
  simp only [lk, this, if_false]
theorem zh8 {o : Oper} {k : Nat} {cs : List AV} (h : K ⟨e', (k, cs) :: L, H⟩) : ckK (.ms k) nY o ⟨e, L, H⟩ K ⟨e', (k, cs) :: L, H⟩ := by
  refine ⟨⟨fun k' hk' _ => ?_, rfl⟩, h⟩
  have : k ≠ k' := fun hh => hk' hh.symm
  simp only [lk, this, if_false]
theorem zh7 {t : TypeId} {x : Operand} {k off : Nat} {st s : St} (hv : St.ev st x = .loc k off) (h : K s) : ckK (.lb k) nY ⟨d, .load t x, ty, pos, aft, gd⟩ st K s := by
  refine ⟨?_, h⟩
  simp only [ckX, hv]
theorem zh6 {o : Oper} {st s : St} (h : K s) : ckK .fz nY o st K s := ⟨trivial, h⟩
theorem zh5 {o : Oper} {dd : Nat} {st s : St} (hd : o.dst = some dd) (hk : nY.ks.contains dd = true) (h : K s) (hw : lk nY.kw dd = none := by rfl) : ckK .bx nY o st K s := by
  refine ⟨fun d hh => ?_, h⟩
  rw [hd] at hh; simp only [Option.some.injEq] at hh; subst hh
  exact ⟨by simpa using hk, hw⟩
theorem z2j {x : Operand} {n : Nat} {vs : List AV} {v : AV} (hx : St.ev ⟨e, L, H⟩ x = .val (.tup vs)) (hv : vs[n]? = some v) (h : K ⟨(dd, .val v) :: e, L, H⟩) : opX P cfg ⟨some dd, .extract x n, ty, pos, aft, gd⟩ K ⟨e, L, H⟩ := by
  rw [zbu P cfg e L H K _ _ _ _ _ _ rfl]
  simp only [zas, hx, hv, Option.map_some]
  exact ⟨trivial, h⟩
theorem zn0 {t : TypeId} {x v : Operand} {key off n : Nat} {a : Bool} {cs vs cs' : List AV} [ti : TyI P t n a] {ev : EV} (hx : St.ev ⟨e, L, H⟩ x = .loc key off) (hv : St.ev ⟨e, L, H⟩ v = ev) (hvs : ev.asV.bind AV.cells = some vs) (hn : vs.length = n) (hc : lk L key = some cs)
    (hle : off + vs.length ≤ cs.length) (hcs : sc cs off vs = cs') (h : K ⟨e, (key, cs') :: L, H⟩) : opX P cfg ⟨none, .store t x v, ty, pos, aft, gd⟩ K ⟨e, L, H⟩ := by
  subst hv hcs
  simp only [opX, opE, hvs, ti.sz, hn, hx, zez, hc]
  exact ⟨trivial, trivial, by rw [← hn]; exact hle, h⟩
theorem zss {t : TypeId} {x v : Operand} {id gen o' len sz off n : Nat} {a : Bool} {cs vs cs' : List AV} [ti : TyI P t n a] {ev : EV} (hx : St.ev ⟨e, L, H⟩ x = .val (.eptr (.slm id gen o' len sz) off)) (hv : St.ev ⟨e, L, H⟩ v = ev) (hvs : ev.asV.bind AV.cells = some vs) (hn : vs.length = n) (hc : H[id]? = some cs)
    (hg : cs.length = gen) (hle : o' + off + vs.length ≤ cs.length) (hm : cfg.n0 ≤ id ∨ mxL vs ≤ cfg.n0) (hcs : sc cs (o' + off) vs = cs') (h : K ⟨e, L, H.set id cs'⟩) : opX P cfg ⟨none, .store t x v, ty, pos, aft, gd⟩ K ⟨e, L, H⟩ := by
  subst hv hcs
  simp only [opX, opE, hvs, ti.sz, hn, hx, zez, hc]
  exact ⟨trivial, trivial, hg, by rw [← hn]; exact hle, hm, h⟩
theorem v_q {x y : Int} (hx : 0 ≤ x ∧ x ≤ 9223372036854775807) (hy : 1 ≤ y) (h : K ⟨(dd, .val (.int .i64 (x / y))) :: e, L, H⟩) : zcq dd K ⟨e, L, H⟩ (some (True, .int .i64 (IntKind.i64.wrap (x.tdiv y)))) := by
  have h1 : x.tdiv y = x / y := Int.tdiv_eq_ediv_of_nonneg hx.1
  have h2 : 0 ≤ x / y := Int.ediv_nonneg hx.1 (by omega)
  have h3 : x / y ≤ x := Int.ediv_le_self _ hx.1
  rw [h1]
  exact v_w (by omega) h
theorem zbm {x : Operand} {t : TypeId} {el z : Nat} [si : SlI P t el z] {s : AV} {n : Nat} (hx : St.ev ⟨e, L, H⟩ x = .val s) (hs : slen s = some n) (h : K ⟨(dd, .val (.int .i64 n)) :: e, L, H⟩) :
    opX P cfg ⟨some dd, .call { callee := .builtin .len, args := #[x], argTypes := #[t] }, ty, pos, aft, gd⟩ K ⟨e, L, H⟩ := z2k (t := t) rfl hx hs h
theorem zo5 {ρ : Operand → EV} {x : Operand} {xs : List Operand} {v : AV} {vs : List AV} (h : ρ x = .val v) (hr : zfc ρ xs = some vs) : zfc ρ (x :: xs) = some (v :: vs) := by
  unfold zfc at hr ⊢
  have h' : (ρ x).asV = some v := by rw [h]; rfl
  simp only [List.map_cons, List.mapM_cons, h', id_eq, hr]; rfl
theorem zv8 {id : Nat} {args : Array Operand} {ts : Array TypeId} {vs : List AV} (ha : zfc (St.ev ⟨e, L, H⟩) args.toList = some vs) {r : AV} {H' : List (List AV)}
    (hs : zaa P id vs H r H') (ho : za7 cfg.n0 H H') (h : K ⟨(dd, .val r) :: e, L, H'⟩) :
    opX P cfg ⟨some dd, .call { callee := .value (.func id), args := args, argTypes := ts }, ty, pos, aft, gd⟩ K ⟨e, L, H⟩ := b_call ha rfl hs ho h
theorem z6e {x y : Int} (hp : x = y) (h : K ⟨(dd, .val (.bool true)) :: e, L, H⟩) : zcq dd K ⟨e, L, H⟩ (some (True, .bool (x == y))) := by
  have : (x == y) = true := by simpa using hp
  rw [this]; exact ⟨trivial, h⟩
theorem z6d {x y : Int} (hp : x ≠ y) (h : K ⟨(dd, .val (.bool false)) :: e, L, H⟩) : zcq dd K ⟨e, L, H⟩ (some (True, .bool (x == y))) := by
  have : (x == y) = false := by simpa using hp
  rw [this]; exact ⟨trivial, h⟩
theorem zgv {x y : Int} (h : K ⟨(dd, .val (.bool (decide (x = y)))) :: e, L, H⟩) : zcq dd K ⟨e, L, H⟩ (some (True, .bool (x == y))) := ⟨trivial, h⟩
theorem z4k {x y : Int} (hp : x ≠ y) (h : K ⟨(dd, .val (.bool true)) :: e, L, H⟩) : zcq dd K ⟨e, L, H⟩ (some (True, .bool (x != y))) := by
  have : (x != y) = true := by simpa using hp
  rw [this]; exact ⟨trivial, h⟩
theorem z4j {x y : Int} (hp : x = y) (h : K ⟨(dd, .val (.bool false)) :: e, L, H⟩) : zcq dd K ⟨e, L, H⟩ (some (True, .bool (x != y))) := by
  have : (x != y) = false := by simpa using hp
  rw [this]; exact ⟨trivial, h⟩
theorem zck {x y : Int} (h : K ⟨(dd, .val (.bool (decide (x ≠ y)))) :: e, L, H⟩) : zcq dd K ⟨e, L, H⟩ (some (True, .bool (x != y))) := by
  have : (x != y) = decide (x ≠ y) := by simp only [bne, ne_eq, decide_not]; rfl
  rw [this]; exact ⟨trivial, h⟩
theorem rtF {p : Prop} [Decidable p] (h : ¬ p) : aOf (.bool false) = .bool (decide p) := by rw [decide_eq_false h]; rfl
theorem rtT {p : Prop} [Decidable p] (h : p) : aOf (.bool true) = .bool (decide p) := by rw [decide_eq_true h]; rfl
theorem rvF {p : Prop} [Decidable p] (h : ¬ p) : AV.bool false = .bool (decide p) := by rw [decide_eq_false h]
theorem rvT {p : Prop} [Decidable p] (h : p) : AV.bool true = .bool (decide p) := by rw [decide_eq_true h]
theorem rvP {p q : Prop} [Decidable p] [Decidable q] (h : q ↔ p) : AV.bool (decide q) = .bool (decide p) := by rw [decide_eq_decide.2 h]
end
theorem zy8 {P : Program} {cfg : Cfg} {e : List (Nat × EV)} {L : List (Nat × List AV)} {H : List (List AV)} {K : St → Prop} {dd : Nat} {ty : TypeId} {pos : String} {aft : Array Edge} {gd : Option (Nat × Bool)} {t el : TypeId} {x : Operand} {z : Nat} [si : SlI P t el z] {s : AV} {len : Nat} (hx : St.ev ⟨e, L, H⟩ x = .val s) (hl : slen s = some len) (hi : 0 < len)
    (h : K ⟨(dd, .val (.eptr s 0)) :: e, L, H⟩) : opX P cfg ⟨some dd, .indexAddr t x (.const (.int .i64 0)), ty, pos, aft, gd⟩ K ⟨e, L, H⟩ :=
  zpc hx rfl hl (i := 0) rfl hi (by simpa using h)
def zcz (P : Program) (cfg : Cfg) (id : Nat) (vs : List AV) (dd : Nat) (K : St → Prop) (st : St) : Prop := ∃ r H', zaa P id vs st.H r H' ∧ za7 cfg.n0 st.H H' ∧ K ⟨(dd, .val r) :: st.env, st.L, H'⟩
def ze4 (P : Program) (cfg : Cfg) (id : Nat) (xs : List Operand) (acc : List AV) (dd : Nat) (K : St → Prop) (st : St) : Prop := ∃ vs, zfc st.ev xs = some vs ∧ zcz P cfg id (acc ++ vs) dd K st
theorem zao {P : Program} {cfg : Cfg} {e : List (Nat × EV)} {L : List (Nat × List AV)} {H : List (List AV)} {K : St → Prop} {dd : Nat} {ty : TypeId} {pos : String} {aft : Array Edge} {gd : Option (Nat × Bool)} {id : Nat} {args : Array Operand} {ts : Array TypeId}
    (h : ze4 P cfg id args.toList [] dd K ⟨e, L, H⟩) : opX P cfg ⟨some dd, .call { callee := .value (.func id), args := args, argTypes := ts }, ty, pos, aft, gd⟩ K ⟨e, L, H⟩ := by
  obtain ⟨vs, ha, r, H', h1, h2, h3⟩ := h
  exact zv8 ha (by simpa using h1) h2 h3
theorem zbb {P : Program} {cfg : Cfg} {e : List (Nat × EV)} {L : List (Nat × List AV)} {H : List (List AV)} {K : St → Prop} {dd id : Nat} {acc : List AV} (h : zcz P cfg id acc dd K ⟨e, L, H⟩) : ze4 P cfg id [] acc dd K ⟨e, L, H⟩ := ⟨[], rfl, by simpa using h⟩
theorem zo3 {P : Program} {cfg : Cfg} {e : List (Nat × EV)} {L : List (Nat × List AV)} {H : List (List AV)} {K : St → Prop} {dd id : Nat} {acc : List AV} {x : Operand} {xs : List Operand} {v : AV} (hv : St.ev ⟨e, L, H⟩ x = .val v) (h : ze4 P cfg id xs (acc ++ [v]) dd K ⟨e, L, H⟩) :
    ze4 P cfg id (x :: xs) acc dd K ⟨e, L, H⟩ := by
  obtain ⟨vs, ha, hc⟩ := h
  exact ⟨v :: vs, zo5 hv ha, by simpa using hc⟩
theorem c_call {P : Program} {cfg : Cfg} {e : List (Nat × EV)} {L : List (Nat × List AV)} {H H' : List (List AV)} {K : St → Prop} {dd id : Nat} {vs : List AV} {r : AV}
    (hs : zaa P id vs H r H') (ho : za7 cfg.n0 H H') (h : K ⟨(dd, .val r) :: e, L, H'⟩) : zcz P cfg id vs dd K ⟨e, L, H⟩ := ⟨r, H', hs, ho, h⟩
def lpX (K : St → Prop) (Q : XE → St → Prop) : XE → St → Prop := fun e s => match e with | .normal => K s | e => Q e s
def prK (ks : List Nat) (K : St → Prop) (st : St) : Prop := K (prune ks st)
section
variable {P : Program} {cfg : Cfg} {dr : Array Oper → (St → Prop) → St → Prop} {e : List (Nat × EV)} {L : List (Nat × List AV)} {H : List (List AV)} {Q : XE → St → Prop} {K : St → Prop}
theorem zbc (ks : List Nat) (N : Nat) (S : Nat → St) {c : Code} (h0 : prune ks ⟨e, L, H⟩ = S 0)
    (hs : ∀ k, k < N → ∀ K : St → Prop, K (S (k + 1)) → Ex P cfg dr c (lpX (prK ks K) Q) (S k))
    (hx : ∀ K : St → Prop, Ex P cfg dr c (lpX (prK ks K) Q) (S N)) : Ex P cfg dr (.loop c) Q ⟨e, L, H⟩ := by
  show ∃ ks n, zfj (Ex P cfg dr c) ks Q n (prune ks ⟨e, L, H⟩)
  refine ⟨ks, N + 1, ?_⟩
  rw [h0]
  have key : ∀ m k, k + m = N → zfj (Ex P cfg dr c) ks Q (m + 1) (S k) := by
    intro m
    induction m with
    | zero => intro k hk; rw [Nat.add_zero] at hk; subst hk; exact hx (zfj (Ex P cfg dr c) ks Q 0)
    | succ m ih => intro k hk; exact hs k (by omega) (zfj (Ex P cfg dr c) ks Q (m + 1)) (ih (k + 1) (by omega))
  exact key N 0 (by omega)
theorem zfn (h : K ⟨e, L, H⟩) : lpX K Q .normal ⟨e, L, H⟩ := h
theorem zfo (h : Q .ret ⟨e, L, H⟩) : lpX K Q .ret ⟨e, L, H⟩ := h
theorem zfm {i : Nat} (h : Q (.exit i) ⟨e, L, H⟩) : lpX K Q (.exit i) ⟨e, L, H⟩ := h
theorem zfp {ks : List Nat} {s : St} (hp : prune ks ⟨e, L, H⟩ = s) (h : K s) : prK ks K ⟨e, L, H⟩ := by subst hp; exact h
end
class UI (P : Program) (t : TypeId) (d : outParam TypeDesc) : Prop where
  h : P.underlying t = some d
def fl (l : List Nat) : List AV := l.map .flt
def il (l : List Int) : List AV := l.map (.int .i64)
@[simp] theorem zvh (l : List Nat) : (fl l).length = l.length := by simp [fl]
@[simp] theorem zgn (l : List Int) : (il l).length = l.length := by simp [il]
theorem zm0 {l : List Nat} {k : Nat} (h : k < l.length) : (fl l)[k]? = some (.flt (l.getD k 0)) := by simp [fl, h]
theorem zku {l : List Int} {k : Nat} (h : k < l.length) : (il l)[k]? = some (.int .i64 (l.getD k 0)) := by simp [il, h]
theorem zvi (l : List Nat) (k x : Nat) : (fl l).set k (.flt x) = fl (l.set k x) := by simp [fl, List.map_set]
theorem zrt (cs : List AV) (off : Nat) (v : AV) : sc cs off [v] = cs.set off v := rfl
theorem zkr {cs : List AV} {k : Nat} {c : AV} (h : cs[k]? = some c) : gc cs k 1 = some [c] := by simp [gc, h]
theorem zbs : ∀ (l : List Nat), mxL (fl l) = 0
  | [] => rfl
  | x :: l => by
    have := zbs l
    simp only [fl, List.map_cons, mxL, mx] at this ⊢
    rw [this]; rfl
theorem zky : ∀ (l : List Int), mxL (il l) = 0
  | [] => rfl
  | x :: l => by
    have := zky l
    simp only [il, List.map_cons, mxL, mx] at this ⊢
    rw [this]; rfl
theorem zho : ∀ (cs : List AV) (o n : Nat), o + n ≤ cs.length → gc cs o n = some ((cs.drop o).take n)
  | cs, o, 0, _ => by simp [gc]
  | cs, o, n + 1, h => by
    have hlt : o < cs.length := by omega
    simp only [gc]
    rw [List.getElem?_eq_getElem hlt]
    simp only [Option.bind_some]
    rw [zho cs (o + 1) n (by omega)]
    simp only [Option.map_some, Option.some.injEq]
    rw [List.drop_eq_getElem_cons hlt, List.take_succ_cons]
theorem zfy (cs : List AV) {n : Nat} (h : n = cs.length) : gc cs 0 n = some cs := by
  subst h
  rw [zho cs 0 _ (by omega)]
  simp
structure FL (H : List (List AV)) (D : AV) (l : List Nat) : Prop where
  len : slen D = some l.length
  all : D ≠ .slnil → zbx H D 0 l.length = some (fl l)
  one : ∀ id g o n z, D = .slm id g o n z → z = 1
  mx : Sx.mx D ≤ H.length
theorem FL.nil (H : List (List AV)) : FL H .slnil [] := ⟨rfl, fun h => absurd rfl h, by simp, by simp [Sx.mx]⟩
theorem FL.fz (H : List (List AV)) (tag : Option (Nat × Nat)) (l : List Nat) : FL H (.sl tag l.length (fl l)) l :=
  ⟨rfl, fun _ => by simp only [zbx]; exact zfy _ (by simp), by simp, by simp only [Sx.mx, zbs]; exact Nat.zero_le _⟩
theorem FL.slm {H : List (List AV)} {id off n g : Nat} {l m : List Nat} (h : H[id]? = some (fl m)) (hg : g = m.length) (hn : off + n ≤ m.length) (hl : l = (m.drop off).take n) : FL H (.slm id g off n 1) l := by
  subst hl hg
  have e : ((m.drop off).take n).length = n := by simp; omega
  refine ⟨by simp [slen, e], fun _ => ?_, by simp; omega, (List.getElem?_eq_some_iff.1 h).1⟩
  simp only [zbx, h, Option.bind_some, zvh, if_true, e, Nat.add_zero]
  rw [zho _ _ _ (by simpa using hn)]
  simp [fl, List.map_drop, List.map_take]
theorem FL.app {H : List (List AV)} {D : AV} {l : List Nat} (h : FL H D l) (N : List (List AV)) : FL (H ++ N) D l := by
  refine ⟨h.len, fun hD => ?_, h.one, Nat.le_trans h.mx (by simp)⟩
  have h1 := h.all hD
  cases D <;> simp only [zbx] at h1 ⊢ <;> try exact h1
  rename_i id gen o len sz
  cases hi : H[id]? with
  | none => rw [hi] at h1; simp at h1
  | some cs =>
    rw [hi] at h1
    rw [List.getElem?_append_left (List.getElem?_eq_some_iff.1 hi).1, hi]; exact h1
theorem zm3 {cs : List AV} {o n : Nat} {l : List AV} (h : gc cs o n = some l) {k : Nat} {c : AV} (hk : l[k]? = some c) : gc cs (o + k) 1 = some [c] := by
  obtain ⟨h1, h2⟩ := zem h
  have hlt := (List.getElem?_eq_some_iff.1 hk).1
  exact zkr (by rw [← h2 k (by omega)]; exact hk)
theorem FL.rd {H : List (List AV)} {D : AV} {l : List Nat} (h : FL H D l) {k : Nat} (hk : k < l.length) : zbx H D k 1 = some [.flt (l.getD k 0)] := by
  have hD : D ≠ .slnil := by rintro rfl; have := h.len; simp [slen] at this; omega
  have h1 := h.all hD
  cases D <;> simp only [zbx, reduceCtorEq] at h1 ⊢
  · have := zm3 h1 (zm0 hk); simpa using this
  · rename_i id gen o len sz
    cases hi : H[id]? with
    | none => rw [hi] at h1; simp at h1
    | some cs =>
      rw [hi] at h1
      simp only [Option.bind_some] at h1 ⊢
      split at h1
      · rename_i hg; rw [if_pos hg]
        have := zm3 h1 (zm0 hk); simpa using this
      · simp at h1
section
variable {A N : List (List AV)} {n j : Nat}
theorem zbg (hA : A.length = n) {cs : List AV} (hj : N[j]? = some cs) : (A ++ N)[n + j]? = some cs := by
  subst hA; rw [List.getElem?_append_right (by omega)]; simpa using hj
theorem zav {i : Nat} {cs : List AV} (h : A[i]? = some cs) : (A ++ N)[i]? = some cs := by
  rw [List.getElem?_append_left (List.getElem?_eq_some_iff.1 h).1]; exact h
theorem zea (hA : A.length = n) {cs : List AV} {N' : List (List AV)} (hN : N.set j cs = N') : (A ++ N).set (n + j) cs = A ++ N' := by
  subst hA hN; rw [List.set_append_right _ _ (by omega)]; simp
theorem za9 {i : Nat} {cs : List AV} (h : i < A.length) : (A ++ N).set i cs = A.set i cs ++ N := by rw [List.set_append_left _ _ h]
end
section
variable {P : Program} {cfg : Cfg} {dr : Array Oper → (St → Prop) → St → Prop} {e : List (Nat × EV)} {L : List (Nat × List AV)} {H : List (List AV)} {Q : XE → St → Prop} {K : St → Prop}
variable {kn : Option (Nat × Bool)} {ops : Array Oper} {d : Option Tmp} {o : Op} {ty : TypeId} {pos : String} {aft : Array Edge} {rest : List Oper} {j : Nat} {b want : Bool} {gd : Option (Nat × Bool)} {dd : Nat}
def gK (xs : List Operand) (acc : List AV) (k : List AV → Prop) (st : St) : Prop := ∃ vs, zfc st.ev xs = some vs ∧ k (acc ++ vs)
theorem zd9 {acc : List AV} {k : List AV → Prop} (h : k acc) : gK [] acc k ⟨e, L, H⟩ := ⟨[], rfl, by simpa using h⟩
theorem zp9 {acc : List AV} {k : List AV → Prop} {x : Operand} {xs : List Operand} {v : AV} (hv : St.ev ⟨e, L, H⟩ x = .val v) (h : gK xs (acc ++ [v]) k ⟨e, L, H⟩) : gK (x :: xs) acc k ⟨e, L, H⟩ := by
  obtain ⟨vs, ha, hc⟩ := h
  exact ⟨v :: vs, zo5 hv ha, by simpa using hc⟩
theorem z2m {t : TypeId} {l c : Operand} {s by_ : Nat} {zc cs : List AV} [ei : EI P t s by_ zc] {k k' : IntKind} {n : Int} {m : Nat} (hl : St.ev ⟨e, L, H⟩ l = .val (.int k n)) (hc : St.ev ⟨e, L, H⟩ c = .val (.int k' n)) (hn : n = (m : Int)) (hm : m ≤ 2 ^ 32)
    (hz : zkb m zc = cs) (hs : (decide (by_ ≤ 2 ^ 10) && zc.length == s && decide (0 < s)) = true) (h : K ⟨(dd, .val (.slm H.length cs.length 0 m s)) :: e, L, H ++ [cs]⟩) :
    opX P cfg ⟨some dd, .makeSlice t l c, ty, pos, aft, gd⟩ K ⟨e, L, H⟩ := by
  subst hz hn
  simp only [Bool.and_eq_true, decide_eq_true_eq, beq_iff_eq] at hs
  simp only [opX, opE, ei.h, hl, hc, EV.asI, Int.toNat_natCast]
  exact ⟨trivial, by omega, by omega, hs.1.1, hs.1.2, hs.2, h⟩
theorem z2l {t : TypeId} {l c : Operand} [ei : EI P t 1 8 [.flt 0]] {A N N' : List (List AV)} {n₀ i : Nat} {k k' : IntKind} {n : Int} {m : Nat} (hl : St.ev ⟨e, L, A ++ N⟩ l = .val (.int k n)) (hc : St.ev ⟨e, L, A ++ N⟩ c = .val (.int k' n)) (hA : A.length = n₀) (hi : N.length = i) (hN : N ++ [fl (List.replicate m 0)] = N')
    (hn : n = (m : Int)) (hm : m ≤ 2 ^ 32) (h : K ⟨(dd, .val (.slm (n₀ + i) m 0 m 1)) :: e, L, A ++ N'⟩) :
    opX P cfg ⟨some dd, .makeSlice t l c, ty, pos, aft, gd⟩ K ⟨e, L, A ++ N⟩ := by
  subst hN hi hA
  refine z2m (cs := fl (List.replicate m 0)) hl hc hn hm (by simp [zkb, fl]) rfl ?_
  simpa [List.append_assoc] using h
def zt1 : AV → Bool
  | .agg _ | .junk | .tup _ => false
  | .raw v => v.oneCell'
  | _ => true
theorem zol {v : AV} (h : zt1 v = true) : v.cells = some [v] := by
  cases v <;> simp_all [zt1, AV.cells]
theorem zx3 {v z : AV} {vs cs zs : List AV} {k : Nat} (hk : vs.length = k) : sc (vs ++ z :: zs) k [v] = (vs ++ [v]) ++ zs := by
  subst hk; simp [sc]
theorem zmz {z : AV} : ∀ (vs : List AV) (done : List AV) (k : Nat) (ps : List (Nat × Option AV)), k = done.length → ps.map (·.1) = List.range' k vs.length → ps.map (·.2) = vs.map some → (∀ v ∈ vs, zt1 v = true) →
    zdp (fun i => some (i * 1, 1)) (done ++ List.replicate vs.length z) ps = some (done ++ vs)
  | [], done, k, ps, _, h1, _, _ => by
    have : ps = [] := by simpa using h1
    subst this; simp [zdp]
  | v :: vs, done, k, ps, hk, h1, h2, h3 => by
    cases ps with
    | nil => simp at h2
    | cons p ps =>
      obtain ⟨i, ov⟩ := p
      simp only [List.map_cons, List.cons.injEq, List.length_cons, List.range'_succ] at h1 h2
      obtain ⟨rfl, h1⟩ := h1
      obtain ⟨rfl, h2⟩ := h2
      simp only [zdp, Option.bind_some, zol (h3 v (by simp)), List.length_singleton, List.length_cons, List.replicate_succ]
      rw [if_neg (by simp; omega), Nat.mul_one, zx3 (cs := []) hk.symm]
      have := zmz (z := z) vs (done ++ [v]) (i + 1) ps (by simp [hk]) h1 h2 (fun x hx => h3 x (by simp [hx]))
      simpa using this
theorem zmu {len : Nat} {z : AV} {parts : Array (Nat × Operand)} {vs : List AV} (ha : zfc (St.ev ⟨e, L, H⟩) (parts.toList.map (·.2)) = some vs) (hr : parts.toList.map (·.1) = List.range' 0 len) (hone : vs.all zt1 = true) :
    zdp (fun i => some (i * 1, 1)) (zkb len [z]) (parts.toList.map fun (i, x) => (i, (St.ev ⟨e, L, H⟩ x).asV)) = some vs ∧ vs.length = len := by
  have h1 := zl6 ha
  have hlen : vs.length = len := by
    have := congrArg List.length hr
    have h2 := congrArg List.length h1
    simp at this h2; omega
  refine ⟨?_, hlen⟩
  have := zmz (z := z) vs [] 0 (parts.toList.map fun (i, x) => (i, (St.ev ⟨e, L, H⟩ x).asV)) rfl (by rw [hlen, ← hr]; simp [Function.comp_def]) (by rw [← h1]; simp [Function.comp_def]) (by simpa using hone)
  simpa [zkb, hlen] using this
theorem zgg {t : TypeId} {len by_ : Nat} {z : AV} {parts : Array (Nat × Operand)} [ei : EI P t 1 by_ [z]] (hfz : cfg.fz.contains dd = true) (hr : parts.toList.map (·.1) = List.range' 0 len) (hl : len ≤ 2 ^ 24)
    (h : gK (parts.toList.map (·.2)) [] (fun vs => vs.all zt1 = true ∧ K ⟨(dd, .val (.sl none len vs)) :: e, L, H⟩) ⟨e, L, H⟩) : opX P cfg ⟨some dd, .buildSlice t len parts, ty, pos, aft, gd⟩ K ⟨e, L, H⟩ := by
  obtain ⟨vs, ha, hone, h⟩ := h
  simp only [List.nil_append] at hone h
  obtain ⟨h1, h2⟩ := zmu (z := z) ha hr hone
  simp only [opX, opE, ei.h, h1, Option.any_some, hfz, if_true]
  exact ⟨rfl, by omega, by omega, h⟩
theorem zpa {t : TypeId} {len by_ : Nat} {z : AV} {parts : Array (Nat × Operand)} [ei : EI P t 1 by_ [z]] {A N : List (List AV)} {n₀ i : Nat} (hfz : cfg.fz.contains dd = false) (hr : parts.toList.map (·.1) = List.range' 0 len) (hl : len ≤ 2 ^ 24) (hA : A.length = n₀) (hi : N.length = i)
    (h : gK (parts.toList.map (·.2)) [] (fun vs => vs.all zt1 = true ∧ ∀ N', N ++ [vs] = N' → K ⟨(dd, .val (.slm (n₀ + i) len 0 len 1)) :: e, L, A ++ N'⟩) ⟨e, L, A ++ N⟩) : opX P cfg ⟨some dd, .buildSlice t len parts, ty, pos, aft, gd⟩ K ⟨e, L, A ++ N⟩ := by
  obtain ⟨vs, ha, hone, h⟩ := h
  simp only [List.nil_append] at hone h
  obtain ⟨h1, h2⟩ := zmu (z := z) ha hr hone
  simp only [opX, opE, ei.h, h1, Option.any_some, hfz, Bool.false_eq_true, if_false]
  subst hA hi
  have := h _ rfl
  refine ⟨rfl, by omega, by omega, ?_⟩
  rw [zi3]
  simpa [h2, List.append_assoc] using this
theorem zu0 {t tx : TypeId} {s x : Operand} {sz by_ el' z' : Nat} {zc xs : List AV} [ei : EI P t sz by_ zc] [si : SlI P tx el' z'] {vx : AV} {m : Nat} (hs : St.ev ⟨e, L, H⟩ s = .val .slnil) (hx : St.ev ⟨e, L, H⟩ x = .val vx) (hsrc : zlk H sz vx = some (m, xs)) (hm : 0 < m ∧ m ≤ 2 ^ 32)
    (hz : (decide (by_ ≤ 2 ^ 10) && decide (0 < by_) && zc.length == sz && decide (0 < sz)) = true) (h : K ⟨(dd, .val (.slm H.length xs.length 0 m sz)) :: e, L, H ++ [xs]⟩) :
    opX P cfg ⟨some dd, .call { callee := .builtin .append, args := #[s, x], argTypes := #[t, tx] }, ty, pos, aft, gd⟩ K ⟨e, L, H⟩ := by
  simp only [Bool.and_eq_true, decide_eq_true_eq, beq_iff_eq] at hz
  simp only [opX, opE, List.map_cons, List.map_nil, hs, hx, EV.asV, ei.h, si.h, hsrc, zj8]
  exact ⟨hz.1.1.1, hz.1.1.2, hz.1.2, hz.2, hm.2, fun h0 => by omega, fun _ => h⟩
theorem zu1 {t tx : TypeId} {s x : Operand} {id gen len sz by_ el' z' : Nat} {zc xs cs : List AV} [ei : EI P t sz by_ zc] [si : SlI P tx el' z'] {vx : AV} {m : Nat} (hs : St.ev ⟨e, L, H⟩ s = .val (.slm id gen 0 len sz)) (hx : St.ev ⟨e, L, H⟩ x = .val vx) (hsrc : zlk H sz vx = some (m, xs))
    (hc : H[id]? = some cs) (hg : cs.length = gen) (hl : len * sz = gen) (hm : len + m ≤ 2 ^ 32) (hmx : cfg.n0 ≤ id ∨ mxL xs ≤ cfg.n0)
    (hz : (decide (by_ ≤ 2 ^ 10) && decide (0 < by_) && zc.length == sz && decide (0 < sz)) = true) (h : K ⟨(dd, .val (.slm id (cs.length + xs.length) 0 (len + m) sz)) :: e, L, H.set id (cs ++ xs)⟩) :
    opX P cfg ⟨some dd, .call { callee := .builtin .append, args := #[s, x], argTypes := #[t, tx] }, ty, pos, aft, gd⟩ K ⟨e, L, H⟩ := by
  simp only [Bool.and_eq_true, decide_eq_true_eq, beq_iff_eq] at hz
  simp only [opX, opE, List.map_cons, List.map_nil, hs, hx, EV.asV, ei.h, si.h, hsrc, zj8, hc]
  exact ⟨hz.1.1.1, hz.1.1.2, hz.1.2, hz.2, trivial, hg, trivial, hl, hm, hmx, h⟩
theorem zgu {H : List (List AV)} {tag : Option (Nat × Nat)} {n sz : Nat} {cs : List AV} (h : n * sz = cs.length) : zlk H sz (.sl tag n cs) = some (n, cs) := by
  simp only [zlk, slen, Option.bind_some, zbx]
  rw [zfy cs h]; rfl
theorem z1c {H : List (List AV)} {D : AV} {l : List Nat} (h : FL H D l) : zlk H 1 D = some (l.length, fl l) := by
  by_cases hD : D = .slnil
  · subst hD
    have := h.len
    simp only [slen, Option.some.injEq] at this
    have : l = [] := List.eq_nil_of_length_eq_zero this.symm
    subst this; rfl
  · have h1 := h.all hD
    cases D <;> first | exact absurd rfl hD | (simp only [zbx, reduceCtorEq] at h1; done) | simp only [zlk, h.len, Option.bind_some, Nat.mul_one, h1, Option.map_some]
end
def zph (P : Program) (t : TypeId) : Option (List AV × List (Nat × Nat)) :=
  match zh4 P t, P.underlying t with
  | some z, some (.struct fs) => (z.cells).bind fun zc => (fs.toList.mapM fun f => (tsz P f.type).map (f.offset, ·)).map (zc, ·)
  | _, _ => none
class BdI (P : Program) (t : TypeId) (zc : outParam (List AV)) (pl : outParam (List (Nat × Nat))) : Prop where
  h : zph P t = some (zc, pl)
theorem mapM_some {α β : Type} (f : α → Option β) : ∀ (l : List α) {r : List β}, l.mapM f = some r → l.map f = r.map some
  | [], r, h => by simp at h; subst h; rfl
  | a :: l, r, h => by
    simp only [List.mapM_cons, Option.bind_eq_bind, Option.bind_eq_some_iff, Option.pure_def, Option.some.injEq] at h
    obtain ⟨b, h1, r', h2, rfl⟩ := h
    simp [h1, mapM_some f l h2]
theorem zlz {p q : Nat → Option (Nat × Nat)} (h : ∀ i, p i = q i) (cs : List AV) (l : List (Nat × Option AV)) : zdp p cs l = zdp q cs l := by
  have : p = q := funext h
  rw [this]
theorem zpi {P : Program} {t : TypeId} {zc : List AV} {pl : List (Nat × Nat)} (h : zph P t = some (zc, pl)) (ρ : Operand → EV) (parts : Array (Nat × Operand)) :
    zhk P ρ t parts = (zdp (fun i => pl[i]?) zc (parts.toList.map fun (i, x) => (i, (ρ x).asV))).map .agg := by
  unfold zph at h
  split at h
  · rename_i z fs hz hu
    simp only [Option.bind_eq_some_iff, Option.map_eq_some_iff, Prod.mk.injEq] at h
    obtain ⟨zc', h1, pl', h2, rfl, rfl⟩ := h
    have hm := mapM_some _ _ h2
    have hall : fs.all (fun f => (tsz P f.type).isSome) = true := by
      rw [Array.all_eq_true_iff_forall_mem]
      intro f hf
      have hf' : f ∈ fs.toList := by simpa using hf
      have : (tsz P f.type).map (f.offset, ·) ∈ fs.toList.map (fun f => (tsz P f.type).map (f.offset, ·)) := List.mem_map_of_mem hf'
      rw [hm] at this
      simp only [List.mem_map] at this
      obtain ⟨x, _, hx⟩ := this
      cases hq : tsz P f.type with
      | none => rw [hq] at hx; simp at hx
      | some n => rfl
    unfold zhk
    simp only [hz, hu, hall, if_true, h1, Option.bind_some]
    congr 1
    refine zlz (fun i => ?_) _ _
    have := congrArg (·[i]?) hm
    simp only [List.getElem?_map, Array.getElem?_toList] at this
    simp only [zje]
    cases hf : fs[i]? with
    | none =>
      rw [hf] at this
      cases hp : pl'[i]? with
      | none => rfl
      | some p => rw [hp] at this; simp at this
    | some f =>
      rw [hf] at this
      simp only [Option.map_some, Option.bind_some] at this ⊢
      cases hp : pl'[i]? with
      | none => rw [hp] at this; simp at this
      | some p => rw [hp] at this; simpa using this
  · simp at h
section
variable {P : Program} {cfg : Cfg} {dr : Array Oper → (St → Prop) → St → Prop} {e : List (Nat × EV)} {L : List (Nat × List AV)} {H : List (List AV)} {Q : XE → St → Prop} {K : St → Prop}
variable {kn : Option (Nat × Bool)} {ops : Array Oper} {d : Option Tmp} {o : Op} {ty : TypeId} {pos : String} {aft : Array Edge} {rest : List Oper} {j : Nat} {b want : Bool} {gd : Option (Nat × Bool)} {dd : Nat}
def fK (pl : List (Nat × Nat)) (zc : List AV) (ps : List (Nat × Operand)) (k : List AV → Prop) (st : St) : Prop :=
  ∃ cs, zdp (fun i => pl[i]?) zc (ps.map fun (i, x) => (i, (st.ev x).asV)) = some cs ∧ k cs
theorem zdu {pl : List (Nat × Nat)} {zc : List AV} {k : List AV → Prop} (h : k zc) : fK pl zc [] k ⟨e, L, H⟩ := ⟨zc, rfl, h⟩
theorem zjf {pl : List (Nat × Nat)} {zc zc' vs : List AV} {i off sz : Nat} {x : Operand} {ps : List (Nat × Operand)} {k : List AV → Prop} {v : AV} (hx : St.ev ⟨e, L, H⟩ x = .val v) (hc : v.cells = some vs) (hp : pl[i]? = some (off, sz))
    (hl : (vs.length == sz && decide (off + vs.length ≤ zc.length)) = true) (hz : sc zc off vs = zc') (h : fK pl zc' ps k ⟨e, L, H⟩) : fK pl zc ((i, x) :: ps) k ⟨e, L, H⟩ := by
  obtain ⟨cs, h1, h2⟩ := h
  subst hz
  simp only [Bool.and_eq_true, beq_iff_eq, decide_eq_true_eq] at hl
  refine ⟨cs, ?_, h2⟩
  simp only [List.map_cons, zdp, hx, EV.asV, Option.bind_some, hc, hp]
  rw [if_neg (by omega)]
  exact h1
theorem zco {t : TypeId} {zc : List AV} {pl : List (Nat × Nat)} {parts : Array (Nat × Operand)} [bd : BdI P t zc pl] (h : fK pl zc parts.toList (fun cs => K ⟨(dd, .val (.agg cs)) :: e, L, H⟩) ⟨e, L, H⟩) :
    opX P cfg ⟨some dd, .build t parts, ty, pos, aft, gd⟩ K ⟨e, L, H⟩ := by
  obtain ⟨cs, h1, h2⟩ := h
  rw [zbu P cfg e L H K _ _ _ _ _ _ rfl]
  simp only [zas, zpi bd.h, h1, Option.map_some, zdb]
  exact ⟨trivial, h2⟩
theorem zy6 {src dst : TypeId} {x : Operand} {k k' : IntKind} {n : Int} {td : TypeDesc} [u : UI P dst (.int k)] [us : UI P src td] (hx : St.ev ⟨e, L, H⟩ x = .val (.int k' n)) (h : zcq dd K ⟨e, L, H⟩ (some (True, .int k (k.wrap n)))) :
    opX P cfg ⟨some dd, .convert src dst x, ty, pos, aft, gd⟩ K ⟨e, L, H⟩ := by
  rw [zbu P cfg e L H K _ _ _ _ _ _ rfl]
  simp only [zas, us.h, Option.isSome_some, if_true, hx, zwj, u.h, Option.map_some, zdb]
  exact ⟨trivial, h.2⟩
theorem zu4 {src dst : TypeId} {x : Operand} {v : AV} {f : Nat} {td : TypeDesc} [u : UI P dst (.float .f64)] [us : UI P src td] (hx : St.ev ⟨e, L, H⟩ x = .val v) (hf : v.asF = some f) (h : K ⟨(dd, .val (.flt f)) :: e, L, H⟩) :
    opX P cfg ⟨some dd, .convert src dst x, ty, pos, aft, gd⟩ K ⟨e, L, H⟩ := by
  rw [zbu P cfg e L H K _ _ _ _ _ _ rfl]
  have : zwj P dst (.val v) = some (True, .flt f) := by
    unfold zwj; rw [u.h]
    cases v <;> simp_all [AV.asF]
  simp only [zas, us.h, Option.isSome_some, if_true, hx, this, Option.map_some, zdb]
  exact ⟨trivial, h⟩
theorem zpb {src dst : TypeId} {x : Operand} {k : IntKind} {n : Int} {td : TypeDesc} [u : UI P dst (.float .f64)] [us : UI P src td] (hx : St.ev ⟨e, L, H⟩ x = .val (.int k n)) (h : K ⟨(dd, .val (.flt (cn (FloatKind.f64.nearest n)))) :: e, L, H⟩) :
    opX P cfg ⟨some dd, .convert src dst x, ty, pos, aft, gd⟩ K ⟨e, L, H⟩ := by
  rw [zbu P cfg e L H K _ _ _ _ _ _ rfl]
  simp only [zas, us.h, Option.isSome_some, if_true, hx, zwj, u.h, Option.map_some, zdb]
  exact ⟨trivial, h⟩
theorem z1y {n : Int} (hw : 0 ≤ n ∧ n ≤ 18446744073709551615) : IntKind.u64.wrap n = n := by
  simp only [IntKind.wrap, IntKind.signed, IntKind.bits]
  simp
  omega
theorem z6f {n : Int} (hw : 0 ≤ n ∧ n ≤ 18446744073709551615) (h : K ⟨(dd, .val (.int .u64 n)) :: e, L, H⟩) : zcq dd K ⟨e, L, H⟩ (some (True, .int .u64 (IntKind.u64.wrap n))) := by
  rw [z1y hw]; exact ⟨trivial, h⟩
theorem z1v {k : IntKind} {x y : Int} {q : Int} (hx : 0 ≤ x) (hy : 0 ≤ y) (hq : ((2 ^ (min y.toNat k.bits) : Nat) : Int) = q) (h : K ⟨(dd, .val (.int k (x / q))) :: e, L, H⟩) : zcq dd K ⟨e, L, H⟩ (some (0 ≤ y, .int k (x.fdiv (2 ^ (min y.toNat k.bits))))) := by
  have e1 : ((2 : Int) ^ (min y.toNat k.bits)) = q := by rw [← hq]; simp
  rw [e1]
  have h0 : 0 ≤ q := by rw [← hq]; exact Int.natCast_nonneg _
  have : x.fdiv q = x / q := by rw [Int.fdiv_eq_ediv_of_nonneg _ h0]
  rw [this]; exact ⟨hy, h⟩
theorem zsb {k : IntKind} {x y : Int} (hx : 0 ≤ x) (hy : y ≠ 0) (h : K ⟨(dd, .val (.int k (x % y))) :: e, L, H⟩) : zcq dd K ⟨e, L, H⟩ (some (y ≠ 0, .int k (x.tmod y))) := by
  rw [Int.tmod_eq_emod_of_nonneg hx]; exact ⟨hy, h⟩
theorem zyi {x y : Int} (hx : 0 ≤ x ∧ x ≤ 9223372036854775807) (hy : 1 ≤ y) (h : K ⟨(dd, .val (.int .i64 (x / y))) :: e, L, H⟩) : zcq dd K ⟨e, L, H⟩ (some (y ≠ 0, .int .i64 (IntKind.i64.wrap (x.tdiv y)))) :=
  v_c (by omega) (v_q hx hy h)
theorem zu6 {x y : Operand} {ts : Array TypeId} {k : IntKind} {a c m : Int} (hx : St.ev ⟨e, L, H⟩ x = .val (.int k a)) (hy : St.ev ⟨e, L, H⟩ y = .val (.int k c)) (hm : max a c = m) (h : K ⟨(dd, .val (.int k m)) :: e, L, H⟩) :
    opX P cfg ⟨some dd, .call { callee := .builtin .max, args := #[x, y], argTypes := ts }, ty, pos, aft, gd⟩ K ⟨e, L, H⟩ := by
  subst hm
  rw [zbu P cfg e L H K _ _ _ _ _ _ rfl]
  simp only [zas, List.map_cons, List.map_nil, hx, hy, EV.asI, if_true, zdb]
  exact ⟨trivial, h⟩
theorem zu7 {x y : Operand} {ts : Array TypeId} {k : IntKind} {a c m : Int} (hx : St.ev ⟨e, L, H⟩ x = .val (.int k a)) (hy : St.ev ⟨e, L, H⟩ y = .val (.int k c)) (hm : min a c = m) (h : K ⟨(dd, .val (.int k m)) :: e, L, H⟩) :
    opX P cfg ⟨some dd, .call { callee := .builtin .min, args := #[x, y], argTypes := ts }, ty, pos, aft, gd⟩ K ⟨e, L, H⟩ := by
  subst hm
  rw [zbu P cfg e L H K _ _ _ _ _ _ rfl]
  simp only [zas, List.map_cons, List.map_nil, hx, hy, EV.asI, if_true, zdb]
  exact ⟨trivial, h⟩
theorem zsr {t : TypeId} {x : Operand} {lo hi : Option Operand} {el z n : Nat} [si : SlI P t el z] {s v' : AV} {l q : Int} (hx : St.ev ⟨e, L, H⟩ x = .val s) (hn : slen s = some n) (hl : zj9 (St.ev ⟨e, L, H⟩) 0 lo = some l) (hq : zj9 (St.ev ⟨e, L, H⟩) n hi = some q)
    (hb : 0 ≤ l ∧ l ≤ q ∧ q ≤ n) (hs : zsi z l.toNat q.toNat s = some v') (h : K ⟨(dd, .val v') :: e, L, H⟩) : opX P cfg ⟨some dd, .slice t x lo hi none, ty, pos, aft, gd⟩ K ⟨e, L, H⟩ := by
  rw [zbu P cfg e L H K _ _ _ _ _ _ rfl]
  have : zli P t (.val s) (some l) (fun n => zj9 (St.ev ⟨e, L, H⟩) n hi) = some (0 ≤ l ∧ l ≤ q ∧ q ≤ n, v') := by
    cases s <;> simp only [slen, Option.some.injEq, reduceCtorEq] at hn <;> subst hn <;> simp only [zli, si.h, si.z, Option.bind_some, slen, hq, hs, Option.map_some]
  simp only [zas, hx, hl, this, Option.map_some, zdb]
  exact ⟨hb, h⟩
theorem zms {t : TypeId} {x : Operand} {A N N' : List (List AV)} {n i : Nat} {vx : EV} {cs : List AV} (hx : St.ev ⟨e, L, A ++ N⟩ x = vx) (hr : vx.asV.bind AV.cells = some cs) (hesc : cfg.esc = true) (hA : A.length = n) (hi : N.length = i) (hN : N ++ [cs] = N')
    (h : K ⟨(dd, .val (.eptr (.slm (n + i) cs.length 0 1 cs.length) 0)) :: e, L, A ++ N'⟩) : opX P cfg ⟨some dd, .box t x, ty, pos, aft, gd⟩ K ⟨e, L, A ++ N⟩ := by
  subst hx hA hi hN
  simp only [opX, opE, hr, newX, hesc, if_true, zi3]
  simpa [List.append_assoc] using h
theorem zfs {t : TypeId} {A N N' : List (List AV)} {n i : Nat} {cs : List AV} [z : ZI P t cs] (hesc : cfg.esc = true) (hA : A.length = n) (hi : N.length = i) (hN : N ++ [cs] = N')
    (h : K ⟨(dd, .val (.eptr (.slm (n + i) cs.length 0 1 cs.length) 0)) :: e, L, A ++ N'⟩) : opX P cfg ⟨some dd, .alloc t, ty, pos, aft, gd⟩ K ⟨e, L, A ++ N⟩ := by
  subst hA hi hN
  simp only [opX, opE, z.h, newX, hesc, if_true, zi3]
  simpa [List.append_assoc] using h
def rK (P : Program) (rs : List ResultVar) (acc : List AV) (k : List AV → Prop) (st : St) : Prop := ∃ vs, (rs.map (resV P st)).mapM id = some vs ∧ k (acc ++ vs)
theorem zar {acc : List AV} {k : List AV → Prop} (h : k acc) : rK P [] acc k ⟨e, L, H⟩ := ⟨[], rfl, by simpa using h⟩
theorem zj2 {r : ResultVar} {rs : List ResultVar} {acc : List AV} {k : List AV → Prop} {v : AV} (hr : resV P ⟨e, L, H⟩ r = some v) (h : rK P rs (acc ++ [v]) k ⟨e, L, H⟩) : rK P (r :: rs) acc k ⟨e, L, H⟩ := by
  obtain ⟨vs, h1, h2⟩ := h
  refine ⟨v :: vs, ?_, by simpa using h2⟩
  simp only [List.map_cons, List.mapM_cons, hr, id_eq, Option.bind_eq_bind, Option.bind_some, h1]; rfl
theorem z05 {t : Nat} {rs : List ResultVar} {acc : List AV} {k : List AV → Prop} {v : AV} (hv : St.ev ⟨e, L, H⟩ (.tmp t) = .val v) (h : rK P rs (acc ++ [v]) k ⟨e, L, H⟩) : rK P (.tmp t :: rs) acc k ⟨e, L, H⟩ :=
  zj2 (by simp [resV, hv, EV.asV]) h
theorem zuh {x t n : Nat} {rs : List ResultVar} {acc : List AV} {k : List AV → Prop} [ti : TyI P t n true] {key off : Nat} {cs l : List AV} (hx : St.ev ⟨e, L, H⟩ (.tmp x) = .loc key off) (hc : lk L key = some cs) (hl : gc cs off n = some l) (h : rK P rs (acc ++ [.agg l]) k ⟨e, L, H⟩) :
    rK P (.cell x t :: rs) acc k ⟨e, L, H⟩ :=
  zj2 (by simp [resV, zas, hx, hc, ti.sz, hl, ldv, ti.kind]) h
theorem zug {x t : Nat} {rs : List ResultVar} {acc : List AV} {k : List AV → Prop} [ti : TyI P t 1 false] {key off : Nat} {cs : List AV} {v : AV} (hx : St.ev ⟨e, L, H⟩ (.tmp x) = .loc key off) (hc : lk L key = some cs) (hl : cs[off]? = some v) (h : rK P rs (acc ++ [v]) k ⟨e, L, H⟩) :
    rK P (.cell x t :: rs) acc k ⟨e, L, H⟩ :=
  zj2 (by simp [resV, zas, hx, hc, ti.sz, zkr hl, ldv, ti.kind]) h
def zgd (H₀ : List (List AV)) (r : AV) (H' : List (List AV)) (H : List (List AV)) (vs : List AV) : Prop :=
  ∃ keep : List Nat, keep.Nodup ∧ (∀ k ∈ keep, H₀.length ≤ k ∧ ∃ cs, H[k]? = some cs ∧ mxL cs ≤ H₀.length) ∧ frH H₀.length keep H = H' ∧ Fr H₀.length keep H (zaf vs) r
theorem zze {fn : Func} {H₀ H' : List (List AV)} {r : AV} {x : XE} {rs : List ResultVar} (hx : x = .ret ∨ x = .normal) (hf : fn.results.toList = rs) (h : rK P rs [] (zgd H₀ r H' H) ⟨e, L, H⟩) : zfl P fn H₀ r H' x ⟨e, L, H⟩ := by
  obtain ⟨vs, h1, keep, h2, h3, h4, h5⟩ := h
  subst hf
  exact ⟨by rcases hx with rfl | rfl <;> trivial, vs, keep, h1, h2, h3, h4, by simpa using h5⟩
section
variable {H₀ A N : List (List AV)} {n : Nat}
theorem zan {r : AV} {vs : List AV} (hA : A.length = H₀.length) (hm : mx (zaf vs) ≤ H₀.length) (hr : zaf vs = r) : zgd H₀ r A (A ++ N) vs := by
  subst hr
  exact ⟨[], List.nodup_nil, by simp, by simp [frH, ← hA], Fr.old hm⟩
theorem zmi {r : AV} {vs : List AV} (hA : A.length = H₀.length) (hr : Fr H₀.length [] (A ++ N) (zaf vs) r) : zgd H₀ r A (A ++ N) vs :=
  ⟨[], List.nodup_nil, by simp, by simp [frH, ← hA], hr⟩
theorem z08 {r : AV} {vs cs : List AV} {j : Nat} (hA : A.length = H₀.length) (hj : N[j]? = some cs) (hm : mxL cs ≤ H₀.length) (hr : Fr H₀.length [H₀.length + j] (A ++ N) (zaf vs) r) : zgd H₀ r (A ++ [cs]) (A ++ N) vs := by
  have hg := zbg (A := A) hA hj
  refine ⟨[H₀.length + j], by simp, ?_, ?_, hr⟩
  · intro k hk
    simp only [List.mem_singleton] at hk; subst hk
    exact ⟨by omega, cs, hg, hm⟩
  · simp [frH, ← hA, hg]
    rw [← hA] at hg; simp [hg]
end
theorem za7.app {A N N' : List (List AV)} {n : Nat} (h : n ≤ A.length) : za7 n (A ++ N) (A ++ N') := by
  intro id cs hid hc
  rw [List.getElem?_append_left (by omega)] at hc ⊢
  exact .inl hc
theorem za7.set {A N N' : List (List AV)} {n i : Nat} {cs : List AV} (h : n ≤ A.length) (hm : mxL cs ≤ n) : za7 n (A ++ N) (A.set i cs ++ N') := by
  intro id cs' hid hc
  rw [List.getElem?_append_left (by simp; omega)] at hc
  rw [List.getElem?_append_left (by omega)]
  rw [List.getElem?_set] at hc
  split at hc
  · split at hc
    · simp at hc; subst hc; exact .inr hm
    · simp at hc
  · exact .inl hc
end
section
variable {P : Program} {cfg : Cfg} {dr : Array Oper → (St → Prop) → St → Prop} {Q : XE → St → Prop} {K : St → Prop} {st : St}
theorem za4 {ops : Array Oper} {kn : Option (Nat × Bool)} {l : List Oper} (h : zau P cfg ops kn l K st) : zau P cfg ops kn l K st := h
theorem za5 {o : Oper} (h : opX P cfg o K st) : opX P cfg o K st := h
theorem zcv {ops : Array Oper} {nY : NY} {kn : Option (Nat × Bool)} {l : List (Nat × DFl)} (h : exD P cfg ops nY kn l K st) : exD P cfg ops nY kn l K st := h
theorem zcu {f : DFl} {nY : NY} {o : Oper} {s : St} (h : ckK f nY o st K s) : ckK f nY o st K s := h
theorem za6 {c : Code} (h : Ex P cfg dr c Q st) : Ex P cfg dr c Q st := h
theorem z5z {fn : Func} {H₀ H' : List (List AV)} {r : AV} {x : XE} (h : zfl P fn H₀ r H' x st) : zfl P fn H₀ r H' x st := h
theorem zbd {id dd : Nat} {vs : List AV} (h : zcz P cfg id vs dd K st) : zcz P cfg id vs dd K st := h
theorem z6b {y : Code} {x : XE} (h : zdh P cfg dr y Q x st) : zdh P cfg dr y Q x st := h
theorem z5x {i : Nat} {x : XE} (h : zfd i Q x st) : zfd i Q x st := h
theorem z5y {x : XE} (h : lpX K Q x st) : lpX K Q x st := h
theorem z6a {rs : List ResultVar} {acc : List AV} {k : List AV → Prop} (h : rK P rs acc k st) : rK P rs acc k st := h
end
theorem zox {w : World} {g : Gh} {x : Nat} {rest : List AV} {vs : List Value} (h : zba w g (.flt x :: rest) vs) : ∃ b, b < 2 ^ 64 ∧ cn b = x ∧ zba w g (.fraw b :: rest) vs := by
  simp only [zba] at h
  obtain ⟨v, r, rfl, h1, h2⟩ := h
  simp only [zaj] at h1
  obtain ⟨b, rfl, h3, h4⟩ := h1
  exact ⟨b, h3, h4, by simp only [zba]; exact ⟨_, _, rfl, by simp only [zaj]; exact ⟨trivial, h3⟩, h2⟩⟩
theorem Spec.raw1 {P : Program} {f : Nat} {x : Nat} {rest : List AV} {H H' : List (List AV)} {r : AV} (h : ∀ b, b < 2 ^ 64 → cn b = x → Spec P f (.fraw b :: rest) H r H') : Spec P f (.flt x :: rest) H r H' := by
  intro w g cargs hw hl
  obtain ⟨b, h1, h2, h3⟩ := zox hl
  exact h b h1 h2 w g cargs hw h3
theorem Spec.raw2 {P : Program} {f : Nat} {x y : Nat} {rest : List AV} {H H' : List (List AV)} {r : AV} (h : ∀ b c, b < 2 ^ 64 → cn b = x → c < 2 ^ 64 → cn c = y → Spec P f (.fraw b :: .fraw c :: rest) H r H') : Spec P f (.flt x :: .flt y :: rest) H r H' := by
  intro w g cargs hw hl
  simp only [zba] at hl
  obtain ⟨v, r', hv, h1, u, r'', rfl, h2, h3⟩ := hl
  simp only [zaj] at h1 h2
  obtain ⟨b, rfl, h4, h5⟩ := h1
  obtain ⟨c, rfl, h6, h7⟩ := h2
  refine h b c h4 h5 h6 h7 w g cargs hw ?_
  rw [hv]
  simp only [zba, zaj]
  exact ⟨_, _, rfl, ⟨rfl, h4⟩, _, _, rfl, ⟨rfl, h6⟩, h3⟩
theorem Spec.intro' {P : Program} {f : Nat} {fn : Func} {body : Code} {args : List AV} {H H' : List (List AV)} {r : AV} (hf : P.funcs[f]? = some fn) (hb : fn.body = some body)
    (hd : zdc fn.ntmps body = true) (hn : args.length ≤ fn.ntmps) (esc : Bool) (fz : List Nat) {draw : Array Oper → (St → Prop) → St → Prop} (hdr : ∀ C : Cx, C.P = P → C.cfg = ⟨esc, H.length, fz⟩ → zfr C draw)
    (h : Ex P ⟨esc, H.length, fz⟩ draw body (zfl P fn H r H') ⟨zbp 0 args, [], H ++ []⟩) : Spec P f args H r H' :=
  Spec.intro hf hb hd hn esc fz hdr (by rw [List.append_nil] at h; exact h)
section
variable {P : Program} {cfg : Cfg} {dr : Array Oper → (St → Prop) → St → Prop} {e : List (Nat × EV)} {L : List (Nat × List AV)} {H : List (List AV)} {Q : XE → St → Prop} {K : St → Prop}
variable {kn : Option (Nat × Bool)} {ops : Array Oper} {d : Option Tmp} {o : Op} {ty : TypeId} {pos : String} {aft : Array Edge} {rest : List Oper} {j : Nat} {b want : Bool} {gd : Option (Nat × Bool)} {dd : Nat}
theorem zkg {t el : TypeId} {x y : Operand} [si : SlI P t el 1] {s : AV} {k : IntKind} {n : Nat} {len : Nat} (hx : St.ev ⟨e, L, H⟩ x = .val s) (hy : St.ev ⟨e, L, H⟩ y = .val (.int k (n : Int))) (hl : slen s = some len) (hi : n < len)
    (h : K ⟨(dd, .val (.eptr s n)) :: e, L, H⟩) : opX P cfg ⟨some dd, .indexAddr t x y, ty, pos, aft, gd⟩ K ⟨e, L, H⟩ :=
  zpc hx hy hl rfl hi (by simpa using h)
theorem zpd {t el : TypeId} {x y : Operand} [si : SlI P t el 1] {s : AV} {k : IntKind} {i : Int} {len : Nat} (hx : St.ev ⟨e, L, H⟩ x = .val s) (hy : St.ev ⟨e, L, H⟩ y = .val (.int k i)) (hl : slen s = some len) (hi : 0 ≤ i ∧ i < len)
    (h : K ⟨(dd, .val (.eptr s i.toNat)) :: e, L, H⟩) : opX P cfg ⟨some dd, .indexAddr t x y, ty, pos, aft, gd⟩ K ⟨e, L, H⟩ :=
  zpc (i := i.toNat) hx hy hl (by omega) (by omega) (by simpa using h)
theorem zqm {t : TypeId} {D : AV} {k : Nat} {l : List Nat} [i : TyI P t 1 false] (hF : FL H D l) (hk : k < l.length) (h : K ⟨(dd, .val (.flt (l.getD k 0))) :: e, L, H⟩) : zbo P t dd K ⟨e, L, H⟩ (.val (.eptr D k)) :=
  zkw (hF.rd hk) h
structure IL (H : List (List AV)) (D : AV) (l : List Int) : Prop where
  len : slen D = some l.length
  all : D ≠ .slnil → zbx H D 0 l.length = some (il l)
  one : ∀ id g o n z, D = .slm id g o n z → z = 1
theorem IL.nil (H : List (List AV)) : IL H .slnil [] := ⟨rfl, fun h => absurd rfl h, by simp⟩
theorem IL.fz (H : List (List AV)) (tag : Option (Nat × Nat)) (l : List Int) : IL H (.sl tag l.length (il l)) l :=
  ⟨rfl, fun _ => by simp only [zbx]; exact zfy _ (by simp), by simp⟩
theorem IL.slm {H : List (List AV)} {id off n g : Nat} {l m : List Int} (h : H[id]? = some (il m)) (hg : g = m.length) (hn : off + n ≤ m.length) (hl : l = (m.drop off).take n) : IL H (.slm id g off n 1) l := by
  subst hl hg
  have e : ((m.drop off).take n).length = n := by simp; omega
  refine ⟨by simp [slen, e], fun _ => ?_, by simp; omega⟩
  simp only [zbx, h, Option.bind_some, zgn, if_true, e, Nat.add_zero]
  rw [zho _ _ _ (by simpa using hn)]
  simp [il, List.map_drop, List.map_take]
theorem IL.rd {H : List (List AV)} {D : AV} {l : List Int} (h : IL H D l) {k : Nat} (hk : k < l.length) : zbx H D k 1 = some [.int .i64 (l.getD k 0)] := by
  have hD : D ≠ .slnil := by rintro rfl; have := h.len; simp [slen] at this; omega
  have h1 := h.all hD
  cases D <;> simp only [zbx, reduceCtorEq] at h1 ⊢
  · have := zm3 h1 (zku hk); simpa using this
  · rename_i id gen o len sz
    cases hi : H[id]? with
    | none => rw [hi] at h1; simp at h1
    | some cs =>
      rw [hi] at h1
      simp only [Option.bind_some] at h1 ⊢
      split at h1
      · rename_i hg; rw [if_pos hg]
        have := zm3 h1 (zku hk); simpa using this
      · simp at h1
theorem z3t {t : TypeId} {D : AV} {k : Nat} {l : List Int} [i : TyI P t 1 false] (hF : IL H D l) (hk : k < l.length) (h : K ⟨(dd, .val (.int .i64 (l.getD k 0))) :: e, L, H⟩) : zbo P t dd K ⟨e, L, H⟩ (.val (.eptr D k)) :=
  zkw (hF.rd hk) h
theorem IL.app {H : List (List AV)} {D : AV} {l : List Int} (h : IL H D l) (N : List (List AV)) : IL (H ++ N) D l := by
  refine ⟨h.len, fun hD => ?_, h.one⟩
  have h1 := h.all hD
  cases D <;> simp only [zbx] at h1 ⊢ <;> try exact h1
  rename_i id gen o len sz
  cases hi : H[id]? with
  | none => rw [hi] at h1; simp at h1
  | some cs =>
    rw [hi] at h1
    rw [List.getElem?_append_left (List.getElem?_eq_some_iff.1 hi).1, hi]; exact h1
theorem zzf {t : TypeId} {x v : Operand} {id gen o' len sz off : Nat} {m m' : List Nat} {f : Nat} [ti : TyI P t 1 false] {A N : List (List AV)} (hx : St.ev ⟨e, L, A ++ N⟩ x = .val (.eptr (.slm id gen o' len sz) off)) (hv : St.ev ⟨e, L, A ++ N⟩ v = .val (.flt f)) (hc : A[id]? = some (fl m))
    (hg : m.length = gen) (hle : o' + off < m.length) (hm : m.set (o' + off) f = m') (h : K ⟨e, L, A.set id (fl m') ++ N⟩) : opX P cfg ⟨none, .store t x v, ty, pos, aft, gd⟩ K ⟨e, L, A ++ N⟩ := by
  subst hm
  refine zss hx hv rfl rfl (zav hc) (by simpa using hg) (by simp; omega) (.inr (by simp [mxL, mx])) rfl ?_
  rw [zrt, zvi, za9 (List.getElem?_eq_some_iff.1 hc).1]; exact h
theorem z2p {t : TypeId} {x v : Operand} {n i gen o' len sz off : Nat} {m m' : List Nat} {f : Nat} [ti : TyI P t 1 false] {A N N' : List (List AV)} (hx : St.ev ⟨e, L, A ++ N⟩ x = .val (.eptr (.slm (n + i) gen o' len sz) off)) (hv : St.ev ⟨e, L, A ++ N⟩ v = .val (.flt f)) (hA : A.length = n) (hc : N[i]? = some (fl m))
    (hg : m.length = gen) (hle : o' + off < m.length) (hm : m.set (o' + off) f = m') (hN : N.set i (fl m') = N') (h : K ⟨e, L, A ++ N'⟩) : opX P cfg ⟨none, .store t x v, ty, pos, aft, gd⟩ K ⟨e, L, A ++ N⟩ := by
  subst hm
  refine zss hx hv rfl rfl (zbg hA hc) (by simpa using hg) (by simp; omega) (.inr (by simp [mxL, mx])) rfl ?_
  rw [zrt, zvi, zea hA hN]; exact h
theorem zkf {t tx : TypeId} {s x : Operand} {n i g g' q len by_ el' z' : Nat} {z : AV} {xs cs cs' : List AV} {A N N' : List (List AV)} [ei : EI P t 1 by_ [z]] [si : SlI P tx el' z'] {vx : AV} {m : Nat} (hs : St.ev ⟨e, L, A ++ N⟩ s = .val (.slm (n + i) g 0 len 1)) (hx : St.ev ⟨e, L, A ++ N⟩ x = .val vx) (hA : A.length = n) (hc : N[i]? = some cs) (hsrc : zlk (A ++ N) 1 vx = some (m, xs))
    (hg : cs.length = g) (hl : len = g) (hm : len + m ≤ 2 ^ 32) (hmx : cfg.n0 ≤ n ∨ mxL xs ≤ cfg.n0) (hz : (decide (by_ ≤ 2 ^ 10) && decide (0 < by_)) = true) (hcs : cs ++ xs = cs') (hN : N.set i cs' = N') (hg' : cs.length + xs.length = g') (hq : len + m = q)
    (h : K ⟨(dd, .val (.slm (n + i) g' 0 q 1)) :: e, L, A ++ N'⟩) :
    opX P cfg ⟨some dd, .call { callee := .builtin .append, args := #[s, x], argTypes := #[t, tx] }, ty, pos, aft, gd⟩ K ⟨e, L, A ++ N⟩ := by
  subst hcs hg' hq hl
  refine zu1 hs hx hsrc (zbg hA hc) hg (by omega) hm (by rcases hmx with h | h; exact .inl (by omega); exact .inr h) (by simpa using hz) ?_
  rw [zea hA hN]; exact h
theorem zy1 {t tx : TypeId} {s x : Operand} {n i by_ el' z' g : Nat} {z : AV} {xs : List AV} {A N N' : List (List AV)} [ei : EI P t 1 by_ [z]] [si : SlI P tx el' z'] {vx : AV} {m : Nat} (hs : St.ev ⟨e, L, A ++ N⟩ s = .val .slnil) (hx : St.ev ⟨e, L, A ++ N⟩ x = .val vx) (hsrc : zlk (A ++ N) 1 vx = some (m, xs)) (hm : 0 < m ∧ m ≤ 2 ^ 32)
    (hA : A.length = n) (hi : N.length = i) (hz : (decide (by_ ≤ 2 ^ 10) && decide (0 < by_)) = true) (hN : N ++ [xs] = N') (hg : xs.length = g) (h : K ⟨(dd, .val (.slm (n + i) g 0 m 1)) :: e, L, A ++ N'⟩) :
    opX P cfg ⟨some dd, .call { callee := .builtin .append, args := #[s, x], argTypes := #[t, tx] }, ty, pos, aft, gd⟩ K ⟨e, L, A ++ N⟩ := by
  subst hN hg hA hi
  refine zu0 hs hx hsrc hm (by simpa using hz) ?_
  simpa [List.append_assoc] using h
end
theorem z3o {nY : NY} {K : St → Prop} {d : Option Tmp} {ty : TypeId} {pos : String} {aft : Array Edge} {gd : Option (Nat × Bool)} {t : TypeId} {x : Operand} {st s : St} {v : AV} (hv : St.ev st x = .val v) (h : K s) : ckK (.ld true) nY ⟨d, .load t x, ty, pos, aft, gd⟩ st K s := by
  refine k_ld hv ?_ h
  unfold z19
  split <;> first | rfl | (rename_i he; cases he)
theorem zil : ∀ (la lb : List Nat), ∃ N, N ≤ la.length ∧ (∀ k, k < N → la.getD k 0 = lb.getD k 0) ∧ (N < la.length → la.getD N 0 ≠ lb.getD N 0)
  | [], lb => ⟨0, Nat.le_refl _, by simp, by simp⟩
  | a :: la, lb => by
    by_cases h : a = lb.getD 0 0
    · obtain ⟨N, h1, h2, h3⟩ := zil la (lb.drop 1)
      have e : ∀ k, (lb.drop 1).getD k 0 = lb.getD (k + 1) 0 := fun k => by simp [List.getD, Nat.add_comm]
      refine ⟨N + 1, by simp; omega, fun k hk => ?_, fun hN => ?_⟩
      · cases k with
        | zero => simpa using h
        | succ k => rw [← e]; simpa using h2 k (by omega)
      · rw [← e]; simpa using h3 (by simpa using hN)
    · exact ⟨0, Nat.zero_le _, by simp, fun _ => by simpa using h⟩
theorem zob {la lb : List Nat} (hl : la.length = lb.length) (h : ∀ k, k < la.length → la.getD k 0 = lb.getD k 0) : la = lb := by
  apply List.ext_getElem hl
  intro i h1 h2
  have := h i h1
  simpa [List.getD, h1, h2] using this
abbrev mt (D : AV) (off rows cols ld : Int) : AV := .agg [D, .int .i64 off, .int .i64 rows, .int .i64 cols, .int .i64 ld]
structure MI (n : Nat) (off rows cols ld : Int) : Prop where
  n : n ≤ 9223372036854775807
  o1 : -9223372036854775808 ≤ off
  o2 : off ≤ 9223372036854775807
  r1 : -9223372036854775808 ≤ rows
  r2 : rows ≤ 9223372036854775807
  c1 : -9223372036854775808 ≤ cols
  c2 : cols ≤ 9223372036854775807
  l1 : -9223372036854775808 ≤ ld
  l2 : ld ≤ 9223372036854775807
def zac (n : Nat) (off rows cols ld : Int) : Prop := 0 ≤ rows ∧ 0 ≤ cols ∧ 0 ≤ off ∧ 1 ≤ ld ∧ rows ≤ ld ∧ (rows = 0 ∨ cols = 0 ∨ (off < n ∧ rows - 1 < n - off ∧ (cols - 1) * ld ≤ n - 1 - off - (rows - 1)))
instance (n : Nat) (off rows cols ld : Int) : Decidable (zac n off rows cols ld) := by unfold zac; infer_instance
def zeo (n : Nat) (off rows cols ld : Int) : Prop := zac n off rows cols ld ∧ rows ≠ 0 ∧ cols ≠ 0
instance (n : Nat) (off rows cols ld : Int) : Decidable (zeo n off rows cols ld) := by unfold zeo; infer_instance
def sF (n : Nat) (off rows cols ld : Int) : Int := if zeo n off rows cols ld then off else 0
def sT (n : Nat) (off rows cols ld : Int) : Int := if zeo n off rows cols ld then off + (cols - 1) * ld + rows - 1 else 0
theorem zj4 {n : Nat} {off rows cols ld : Int} (h : zeo n off rows cols ld) : 0 < n := by
  obtain ⟨⟨h1, h2, h3, h4, h5, h6⟩, h7, h8⟩ := h
  omega
def zgc (n : Nat) (off rows cols ld i j : Int) : Prop := zac n off rows cols ld ∧ 0 ≤ i ∧ 0 ≤ j ∧ i < rows ∧ j < cols
instance (n : Nat) (off rows cols ld i j : Int) : Decidable (zgc n off rows cols ld i j) := by unfold zgc; infer_instance
def plV (n : Nat) (off rows cols ld i j : Int) : Int := if zgc n off rows cols ld i j then off + i + j * ld else -1
theorem zak {n : Nat} {off rows cols ld i j : Int} (h : zac n off rows cols ld) (hi : 0 ≤ i) (hj : 0 ≤ j) (hi' : i < rows) (hj' : j < cols) : 0 ≤ j * ld ∧ 0 ≤ off + i + j * ld ∧ off + i + j * ld < n ∧ j * ld ≤ (cols - 1) * ld ∧ 0 ≤ off ∧ 1 ≤ ld := by
  obtain ⟨h1, h2, h3, h4, h5, h6⟩ := h
  have h7 : j * ld ≤ (cols - 1) * ld := Int.mul_le_mul_of_nonneg_right (by omega) (by omega)
  have h8 : 0 ≤ j * ld := Int.mul_nonneg hj (by omega)
  refine ⟨h8, by omega, ?_, h7, h3, h4⟩
  rcases h6 with h6 | h6 | h6 <;> omega
theorem z4d {n : Nat} {off rows cols ld i j : Int} (h : 0 ≤ plV n off rows cols ld i j) : plV n off rows cols ld i j < n := by
  unfold plV at h ⊢
  split
  · rename_i hp; obtain ⟨h1, h2, h3, h4, h5⟩ := hp; exact (zak h1 h2 h3 h4 h5).2.2.1
  · rename_i hp; simp only [hp, if_false] at h; omega
section
variable {e : List (Nat × EV)} {L : List (Nat × List AV)} {H : List (List AV)} {K : St → Prop} {dd : Nat}
theorem z1q {x y : Nat} (hb : x + y ≤ 9223372036854775807) (h : K ⟨(dd, .val (.int .i64 ((x + y : Nat) : Int))) :: e, L, H⟩) : zcq dd K ⟨e, L, H⟩ (some (True, .int .i64 (IntKind.i64.wrap ((x : Int) + (y : Int))))) :=
  v_w (by omega) (by simpa using h)
theorem zvx {x y : Nat} (hb : y ≤ x) (hx : x ≤ 9223372036854775807) (h : K ⟨(dd, .val (.int .i64 ((x - y : Nat) : Int))) :: e, L, H⟩) : zcq dd K ⟨e, L, H⟩ (some (True, .int .i64 (IntKind.i64.wrap ((x : Int) - (y : Int))))) :=
  v_w (by omega) (by rwa [show ((x : Int) - (y : Int)) = ((x - y : Nat) : Int) from by omega])
theorem z1t {x y : Nat} (hb : x * y ≤ 9223372036854775807) (h : K ⟨(dd, .val (.int .i64 ((x * y : Nat) : Int))) :: e, L, H⟩) : zcq dd K ⟨e, L, H⟩ (some (True, .int .i64 (IntKind.i64.wrap ((x : Int) * (y : Int))))) := by
  have e1 : ((x : Int) * (y : Int)) = ((x * y : Nat) : Int) := by simp
  rw [e1]
  exact v_w (by omega) h
theorem z1u {x y : Nat} (hy : 0 < y) (hx : x ≤ 9223372036854775807) (h : K ⟨(dd, .val (.int .i64 ((x / y : Nat) : Int))) :: e, L, H⟩) : zcq dd K ⟨e, L, H⟩ (some ((y : Int) ≠ 0, .int .i64 (IntKind.i64.wrap ((x : Int).tdiv (y : Int))))) :=
  zyi (by omega) (by omega) (by simpa using h)
theorem z1s {k : IntKind} {x y : Nat} (hy : 0 < y) (h : K ⟨(dd, .val (.int k ((x % y : Nat) : Int))) :: e, L, H⟩) : zcq dd K ⟨e, L, H⟩ (some ((y : Int) ≠ 0, .int k ((x : Int).tmod (y : Int)))) :=
  zsb (by omega) (by omega) (by simpa using h)
end
section
variable {P : Program} {cfg : Cfg} {e : List (Nat × EV)} {L : List (Nat × List AV)} {H : List (List AV)} {K : St → Prop} {ty : TypeId} {pos : String} {aft : Array Edge} {gd : Option (Nat × Bool)} {dd : Nat}
theorem zy3 {t t' : TypeId} [u : UI P t .bool] {x y : Operand} {p q : Bool} (hx : St.ev ⟨e, L, H⟩ x = .val (.bool p)) (hy : St.ev ⟨e, L, H⟩ y = .val (.bool q)) (h : zcq dd K ⟨e, L, H⟩ (some (True, .bool (p == q)))) :
    opX P cfg ⟨some dd, .binOp .eql t x y t', ty, pos, aft, gd⟩ K ⟨e, L, H⟩ := by
  refine zy2 hx hy (r := some (True, .bool (p == q))) ?_ h
  simp only [zou, u.h]
theorem zeg {x y : Bool} (h : x = y) (hk : K ⟨(dd, .val (.bool true)) :: e, L, H⟩) : zcq dd K ⟨e, L, H⟩ (some (True, .bool (x == y))) := by
  subst h; simp only [beq_self_eq_true]; exact ⟨trivial, hk⟩
end
theorem z3q {q : Bool} {nY : NY} {o : Oper} {e e' : List (Nat × EV)} {L : List (Nat × List AV)} {A N N' M : List (List AV)} {K : St → Prop} (hN : N ++ M = N') (h : K ⟨e', L, A ++ N'⟩) : ckK (.mn q) nY o ⟨e, L, A ++ N⟩ K ⟨e', L, A ++ N'⟩ := by
  subst hN
  rw [← List.append_assoc] at h ⊢
  exact z3p h
theorem z01 {n : Nat} {off rows cols ld i j : Int} (h : zgc n off rows cols ld i j) : plV n off rows cols ld i j = off + i + j * ld ∧ 0 ≤ plV n off rows cols ld i j := by
  have h1 : plV n off rows cols ld i j = off + i + j * ld := by rw [plV, if_pos h]
  obtain ⟨h2, h3, h4, h5, h6⟩ := h
  exact ⟨h1, by rw [h1]; exact (zak h2 h3 h4 h5 h6).2.1⟩
def aD (p : Nat × Nat) (l : List Nat) : AV := .sl (if l = [] then none else some p) l.length (fl l)
theorem zoz (H : List (List AV)) (p : Nat × Nat) (l : List Nat) : FL H (aD p l) l := FL.fz H _ l
theorem FL.slc {H : List (List AV)} {D : AV} {l : List Nat} (h : FL H D l) {a b : Nat} (hab : a ≤ b) (hb : b ≤ l.length) : ∃ D', zsi 1 a b D = some D' ∧ FL H D' ((l.drop a).take (b - a)) := by
  have e1 : ((l.drop a).take (b - a)).length = b - a := by simp; omega
  have nil : a = b → FL H (.sl none 0 []) ((l.drop a).take (b - a)) := by
    intro hh; subst hh
    simp only [Nat.sub_self, List.take_zero]
    exact FL.fz H none []
  cases D with
  | slnil =>
    have := h.len
    simp only [slen, Option.some.injEq] at this
    exact ⟨_, rfl, nil (by omega)⟩
  | sl tag len cells =>
    have h1 := h.all (by simp)
    have hl := h.len
    simp only [zbx, slen, Option.some.injEq] at h1 hl
    simp only [zsi]
    by_cases hlt : a < b
    · rw [if_pos hlt]
      refine ⟨_, rfl, by simp only [slen]; rw [e1], fun _ => ?_, by simp, ?_⟩
      rotate_left
      · have := h.mx
        simp only [Sx.mx] at this ⊢
        rw [zkz] at this ⊢
        intro i c hi
        rw [List.getElem?_take] at hi
        split at hi
        · rw [List.getElem?_drop] at hi; exact this _ c hi
        · simp at hi
      simp only [zbx, Nat.mul_one]
      rw [e1]
      obtain ⟨g1, g2⟩ := zem h1
      have hc : l.length ≤ cells.length := by
        rcases Nat.lt_or_ge (l.length - 1) cells.length with hh | hh
        · omega
        · have := g2 (l.length - 1) (by omega)
          rw [Nat.zero_add, List.getElem?_eq_none hh] at this
          simp [fl] at this; omega
      rw [zfy _ (by simp; omega)]
      congr 1
      apply List.ext_getElem?
      intro i
      by_cases hi : i < b - a
      · rw [List.getElem?_take_of_lt hi, List.getElem?_drop]
        have := g2 (a + i) (by omega)
        rw [Nat.zero_add] at this
        rw [← this]
        simp [fl, List.getElem?_take, hi]
      · rw [List.getElem?_eq_none (by simp; omega), List.getElem?_eq_none (by simp; omega)]
    · rw [if_neg hlt]; exact ⟨_, rfl, nil (by omega)⟩
  | slm id gen o len sz =>
    have hz := h.one _ _ _ _ _ rfl
    subst hz
    have h1 := h.all (by simp)
    have hl := h.len
    simp only [slen, Option.some.injEq] at hl
    simp only [zsi, if_true]
    by_cases hlt : a < b
    · rw [if_pos hlt]
      refine ⟨_, rfl, by simp only [slen]; rw [e1], fun _ => ?_, by simp; omega, h.mx⟩
      simp only [zbx, Nat.add_zero, Nat.mul_one] at h1 ⊢
      rw [e1]
      cases hi : H[id]? with
      | none => rw [hi] at h1; simp at h1
      | some cs =>
        rw [hi] at h1
        simp only [Option.bind_some] at h1 ⊢
        split at h1
        case isFalse => simp at h1
        rename_i hg
        rw [if_pos hg]
        obtain ⟨g1, g2⟩ := zem h1
        have hc : o + l.length ≤ cs.length := by
          rcases Nat.lt_or_ge (o + (l.length - 1)) cs.length with hh | hh
          · omega
          · have := g2 (l.length - 1) (by omega)
            rw [List.getElem?_eq_none hh] at this
            simp [fl] at this; omega
        rw [zho _ _ _ (by omega)]
        congr 1
        apply List.ext_getElem?
        intro i
        by_cases hi : i < b - a
        · rw [List.getElem?_take_of_lt hi, List.getElem?_drop]
          have := g2 (a + i) (by omega)
          rw [show o + a + i = o + (a + i) from by omega, ← this]
          simp [fl, List.getElem?_take, hi]
        · rw [List.getElem?_eq_none (by simp; omega), List.getElem?_eq_none (by simp; omega)]
    · rw [if_neg hlt]; exact ⟨_, rfl, nil (by omega)⟩
  | junk | bool _ | int _ _ | flt _ | fraw _ | str _ | eptr _ _ | agg _ | tup _ | func _ _ _ | raw _ => have := h.len; simp [slen] at this
theorem set_self {α : Type} {l : List α} {i : Nat} {a : α} (h : l[i]? = some a) : l.set i a = l := by
  apply List.ext_getElem?
  intro j
  rw [List.getElem?_set]
  split
  · rename_i hj; subst hj; split
    · exact h.symm
    · rename_i hl; have := (List.getElem?_eq_some_iff.1 h).1; omega
  · rfl
theorem ztn {e : List (Nat × EV)} {L : List (Nat × List AV)} {H : List (List AV)} {b : Nat} {xs : List Operand} {acc : List AV} {k : List AV → Prop} (hb : (decide (b < 2 ^ 64) && !isNaN b) = true) (h : gK xs (acc ++ [.flt b]) k ⟨e, L, H⟩) : gK (.const (.float .f64 b) :: xs) acc k ⟨e, L, H⟩ := by
  simp only [Bool.and_eq_true, decide_eq_true_eq, Bool.not_eq_true'] at hb
  refine zp9 (v := .flt b) ?_ h
  have : aOf (.float .f64 b) = .flt b := by
    show zb1 (.float .f64 b) = .flt b
    simp only [zb1, hb.1, if_true, cn, hb.2, Bool.false_eq_true, if_false]
  show EV.val (aOf (.float .f64 b)) = _
  rw [this]
theorem zdq {e : List (Nat × EV)} {L : List (Nat × List AV)} {H : List (List AV)} {acc acc' : List AV} {k : List AV → Prop} (ha : acc = acc') (h : k acc') : gK [] acc k ⟨e, L, H⟩ := by
  subst ha; exact zd9 h
theorem FL.blk {A N : List (List AV)} {n j g q : Nat} {l : List Nat} (hA : A.length = n) (hj : N[j]? = some (fl l)) (hg : g = l.length) (hq : q = l.length) : FL (A ++ N) (.slm (n + j) g 0 q 1) l :=
  FL.slm (zbg hA hj) hg (by omega) (by subst hq; simp)
theorem FL.old {H : List (List AV)} {id g q : Nat} {l : List Nat} (hj : H[id]? = some (fl l)) (hg : g = l.length) (hq : q = l.length) : FL H (.slm id g 0 q 1) l :=
  FL.slm hj hg (by omega) (by subst hq; simp)
def dIx (r c k : Nat) : Nat := k / c + k % c * max r 1
def zes (r c : Nat) (l : List Nat) : Nat → List Nat
  | 0 => List.replicate (r * c) 0
  | k + 1 => (zes r c l k).set (dIx r c k) (l.getD k 0)
def zds (r c : Nat) (l : List Nat) : List Nat := zes r c (l.take (min l.length (r * c))) (min l.length (r * c))
@[simp] theorem zn9 (r c : Nat) (l : List Nat) : ∀ k, (zes r c l k).length = r * c
  | 0 => by simp [zes]
  | k + 1 => by simp [zes, zn9 r c l k]
@[simp] theorem zd7 (r c : Nat) (l : List Nat) : (zds r c l).length = r * c := by simp [zds]
theorem zzs {r c k : Nat} (h : k < r * c) : dIx r c k < r * c := by
  unfold dIx
  have hc : 0 < c := by rcases Nat.eq_zero_or_pos c with h0 | h0; · subst h0; simp at h
                        · exact h0
  have hr : 0 < r := by rcases Nat.eq_zero_or_pos r with h0 | h0; · subst h0; simp at h
                        · exact h0
  have h1 : k / c < r := (Nat.div_lt_iff_lt_mul hc).2 h
  have h2 : k % c ≤ c - 1 := by have := Nat.mod_lt k hc; omega
  have h3 : k % c * max r 1 ≤ (c - 1) * r := by rw [Nat.max_eq_left hr]; exact Nat.mul_le_mul_right _ h2
  have h4 : (c - 1) * r + r = r * c := by
    rw [← Nat.succ_mul, show (c - 1).succ = c from by omega, Nat.mul_comm]
  omega
end Go.Sx
set_option linter.unusedVariables false
set_option linter.unusedSimpArgs false
namespace Go.Sx
open Go.ChangeShapes Go.WideShapes Go.ChangeAt Go.RowKit Go.Deep
def g0 (W : World) : Gh := ⟨fun _ _ => none, fun b => b < W.heap.size⟩
theorem z4n (W : World) : WRep W (g0 W) [] := ⟨fun id cs h => by simp at h, fun id id' cs cs' b δ δ' h => by simp at h, fun b h => h, fun id gen b δ h => by simp [g0] at h, fun id gen p h => by simp [g0] at h⟩
structure Stays (W W' : World) : Prop where
  kept : W.keptBut W' (fun _ => False)
  fro : ∀ a : Addr, a.block < W.heap.size → W'.frozen? a = W.frozen? a
  heap : ∀ b, b < W.heap.size → W'.heap[b]? = W.heap[b]?
theorem zxb {P : Program} {f : Nat} {args : List AV} {cargs : Array Value} {W : World} (hs : Spec P f args [] (.bool true) []) (hl : zba W (g0 W) args cargs.toList) :
    Calls P f cargs W fun e W' => e = .returned (.bool true) ∧ Stays W W' := by
  refine (hs W (g0 W) cargs (z4n W) hl).mono fun e W' h => ?_
  obtain ⟨v, g', h1, h2, h3, h4⟩ := h
  simp only [zaj] at h4
  subst h4
  have hb : ∀ b, b < W.heap.size → W'.heap[b]? = W.heap[b]? := fun b hb => h3.keep b hb (by rintro ⟨id, cs, δ, hc, _⟩; simp at hc)
  refine ⟨h1, ⟨h3.same.1, h3.same.2.1, fun i hi => ?_⟩, h3.fro, hb⟩
  rw [hb i hi]
  exact (World.keptBut_refl W (fun _ => False)).2.2 i hi
section
variable {H : Type} {enc : TypeId × Value → H} {P : Program} {W : World} {base : Nat}
theorem zut {t : TypeId} {n : Nat} {v : Value} {spare : Nat → Bool} {held : Bool} {x : DataW H × List MemPlace} (ht : P.underlying t = some (.float .f64)) (h : DataW.trod enc P W base spare held n t [v] = some x) : ∃ b, v = .float .f64 b ∧ b < 2 ^ 64 := by
  cases n with
  | zero => simp [DataW.trod] at h
  | succ n =>
    unfold DataW.trod at h
    rw [ht] at h
    split at h <;> simp_all
    subst_vars
    obtain ⟨⟨_, h1⟩, _⟩ := h
    simpa [Lit.wf] using h1
theorem zxp {t e : TypeId} {n : Nat} {X : Value} {x : DataW H × List MemPlace} (ht : P.underlying t = some (.slice e)) (he : P.underlying e = some (.float .f64)) (hc : P.cellsOf e = 1) (h : DataW.trod enc P W base (fun _ => true) true n t [X] = some x) :
    ∃ p l, l.length ≤ 9223372036854775807 ∧ zaj W (g0 W) (aD p l) X := by
  rcases open_slice1 ht hc h with ⟨h1, _⟩ | ⟨a, len, cap, m, k, V, D, Pl, h1, hb, hl, hm, hmm, _, hx⟩
  · simp only [List.cons.injEq, and_true] at h1
    subst h1
    exact ⟨(0, 0), [], by simp, by simp only [aD, if_true, zaj]; exact ⟨0, Nat.le_refl _, .inl (by simp [fl])⟩⟩
  · simp only [List.cons.injEq, and_true] at h1
    subst h1
    simp only [if_true] at hmm
    have hf : ∀ i, i < len → ∃ b, V i = .float .f64 b ∧ b < 2 ^ 64 := fun i hi => zut he (hx i (by omega)).2
    have hbs : ∃ bs : Nat → Nat, ∀ i, i < len → V i = .float .f64 (bs i) ∧ bs i < 2 ^ 64 :=
      ⟨fun i => if h : i < len then (hf i h).choose else 0, fun i hi => by simp only [hi, dif_pos]; exact (hf i hi).choose_spec⟩
    obtain ⟨bs, hbs⟩ := hbs
    have hml : maxLen = 9223372036854775807 := by decide
    refine ⟨(a.block, a.off), (List.range len).map fun i => cn (bs i), by simp; omega, ?_⟩
    by_cases h0 : len = 0
    · subst h0
      simp only [aD, List.range_zero, List.map_nil, if_true, zaj, List.length_nil]
      exact ⟨cap, Nat.zero_le _, .inl (by simp [fl])⟩
    · have hc0 := (hx 0 (by omega)).1
      have ha0 : a.add 0 = a := by simp [Addr.add]
      rw [ha0] at hc0
      obtain ⟨_, _, hsh, _, hsp⟩ := World.shape?_of_cell? hc0
      have hae : a = ⟨a.block, a.off, none⟩ := by cases a; simp_all
      have hne : ¬ ((List.range len).map fun i => cn (bs i)) = [] := by simp; omega
      simp only [aD, if_neg hne, zaj, List.length_map, List.length_range]
      have hblk : a.block < W.heap.size := by
        unfold World.shape? at hsh
        cases hq : W.heap[a.block]? with
        | none => rw [hq] at hsh; simp at hsh
        | some o => exact (Array.getElem?_eq_some_iff.1 hq).1
      refine ⟨cap, hl, .inr ⟨a.block, a.off, by rw [← hae], .inr rfl, hblk, ?_⟩⟩
      rw [zdl]
      intro i c hi
      have hil : i < len := by
        have := (List.getElem?_eq_some_iff.1 hi).1
        simpa [fl] using this
      have hci := (hx i (by omega)).1
      have had : a.add i = ⟨a.block, a.off + i, none⟩ := by
        rw [hae]; exact Addr.add_mid _ _ _
      rw [had] at hci
      refine ⟨V i, hci, ?_, ?_⟩
      · rw [(hbs i hil).1]; rfl
      · simp [fl, hil] at hi
        subst hi
        simp only [zaj]
        exact ⟨bs i, (hbs i hil).1, (hbs i hil).2, rfl⟩
theorem zhb {t : TypeId} {n : Nat} {v : Value} {spare : Nat → Bool} {held : Bool} {x : DataW H × List MemPlace} (ht : P.underlying t = some (.int .i64)) (h : DataW.trod enc P W base spare held n t [v] = some x) : ∃ i, v = .int .i64 i ∧ -9223372036854775808 ≤ i ∧ i ≤ 9223372036854775807 := by
  obtain ⟨i, h1, _, h2⟩ := DataW.trod_int ht h
  simp only [List.cons.injEq, and_true] at h1
  simp only [Lit.wf, IntKind.min, IntKind.max, IntKind.signed, IntKind.bits] at h2
  simp at h2
  exact ⟨i, h1, by omega, by omega⟩
theorem zt5 {t ts tf ti : TypeId} {fs : Array Field} {v : Value} {d : DataW H} {ps : List MemPlace} {r : Reach} {b0 : Nat} (hs : P.underlying t = some (.struct fs)) (hone : oneCellFields P fs = true) (hty : fs.toList.map (·.type) = [ts, ti, ti, ti, ti]) (hC : P.cellsOf t = 5)
    (hts : P.underlying ts = some (.slice tf)) (htf : P.underlying tf = some (.float .f64)) (hcf : P.cellsOf tf = 1) (hti : P.underlying ti = some (.int .i64))
    (hv : Value.okWide P W r b0 t v) (h : DataW.Trod enc P W base (fun _ => true) true t v d ps) :
    ∃ p l off rows cols ld, MI l.length off rows cols ld ∧ zaj W (g0 W) (mt (aD p l) off rows cols ld) v := by
  obtain ⟨cs, rfl, hsz⟩ := okWide_struct hs hv
  obtain ⟨fuel, hf⟩ := h
  obtain ⟨xs, n, _, _, hcl, hlen, hg⟩ := DataW.trod_struct hs hf
  have hfl : fs.size = 5 := by have := congrArg List.length hty; simpa using this
  have get : ∀ i (hi : i < 5), ∃ c y, cs[i]? = some c ∧ DataW.trod enc P W base (fun _ => true) true n ((fs[i]'(by omega)).type) [c] = some y := by
    intro i hi
    have hfi : fs[i]? = some (fs[i]'(by omega)) := Array.getElem?_eq_getElem (by omega)
    obtain ⟨h1, h2⟩ := hone_of hone i _ hfi
    have h3 := hg i _ hfi
    rw [h1, h2] at h3
    have hci : i < cs.size := by omega
    have hd : ((Value.agg cs).cells.toList.drop i).take 1 = [cs[i]] := by
      show (cs.toList.drop i).take 1 = _
      rw [List.drop_eq_getElem_cons (by simpa using hci)]
      simp
    have hxi : i < xs.length := by omega
    have h3' : DataW.trod enc P W base (fun _ => true) true n ((fs[i]'(by omega)).type) (((Value.agg cs).cells.toList.drop i).take 1) = xs[i]? := h3
    rw [hd, List.getElem?_eq_getElem hxi] at h3'
    exact ⟨cs[i], _, by simp [hci], h3'⟩
  have hti' : ∀ i (hi : i < 5), (fs[i]'(by omega)).type = [ts, ti, ti, ti, ti][i]'(by simpa using hi) := by
    intro i hi
    have := congrArg (·[i]?) hty
    simp only [List.getElem?_map, Array.getElem?_toList] at this
    rw [Array.getElem?_eq_getElem (by omega)] at this
    rw [List.getElem?_eq_getElem (by simpa using hi)] at this
    simpa using this
  obtain ⟨c0, y0, e0, t0⟩ := get 0 (by omega)
  obtain ⟨c1, y1, e1, t1⟩ := get 1 (by omega)
  obtain ⟨c2, y2, e2, t2⟩ := get 2 (by omega)
  obtain ⟨c3, y3, e3, t3⟩ := get 3 (by omega)
  obtain ⟨c4, y4, e4, t4⟩ := get 4 (by omega)
  rw [hti' 0 (by omega)] at t0
  rw [hti' 1 (by omega)] at t1
  rw [hti' 2 (by omega)] at t2
  rw [hti' 3 (by omega)] at t3
  rw [hti' 4 (by omega)] at t4
  simp only [List.getElem_cons_zero, List.getElem_cons_succ] at t0 t1 t2 t3 t4
  obtain ⟨p, l, hl, hD⟩ := zxp hts htf hcf t0
  obtain ⟨i1, rfl, a1, b1⟩ := zhb hti t1
  obtain ⟨i2, rfl, a2, b2⟩ := zhb hti t2
  obtain ⟨i3, rfl, a3, b3⟩ := zhb hti t3
  obtain ⟨i4, rfl, a4, b4⟩ := zhb hti t4
  have hcs : cs.toList = [c0, .int .i64 i1, .int .i64 i2, .int .i64 i3, .int .i64 i4] := by
    apply List.ext_getElem?
    intro i
    match i with
    | 0 => simpa using e0
    | 1 => simpa using e1
    | 2 => simpa using e2
    | 3 => simpa using e3
    | 4 => simpa using e4
    | i + 5 => rw [List.getElem?_eq_none (by simp; omega), List.getElem?_eq_none (by simp)]
  refine ⟨p, l, i1, i2, i3, i4, ⟨hl, a1, b1, a2, b2, a3, b3, a4, b4⟩, ?_⟩
  have ho0 : c0.oneCell' = true := by
    simp only [aD, zaj] at hD
    obtain ⟨cap, _, ⟨_, _, _, ao, rfl⟩ | ⟨b, o, rfl, _⟩⟩ := hD <;> rfl
  simp only [mt, zaj]
  refine ⟨cs, rfl, ?_, ?_⟩
  · rw [hcs]; simp only [List.mem_cons, List.not_mem_nil, or_false]
    rintro x (rfl | rfl | rfl | rfl | rfl) <;> first | exact ho0 | rfl
  · rw [hcs]
    simp only [zba]
    exact ⟨_, _, rfl, hD, _, _, rfl, by simp [zaj], _, _, rfl, by simp [zaj], _, _, rfl, by simp [zaj], _, _, rfl, by simp [zaj], rfl⟩
theorem zos {t : TypeId} (hl : laidOutB P = true) (hr : P.readableRec t = true) (hrow : t < P.types.size) {W' : World} {sp : Nat → Bool} {v : Value} {d : DataW H} {ps : List MemPlace}
    (h : DataW.Trod enc P W 0 (fun _ => true) true t v d ps) (hst : Stays W W') (hlt : ∀ p ∈ ps, p.block < W.heap.size) (hsp : ∀ p ∈ ps, sp p.block = true) : DataW.Trod enc P W' 0 sp true t v d ps := by
  refine Go.WideElems.Trod_stays hl hr hrow h (fun p hp => ?_) hsp
  have := hst.heap p.block (hlt p hp)
  cases p with
  | cell b o => exact zpl this
  | map b => exact this
theorem zll (hl : laidOutB P = true) {W' : World} {sp : Nat → Bool} (hst : Stays W W') : ∀ {ts : List TypeId} {vs : List Value} {ds : List (DataW H)} {ps : List MemPlace}, (∀ t ∈ ts, P.readableRec t = true ∧ t < P.types.size) →
    DataW.TrodAll enc P W 0 (fun _ => true) true ts vs ds ps → (∀ p ∈ ps, p.block < W.heap.size) → (∀ p ∈ ps, sp p.block = true) → DataW.TrodAll enc P W' 0 sp true ts vs ds ps
  | [], [], [], ps, _, h, _, _ => h
  | [], [], _ :: _, _, _, h, _, _ => h.elim
  | [], _ :: _, _, _, _, h, _, _ => by simp [DataW.TrodAll] at h
  | _ :: _, [], _, _, _, h, _, _ => by simp [DataW.TrodAll] at h
  | _ :: _, _ :: _, [], _, _, h, _, _ => h.elim
  | t :: ts, v :: vs, d :: ds, ps, hts, ⟨p, q, h1, h2, h3⟩, hlt, hsp => by
    subst h3
    exact ⟨p, q, zos hl (hts t (by simp)).1 (hts t (by simp)).2 h1 hst (fun x hx => hlt x (by simp [hx])) (fun x hx => hsp x (by simp [hx])),
      zll hl hst (fun t ht => hts t (by simp [ht])) h2 (fun x hx => hlt x (by simp [hx])) (fun x hx => hsp x (by simp [hx])), rfl⟩
theorem ztx {f : Func} {s : ChangeSpec} {apart fresh handsOn again : Bool} {W' : World} {args : Array Value} {ds gs : List (DataW H)} {before : List MemPlace} {tb : TypeId}
    (hW : DataW.Whole enc P f.params.toList s.vars apart W args.toList ds gs before) (hv0 : s.vars = []) (hst : Stays W W') (hres : f.resultTypes = #[tb]) (htb : P.underlying tb = some .bool)
    (hspec : s.fn H (ds ++ gs) = { results := [.lit (.bool true)], args := ds }) (hl : laidOutB P = true) (hts : ∀ t ∈ f.params.toList, P.readableRec t = true ∧ t < P.types.size) :
    s.post enc P f apart fresh handsOn again W args (.bool true) W' := by
  have hlt := hW.lt
  have hW' := hW
  obtain ⟨p, q, h1, h2, h3, h4, h5⟩ := hW
  rw [hv0] at h2
  have hgq : gs = [] ∧ q = [] := by
    cases gs with
    | nil => exact ⟨rfl, by simpa [DataW.TrodVars] using h2⟩
    | cons g gs => simp [DataW.TrodVars] at h2
  obtain ⟨rfl, rfl⟩ := hgq
  rw [List.append_nil] at h3
  subst h3
  have hR : ∀ (b : Nat) (sp : Nat → Bool) (hd : Bool), DataW.TrodAll enc P W' b sp hd f.resultTypes.toList ((Value.bool true).resultList f.resultTypes.size) [.lit (.bool true)] [] := by
    intro b sp hd
    rw [hres]
    exact ⟨[], [], shut_bool htb true, rfl, rfl⟩
  have hA : ∀ sp : Nat → Bool, (∀ x ∈ before, sp x.block = true) → DataW.TrodAll enc P W' 0 sp true f.params.toList args.toList ds before := fun sp hsp => zll hl hst hts h1 hlt hsp
  have hV : ∀ sp : Nat → Bool, DataW.TrodVars enc P W' sp s.vars ([] : List (DataW H)) [] := fun sp => by rw [hv0]; rfl
  refine ⟨ds, [], before, [], before, [], hW', by rw [hspec]; exact hR _ _ _, by rw [hspec]; exact hA _ (fun x hx => by simpa using hlt x hx), by rw [hspec]; exact hV _, World.keptBut_mono (fun p h => h.elim) hst.kept, fun _ => ?_⟩
  refine ⟨ok_one hres rfl (okWide_bool_mk htb true), [.lit (.bool true)] ++ ds, [], [] ++ before, ⟨[] ++ before, [], trodAll_append (hA _ (fun _ _ => rfl)) (hR _ _ _), hV _, by simp, ?_, ?_⟩, ?_⟩
  · intro b off hp
    rw [hst.fro _ (hlt _ (by simpa using hp))]
    exact h4 b off (by simpa using hp)
  · intro ha; simpa using h5 ha
  · intro x hx _; simpa using hx
end
end Go.Sx
set_option linter.unusedVariables false
set_option linter.unusedSimpArgs false
namespace Go.Sx
section
variable {P : Program} {cfg : Cfg} {dr : Array Oper → (St → Prop) → St → Prop} {e : List (Nat × EV)} {L : List (Nat × List AV)} {H : List (List AV)} {Q : XE → St → Prop} {K : St → Prop}
variable {d : Option Tmp} {ty : TypeId} {pos : String} {aft : Array Edge} {gd : Option (Nat × Bool)} {dd : Nat}
theorem zo0 {b : Nat} (hb : (decide (b < 2 ^ 64) && !isNaN b) = true) : aOf (.float .f64 b) = .flt b := by
  simp only [Bool.and_eq_true, decide_eq_true_eq, Bool.not_eq_true'] at hb
  show zb1 (.float .f64 b) = .flt b
  simp only [zb1, hb.1, if_true, cn, hb.2, Bool.false_eq_true, if_false]
theorem zo9 {b : Nat} (hb : (decide (b < 2 ^ 64) && !isNaN b) = true) (h : K ⟨(dd, .val (.flt b)) :: e, L, H⟩) : opX P cfg ⟨some dd, .assign (.const (.float .f64 b)), ty, pos, aft, gd⟩ K ⟨e, L, H⟩ :=
  zg0 (by show EV.val (aOf (.float .f64 b)) = _; rw [zo0 hb]) h
theorem zwb {b : Nat} (hb : (decide (b < 2 ^ 64) && !isNaN b) = true) (h : K ⟨(dd, .val (.flt b)) :: e, L, H⟩) : opX P cfg ⟨some dd, .move (.const (.float .f64 b)), ty, pos, aft, gd⟩ K ⟨e, L, H⟩ :=
  zpe (by show EV.val (aOf (.float .f64 b)) = _; rw [zo0 hb]) h
theorem zad {k : IntKind} {n : Int} (h : K ⟨(dd, .val (.int k n)) :: e, L, H⟩) : opX P cfg ⟨some dd, .assign (.const (.int k n)), ty, pos, aft, gd⟩ K ⟨e, L, H⟩ := zg0 rfl h
theorem zbj {k : IntKind} {n : Int} (h : K ⟨(dd, .val (.int k n)) :: e, L, H⟩) : opX P cfg ⟨some dd, .move (.const (.int k n)), ty, pos, aft, gd⟩ K ⟨e, L, H⟩ := zpe rfl h
theorem zae (h : K ⟨(dd, .val .slnil) :: e, L, H⟩) : opX P cfg ⟨some dd, .assign (.const (.slice none 0 0)), ty, pos, aft, gd⟩ K ⟨e, L, H⟩ := zg0 rfl h
theorem zv1 {id : Nat} {xs : List Operand} {acc : List AV} {b : Nat} (hb : (decide (b < 2 ^ 64) && !isNaN b) = true) (h : ze4 P cfg id xs (acc ++ [.flt b]) dd K ⟨e, L, H⟩) : ze4 P cfg id (.const (.float .f64 b) :: xs) acc dd K ⟨e, L, H⟩ :=
  zo3 (by show EV.val (aOf (.float .f64 b)) = _; rw [zo0 hb]) h
theorem zv9 {f : Operand} {id : Nat} {first caps : List AV} {args : Array Operand} {ts : Array TypeId} (hf : St.ev ⟨e, L, H⟩ f = .val (.func id first caps)) (h : gK args.toList [] (fun vs => zcz P cfg id (first ++ vs ++ caps) dd K ⟨e, L, H⟩) ⟨e, L, H⟩) :
    opX P cfg ⟨some dd, .call { callee := .value f, args := args, argTypes := ts }, ty, pos, aft, gd⟩ K ⟨e, L, H⟩ := by
  obtain ⟨vs, ha, r, H', h1, h2, h3⟩ := h
  simp only [opX, opE, hf, ha]
  exact ⟨r, H', by simpa using h1, h2, h3⟩
theorem zzb {f : Nat} {first caps : Array Operand} (h : gK first.toList [] (fun vs => gK caps.toList [] (fun us => K ⟨(dd, .val (.func f vs us)) :: e, L, H⟩) ⟨e, L, H⟩) ⟨e, L, H⟩) :
    opX P cfg ⟨some dd, .makeFunc (.func f) first caps, ty, pos, aft, gd⟩ K ⟨e, L, H⟩ := by
  obtain ⟨vs, h1, us, h2, h⟩ := h
  rw [zbu P cfg e L H K _ _ _ _ _ _ rfl]
  unfold zfc at h1 h2
  simp only [zas, h1, h2, zdb]
  simp only [List.nil_append] at h
  exact ⟨trivial, h⟩
theorem z0h {t : TypeId} {A N : List (List AV)} {n j g o len sz off k : Nat} {cs l : List AV} [i : TyI P t k true] (hA : A.length = n) (hj : N[j]? = some cs) (hg : cs.length = g) (hl : gc cs (o + off) k = some l) (hk : K ⟨(dd, .val (.agg l)) :: e, L, A ++ N⟩) : zbo P t dd K ⟨e, L, A ++ N⟩ (.val (.eptr (.slm (n + j) g o len sz) off)) :=
  zqo (by simp only [zbx, zbg hA hj, Option.bind_some, hg, if_true]; exact hl) hk
theorem zqn {t : TypeId} {A N : List (List AV)} {n j g o len sz off : Nat} {cs : List AV} {c : AV} [i : TyI P t 1 false] (hA : A.length = n) (hj : N[j]? = some cs) (hg : cs.length = g) (hl : cs[o + off]? = some c) (hk : K ⟨(dd, .val c) :: e, L, A ++ N⟩) : zbo P t dd K ⟨e, L, A ++ N⟩ (.val (.eptr (.slm (n + j) g o len sz) off)) :=
  zkw (by simp only [zbx, zbg hA hj, Option.bind_some, hg, if_true]; exact zkr hl) hk
theorem z0i {t : TypeId} {A N : List (List AV)} {b g o len sz off k : Nat} {cs l : List AV} [i : TyI P t k true] (hj : A[b]? = some cs) (hg : cs.length = g) (hl : gc cs (o + off) k = some l) (hk : K ⟨(dd, .val (.agg l)) :: e, L, A ++ N⟩) : zbo P t dd K ⟨e, L, A ++ N⟩ (.val (.eptr (.slm b g o len sz) off)) :=
  zqo (by simp only [zbx, zav hj, Option.bind_some, hg, if_true]; exact hl) hk
theorem zsg {t : TypeId} {A N : List (List AV)} {b g o len sz off : Nat} {cs : List AV} {c : AV} [i : TyI P t 1 false] (hj : A[b]? = some cs) (hg : cs.length = g) (hl : cs[o + off]? = some c) (hk : K ⟨(dd, .val c) :: e, L, A ++ N⟩) : zbo P t dd K ⟨e, L, A ++ N⟩ (.val (.eptr (.slm b g o len sz) off)) :=
  zkw (by simp only [zbx, zav hj, Option.bind_some, hg, if_true]; exact zkr hl) hk
theorem zcs {id : Nat} {xs : List Operand} {acc : List AV} {k : IntKind} {n : Int} (h : ze4 P cfg id xs (acc ++ [.int k n]) dd K ⟨e, L, H⟩) : ze4 P cfg id (.const (.int k n) :: xs) acc dd K ⟨e, L, H⟩ := zo3 rfl h
def gV (n i k : Nat) : AV := if k = 0 then .slnil else .slm (n + i) k 0 k 1
def gN (l : List AV) : List (List AV) := if l = [] then [] else [l]
theorem zhn (n i k : Nat) : slen (gV n i k) = some k := by unfold gV; split <;> simp_all [slen]
theorem zu5 {t tx : TypeId} {s x : Operand} {n i k by_ el' z' : Nat} {z v : AV} {l l' : List AV} {A N₀ : List (List AV)} [ei : EI P t 1 by_ [z]] [si : SlI P tx el' z'] (hs : St.ev ⟨e, L, A ++ (N₀ ++ gN l)⟩ s = .val (gV n i k)) (hx : St.ev ⟨e, L, A ++ (N₀ ++ gN l)⟩ x = .val (.sl none 1 [v]))
    (hA : A.length = n) (hi : N₀.length = i) (hk : l.length = k) (hm : k + 1 ≤ 2 ^ 32) (hn : cfg.n0 = n) (hz : (decide (by_ ≤ 2 ^ 10) && decide (0 < by_)) = true) (hl : l ++ [v] = l')
    (h : K ⟨(dd, .val (gV n i (k + 1))) :: e, L, A ++ (N₀ ++ gN l')⟩) :
    opX P cfg ⟨some dd, .call { callee := .builtin .append, args := #[s, x], argTypes := #[t, tx] }, ty, pos, aft, gd⟩ K ⟨e, L, A ++ (N₀ ++ gN l)⟩ := by
  subst hl
  have e1 : gV n i (k + 1) = .slm (n + i) (k + 1) 0 (k + 1) 1 := by simp [gV]
  have e2 : gN (l ++ [v]) = [l ++ [v]] := by simp [gN]
  rw [e1, e2] at h
  cases l with
  | nil =>
    simp only [List.length_nil] at hk; subst hk
    simp only [gN, if_true, List.append_nil, List.nil_append] at hs hx h ⊢
    exact zy1 (n := n) (i := i) (xs := [v]) (m := 1) hs hx (zgu rfl) (by omega) hA hi hz rfl rfl h
  | cons a l =>
    have hk0 : k ≠ 0 := by simp at hk; omega
    have e3 : gV n i k = .slm (n + i) k 0 k 1 := by simp [gV, hk0]
    have e4 : gN (a :: l) = [a :: l] := by simp [gN]
    rw [e3] at hs
    rw [e4] at hs hx ⊢
    subst hi
    exact zkf (cs := a :: l) (xs := [v]) (m := 1) hs hx hA (by simp) (zgu rfl) hk rfl hm (.inl (by omega)) hz rfl (by simp) (by simp at hk ⊢; omega) rfl h
theorem zz1 {n i k : Nat} {l : List AV} {A N₀ : List (List AV)} (hA : A.length = n) (hi : N₀.length = i) (hk : l.length = k) (hm : mxL l ≤ n) : Fr n [] (A ++ (N₀ ++ gN l)) (gV n i k) (.sl none k l) := by
  cases l with
  | nil =>
    simp only [List.length_nil] at hk; subst hk
    simp only [gV, if_true]; exact Fr.nil
  | cons a l =>
    have hk0 : k ≠ 0 := by simp at hk; omega
    simp only [gV, if_neg hk0]
    have : (A ++ (N₀ ++ gN (a :: l)))[n + i]? = some (a :: l) := by
      refine zbg hA ?_
      subst hi; simp [gN]
    exact Fr.fz (by omega) (by simp) this hk (zfy _ (by rw [hk]; omega)) (Frs.old hm)
end
def zsm (x : Nat) : Nat := cn (x % 9223372036854775808)
theorem zv2 (b : Nat) : zsm (cn b) = cn (b % 9223372036854775808) := by
  unfold zsm
  have key : ∀ b, isNaN (b % 9223372036854775808) = isNaN b := by
    intro b
    have e : ∀ x, isNaN x = decide (9218868437227405312 < x % 9223372036854775808) := by
      intro x
      have e1 : Ieee.double.signWeight = 9223372036854775808 := by decide
      have e2 : Ieee.double.binade = 4503599627370496 := by decide
      have e3 : Ieee.double.infRung = 9218868437227405312 := by decide
      unfold isNaN Ieee.Format.read
      simp only [e1, e2, e3]
      split
      · simp [Ieee.Datum.isNaN]; omega
      · split
        · simp [Ieee.Datum.isNaN]; omega
        · split
          · simp [Ieee.Datum.isNaN]; omega
          · simp [Ieee.Datum.isNaN]; omega
    rw [e, e, Nat.mod_mod]
  rcases zc3 b with ⟨h1, h2⟩ | ⟨h1, h2⟩
  · rw [h2]
    have h3 : isNaN (b % 9223372036854775808) = true := by rw [key]; exact h1
    have h4 : isNaN (qn % 9223372036854775808) = true := by rw [key]; decide
    simp only [cn, h3, h4, if_true]
  · rw [h2]
theorem zyx (b : Nat) (h : b < 2 ^ 64) : zf7 .andNot .u64 b 9223372036854775808 = ((b % 9223372036854775808 : Nat) : Int) := by
  have e1 : (BitVec.ofInt 64 (b : Int)).toNat = b := by
    rw [BitVec.toNat_ofInt]
    omega
  have e2 : ~~~(BitVec.ofInt 64 (9223372036854775808 : Int)) = BitVec.ofNat 64 (2 ^ 63 - 1) := by decide
  simp only [zf7]
  show IntKind.u64.wrap ((BitVec.ofInt 64 (b : Int) &&& ~~~(BitVec.ofInt 64 (9223372036854775808 : Int))).toNat : Int) = _
  rw [e2, BitVec.toNat_and, e1, BitVec.toNat_ofNat]
  have e3 : (2 ^ 63 - 1) % 2 ^ 64 = 2 ^ 63 - 1 := by decide
  rw [e3, Nat.and_two_pow_sub_one_eq_mod]
  rw [z1y (by omega)]
theorem z1r {e : List (Nat × EV)} {L : List (Nat × List AV)} {H : List (List AV)} {K : St → Prop} {dd b : Nat} (hb : b < 2 ^ 64) (h : K ⟨(dd, .val (.int .u64 ((b % 9223372036854775808 : Nat) : Int))) :: e, L, H⟩) : zcq dd K ⟨e, L, H⟩ (some (True, .int .u64 (zf7 .andNot .u64 (b : Int) 9223372036854775808))) := by
  rw [zyx b hb]; exact ⟨trivial, h⟩
abbrev vt (D : AV) (off n inc : Int) : AV := .agg [D, .int .i64 off, .int .i64 n, .int .i64 inc]
structure VI (m : Nat) (off n inc : Int) : Prop where
  m : m ≤ 9223372036854775807
  o1 : -9223372036854775808 ≤ off
  o2 : off ≤ 9223372036854775807
  n1 : -9223372036854775808 ≤ n
  n2 : n ≤ 9223372036854775807
  i1 : -9223372036854775808 ≤ inc
  i2 : inc ≤ 9223372036854775807
def zal (m : Nat) (off n inc : Int) : Prop := 0 ≤ n ∧ 1 ≤ inc ∧ 0 ≤ off ∧ (n = 0 ∨ (off < m ∧ (n - 1) * inc ≤ m - 1 - off))
instance (m : Nat) (off n inc : Int) : Decidable (zal m off n inc) := by unfold zal; infer_instance
theorem zbv {m : Nat} {off n inc i : Int} (h : zal m off n inc) (hi : 0 ≤ i) (hi' : i < n) : 0 ≤ i * inc ∧ 0 ≤ off + i * inc ∧ off + i * inc < m ∧ 0 ≤ off ∧ 1 ≤ inc := by
  obtain ⟨h1, h2, h3, h4⟩ := h
  have h7 : i * inc ≤ (n - 1) * inc := Int.mul_le_mul_of_nonneg_right (by omega) (by omega)
  have h8 : 0 ≤ i * inc := Int.mul_nonneg hi (by omega)
  exact ⟨h8, by omega, by omega, h3, h2⟩
def zsj (l : List Nat) (off n inc : Int) : List Nat := (List.range n.toNat).map fun (k : Nat) => l.getD (off + (k : Int) * inc).toNat 0
@[simp] theorem z2f (l : List Nat) (off n inc : Int) : (zsj l off n inc).length = n.toNat := by simp [zsj]
theorem zuv {l : List Nat} {off n inc : Int} {k : Nat} (h : k < n.toNat) : (zsj l off n inc).getD k 0 = l.getD (off + (k : Int) * inc).toNat 0 := by
  simp [zsj, List.getD, h]
theorem za8 {D : AV} {n : Nat} (h : slen D = some n) : D.cells = some [D] := by
  cases D <;> first | rfl | (simp [slen] at h; done)
def zcj (off rows ld j : Int) : Int := if 0 < rows then off + j * ld else off
def zrm (off cols i : Int) : Int := if 0 < cols then off + i else off
theorem zc4 {n : Nat} {off rows cols ld j : Int} (h : zac n off rows cols ld) (hj : 0 ≤ j) (hj' : j < cols) : zal n (zcj off rows ld j) rows 1 := by
  obtain ⟨h1, h2, h3, h4, h5, h6⟩ := id h
  unfold zcj
  split
  · rename_i hr
    have hp := zak h (i := 0) (j := j) (by omega) hj hr hj'
    have hq := zak h (i := rows - 1) (j := j) (by omega) hj (by omega) hj'
    refine ⟨h1, by omega, by omega, ?_⟩
    omega
  · exact ⟨h1, by omega, h3, .inl (by omega)⟩
theorem zpk {n : Nat} {off rows cols ld j : Int} (h : zac n off rows cols ld) (hj : 0 ≤ j) (hj' : j < cols) (hn : n ≤ 9223372036854775807) (ho : off ≤ 9223372036854775807 := by omega) : zcj off rows ld j ≤ 9223372036854775807 := by
  unfold zcj
  split
  · have := zak h (i := 0) (j := j) (by omega) hj (by assumption) hj'
    omega
  · exact ho
theorem zuf {n : Nat} {off m inc : Int} (h : zal n off m inc) (hn : n ≤ 9223372036854775807) (hm : m ≤ 9223372036854775807) (hi : inc ≤ 9223372036854775807) (ho : off ≤ 9223372036854775807) : VI n off m inc := by
  obtain ⟨h1, h2, h3, h4⟩ := h
  exact ⟨hn, by omega, ho, by omega, hm, by omega, hi⟩
def rml (g : Nat → Nat) (k : Nat) : List Nat := (List.range k).map g
@[simp] theorem zrp (g : Nat → Nat) (k : Nat) : (rml g k).length = k := by simp [rml]
theorem zui (g : Nat → Nat) (k : Nat) : rml g (k + 1) = rml g k ++ [g k] := by simp [rml, List.range_succ]
theorem zvv (g : Nat → Nat) (k : Nat) : fl (rml g k) ++ [.flt (g k)] = fl (rml g (k + 1)) := by rw [zui]; simp [fl]
theorem zew {g : Nat → Nat} {n k : Nat} (h : k < n) : (rml g n).getD k 0 = g k := by simp [rml, List.getD, h]
theorem zdo {g g' : Nat → Nat} {n : Nat} (h : ∀ k, k < n → g k = g' k) : rml g n = rml g' n := by
  unfold rml; exact List.map_congr_left (fun k hk => h k (by simpa using hk))
def mel (l : List Nat) (off ld : Int) (i j : Nat) : Nat := l.getD (off + (i : Int) + (j : Int) * ld).toNat 0
theorem zw9 {r c i j : Nat} (hi : i < r) (hj : j < c) : i * c + j < r * c := by
  have h1 : (i + 1) * c ≤ r * c := Nat.mul_le_mul_right _ hi
  rw [Nat.add_mul, Nat.one_mul] at h1
  omega
theorem zm8 {c i j : Nat} (hj : j < c) : (i * c + j) / c = i := by
  rw [Nat.mul_comm, Nat.mul_add_div (by omega), Nat.div_eq_of_lt hj, Nat.add_zero]
theorem zm9 {c i j : Nat} (hj : j < c) : (i * c + j) % c = j := by
  rw [Nat.mul_comm, Nat.mul_add_mod, Nat.mod_eq_of_lt hj]
def cmA (g : Nat → Nat → Nat) (r c : Nat) : List Nat := rml (fun k => g (k % r) (k / r)) (r * c)
@[simp] theorem zer (g : Nat → Nat → Nat) (r c : Nat) : (cmA g r c).length = r * c := by simp [cmA]
theorem zik (r c : Nat) (l : List Nat) : zac (zds r c l).length 0 (r : Int) (c : Int) ((max r 1 : Nat) : Int) := by
  rw [zd7]
  refine ⟨by omega, by omega, by omega, by omega, by omega, ?_⟩
  rcases Nat.eq_zero_or_pos r with h | h
  · exact .inl (by omega)
  rcases Nat.eq_zero_or_pos c with h' | h'
  · exact .inr (.inl (by omega))
  have e1 : max r 1 = r := Nat.max_eq_left h
  have e2 : ((r * c : Nat) : Int) = ((c : Int) - 1) * (r : Int) + (r : Int) := by
    obtain ⟨c', rfl⟩ : ∃ c', c = c' + 1 := ⟨c - 1, by omega⟩
    have : r * (c' + 1) = c' * r + r := by rw [Nat.mul_add, Nat.mul_one, Nat.mul_comm]
    rw [this]
    have h3 : ((c' + 1 : Nat) : Int) - 1 = (c' : Int) := by omega
    rw [h3]; simp
  have e3 : 0 ≤ ((c : Int) - 1) * (r : Int) := Int.mul_nonneg (by omega) (by omega)
  rw [e1]
  refine .inr (.inr ⟨by omega, by omega, by omega⟩)
theorem zmw (r c : Nat) (hr : r ≤ 64) (hc : c ≤ 64) (l : List Nat) : MI (zds r c l).length 0 (r : Int) (c : Int) ((max r 1 : Nat) : Int) := by
  rw [zd7]
  have := Nat.mul_le_mul hr hc
  exact ⟨by omega, by omega, by omega, by omega, by omega, by omega, by omega, by omega, by omega⟩
section
variable {P : Program} {cfg : Cfg} {dr : Array Oper → (St → Prop) → St → Prop} {e : List (Nat × EV)} {L : List (Nat × List AV)} {H : List (List AV)} {Q : XE → St → Prop} {K : St → Prop}
variable {kn : Option (Nat × Bool)} {ops : Array Oper} {d : Option Tmp} {o : Op} {ty : TypeId} {pos : String} {aft : Array Edge} {rest : List Oper} {j : Nat} {b want : Bool} {gd : Option (Nat × Bool)} {dd : Nat}
theorem m00 {op : BinOp} {t t' : TypeId} {x y : Operand} {vx vy : EV} {r : Option (Prop × AV)} (h : zcq dd K ⟨e, L, H⟩ r) (hx : St.ev ⟨e, L, H⟩ x = vx := by (conv => {lhs; whnf}); done) (hy : St.ev ⟨e, L, H⟩ y = vy := by (conv => {lhs; whnf}); done) (hr : zou P op t vx vy = r := by (conv => {lhs; whnf}); done) : opX P cfg ⟨some dd, .binOp op t x y t', ty, pos, aft, gd⟩ K ⟨e, L, H⟩ := zy2 hx hy hr h
theorem m01 {t : TypeId} {x : Operand} {vx : EV} {r : Option (List AV)} {cs : List AV} (h : K ⟨(dd, .loc dd 0) :: e, (dd, cs) :: L, H⟩) (hx : St.ev ⟨e, L, H⟩ x = vx := by (conv => {lhs; whnf}); done) (hr : vx.asV.bind AV.cells = r := by exact rfl) (hcs : r = some cs := by exact rfl) (hesc : cfg.esc = false := by exact rfl) (hn : zgy dd e = true := by exact rfl) : opX P cfg ⟨some dd, .box t x, ty, pos, aft, gd⟩ K ⟨e, L, H⟩ := z2i hx hr hcs hesc hn h
theorem m02 {x t n : Nat} {rs : List ResultVar} {acc : List AV} {k : List AV → Prop} [ti : TyI P t n true] {key off : Nat} {cs l : List AV} (h : rK P rs (acc ++ [.agg l]) k ⟨e, L, H⟩) (hx : St.ev ⟨e, L, H⟩ (.tmp x) = .loc key off := by (conv => {lhs; whnf}); done) (hc : lk L key = some cs := by exact rfl) (hl : gc cs off n = some l := by exact rfl) : rK P (.cell x t :: rs) acc k ⟨e, L, H⟩ := zuh hx hc hl h
theorem m03 {x t : Nat} {rs : List ResultVar} {acc : List AV} {k : List AV → Prop} [ti : TyI P t 1 false] {key off : Nat} {cs : List AV} {v : AV} (h : rK P rs (acc ++ [v]) k ⟨e, L, H⟩) (hx : St.ev ⟨e, L, H⟩ (.tmp x) = .loc key off := by (conv => {lhs; whnf}); done) (hc : lk L key = some cs := by exact rfl) (hl : cs[off]? = some v := by exact rfl) : rK P (.cell x t :: rs) acc k ⟨e, L, H⟩ := zug hx hc hl h
theorem m04 {t : Nat} {rs : List ResultVar} {acc : List AV} {k : List AV → Prop} {v : AV} (h : rK P rs (acc ++ [v]) k ⟨e, L, H⟩) (hv : St.ev ⟨e, L, H⟩ (.tmp t) = .val v := by (conv => {lhs; whnf}); done) : rK P (.tmp t :: rs) acc k ⟨e, L, H⟩ := z05 hv h
theorem m05 {fn : Func} {H₀ H' : List (List AV)} {r : AV} {x : XE} {rs : List ResultVar} (h : rK P rs [] (zgd H₀ r H' H) ⟨e, L, H⟩) (hx : x = .ret ∨ x = .normal := by simp) (hf : fn.results.toList = rs := by (conv => {lhs; whnf}); done) : zfl P fn H₀ r H' x ⟨e, L, H⟩ := zze hx hf h
theorem m06 {c : Operand} {x y : Code} {v : EV} (h : zdg P cfg dr x y Q ⟨e, L, H⟩ v) (hv : St.ev ⟨e, L, H⟩ c = v := by (conv => {lhs; whnf}); done) : Ex P cfg dr (.cond c x y) Q ⟨e, L, H⟩ := b_cond hv h
theorem m07 {t : TypeId} {x : Operand} {v : EV} (h : zbo P t dd K ⟨e, L, H⟩ v) (hv : St.ev ⟨e, L, H⟩ x = v := by (conv => {lhs; whnf}); done) : opX P cfg ⟨some dd, .load t x, ty, pos, aft, gd⟩ K ⟨e, L, H⟩ := zy9 hv h
theorem m08 {x : Operand} {v : EV} (h : K ⟨(dd, v) :: e, L, H⟩) (hv : St.ev ⟨e, L, H⟩ x = v := by (conv => {lhs; whnf}); done) : opX P cfg ⟨some dd, .assign x, ty, pos, aft, gd⟩ K ⟨e, L, H⟩ := zg0 hv h
theorem m09 {t j' : Nat} {b' : Bool} {v : EV} (h : zbf P cfg ops ⟨d, o, ty, pos, aft, some (j, want)⟩ j want t rest K ⟨e, L, H⟩ v) (ht : (ops[j]?).bind (·.dst) = some t := by exact rfl) (hd : (d == some t) = false := by exact rfl) (hj : (j' == j) = false := by exact rfl) (hv : St.ev ⟨e, L, H⟩ (.tmp t) = v := by (conv => {lhs; whnf}); done) : zau P cfg ops (some (j', b')) (⟨d, o, ty, pos, aft, some (j, want)⟩ :: rest) K ⟨e, L, H⟩ := z5h ht hd hj hv h
theorem m10 {t : Nat} {v : EV} (h : zbf P cfg ops ⟨d, o, ty, pos, aft, some (j, want)⟩ j want t rest K ⟨e, L, H⟩ v) (ht : (ops[j]?).bind (·.dst) = some t := by exact rfl) (hd : (d == some t) = false := by exact rfl) (hv : St.ev ⟨e, L, H⟩ (.tmp t) = v := by (conv => {lhs; whnf}); done) : zau P cfg ops none (⟨d, o, ty, pos, aft, some (j, want)⟩ :: rest) K ⟨e, L, H⟩ := z5g ht hd hv h
theorem m11 {t : Nat} (h : zau P cfg ops kn rest K ⟨(dd, .val (.tup [])) :: e, L, H⟩) (ht : (ops[j]?).bind (·.dst) = some t := by exact rfl) (hd : (dd == t) = false := by exact rfl) (hk : kn ≠ some (j, want) ∧ kn ≠ some (j, !want) := by constructor <;> simp) (hv : St.ev ⟨e, L, H⟩ (.tmp t) = .val (.tup []) := by exact rfl) (hn : kn.any (fun p => ((ops[p.1]?).bind (·.dst)) == some dd) = false := by exact rfl) : zau P cfg ops kn (⟨some dd, o, ty, pos, aft, some (j, want)⟩ :: rest) K ⟨e, L, H⟩ := z5k ht hd hk hv hn h
theorem m12 {t : Nat} (h : zau P cfg ops (some (j, b)) rest K ⟨(dd, .val (.tup [])) :: e, L, H⟩) (ht : (ops[j]?).bind (·.dst) = some t := by exact rfl) (hd : (dd == t) = false := by exact rfl) (hb : b = !want := by exact rfl) : zau P cfg ops (some (j, b)) (⟨some dd, o, ty, pos, aft, some (j, want)⟩ :: rest) K ⟨e, L, H⟩ := z5i ht hd hb h
theorem m13 {t : Nat} (h : opX P cfg ⟨d, o, ty, pos, aft, some (j, want)⟩ (zau P cfg ops (some (j, want)) rest K) ⟨e, L, H⟩) (ht : (ops[j]?).bind (·.dst) = some t := by exact rfl) (hd : (d == some t) = false := by exact rfl) : zau P cfg ops (some (j, want)) (⟨d, o, ty, pos, aft, some (j, want)⟩ :: rest) K ⟨e, L, H⟩ := z5j ht hd h
theorem m14 {x : Operand} {v : EV} (h : K ⟨(dd, v) :: e, L, H⟩) (hv : St.ev ⟨e, L, H⟩ x = v := by (conv => {lhs; whnf}); done) : opX P cfg ⟨some dd, .move x, ty, pos, aft, gd⟩ K ⟨e, L, H⟩ := zpe hv h
theorem m15 {t : TypeId} {key off : Nat} {cs : List AV} {c : AV} [i : TyI P t 1 false] (hk : K ⟨(dd, .val c) :: e, L, H⟩) (h1 : lk L key = some cs := by exact rfl) (h2 : cs[off]? = some c := by exact rfl) : zbo P t dd K ⟨e, L, H⟩ (.loc key off) := z0f h1 h2 hk
theorem m16 {t : TypeId} {key off n : Nat} {cs l : List AV} [i : TyI P t n true] (hk : K ⟨(dd, .val (.agg l)) :: e, L, H⟩) (h1 : lk L key = some cs := by exact rfl) (h2 : gc cs off n = some l := by exact rfl) : zbo P t dd K ⟨e, L, H⟩ (.loc key off) := z0g h1 h2 hk
theorem m17 {t : TypeId} {x : Operand} {i off : Nat} {ft : TypeId} [fi : FldI P t i off ft] {v : EV} (h : faK dd K off ⟨e, L, H⟩ v) (hv : St.ev ⟨e, L, H⟩ x = v := by (conv => {lhs; whnf}); done) : opX P cfg ⟨some dd, .fieldAddr t x i, ty, pos, aft, gd⟩ K ⟨e, L, H⟩ := z5f hv h
theorem m18 {s : AV} {off o m : Nat} (h : K ⟨(dd, .val (.eptr s m)) :: e, L, H⟩) (hm : off + o = m := by (conv => {lhs; whnf}); done) : faK dd K o ⟨e, L, H⟩ (.val (.eptr s off)) := z3h hm h
theorem m19 {key off o m : Nat} (h : K ⟨(dd, .loc key m) :: e, L, H⟩) (hm : off + o = m := by (conv => {lhs; whnf}); done) : faK dd K o ⟨e, L, H⟩ (.loc key off) := z3g hm h
theorem m20 {op : UnOp} {t : TypeId} {x : Operand} {vx : EV} {r : Option (Prop × AV)} (h : zcq dd K ⟨e, L, H⟩ r) (hx : St.ev ⟨e, L, H⟩ x = vx := by (conv => {lhs; whnf}); done) (hr : unV op vx = r := by (conv => {lhs; whnf}); done) : opX P cfg ⟨some dd, .unOp op t x, ty, pos, aft, gd⟩ K ⟨e, L, H⟩ := z5l hx hr h
theorem m22 {x y z : Operand} {v : EV} (h : zda dd K y z ⟨e, L, H⟩ v) (hv : St.ev ⟨e, L, H⟩ x = v := by (conv => {lhs; whnf}); done) : opX P cfg ⟨some dd, .pick x y z, ty, pos, aft, gd⟩ K ⟨e, L, H⟩ := zzc hv h
theorem m24 {t : TypeId} {cs : List AV} [z : ZI P t cs] (h : K ⟨(dd, .loc dd 0) :: e, (dd, cs) :: L, H⟩) (hesc : cfg.esc = false := by exact rfl) (hn : zgy dd e = true := by exact rfl) : opX P cfg ⟨some dd, .alloc t, ty, pos, aft, gd⟩ K ⟨e, L, H⟩ := zv7 hesc hn h
theorem m26 {y z : Operand} {v : EV} (h : K ⟨(dd, v) :: e, L, H⟩) (hv : St.ev ⟨e, L, H⟩ y = v := by (conv => {lhs; whnf}); done) : zda dd K y z ⟨e, L, H⟩ (.val (.bool true)) := p_T hv h
theorem m27 {y z : Operand} {v : EV} (h : K ⟨(dd, v) :: e, L, H⟩) (hv : St.ev ⟨e, L, H⟩ z = v := by (conv => {lhs; whnf}); done) : zda dd K y z ⟨e, L, H⟩ (.val (.bool false)) := p_F hv h
theorem m38  (h : opX P cfg ⟨d, o, ty, pos, aft, none⟩ (zau P cfg ops (some (j, b)) rest K) ⟨e, L, H⟩) (hj : (((ops[j]?).bind (·.dst)) == d) = false := by exact rfl) : zau P cfg ops (some (j, b)) (⟨d, o, ty, pos, aft, none⟩ :: rest) K ⟨e, L, H⟩ := z5e hj h
theorem m40 {acc : List AV} {k : List AV → Prop} {x : Operand} {xs : List Operand} {v : AV} (h : gK xs (acc ++ [v]) k ⟨e, L, H⟩) (hv : St.ev ⟨e, L, H⟩ x = .val v := by (conv => {lhs; whnf}); done) : gK (x :: xs) acc k ⟨e, L, H⟩ := zp9 hv h
theorem m46 {src dst : TypeId} {x : Operand} {k k' : IntKind} {n : Int} {td : TypeDesc} [u : UI P dst (.int k)] [us : UI P src td] (h : zcq dd K ⟨e, L, H⟩ (some (True, .int k (k.wrap n)))) (hx : St.ev ⟨e, L, H⟩ x = .val (.int k' n) := by first | (conv => {lhs; whnf}; done) | exact (by exact rfl) | fail) : opX P cfg ⟨some dd, .convert src dst x, ty, pos, aft, gd⟩ K ⟨e, L, H⟩ := zy6 hx h
theorem m47 {p : Prop} [Decidable p] (h : K ⟨(dd, .val (.bool true)) :: e, L, H⟩) (hp : p := by omega) : zcq dd K ⟨e, L, H⟩ (some (True, .bool (decide p))) := v_T hp h
theorem m48 {p : Prop} [Decidable p] (h : K ⟨(dd, .val (.bool false)) :: e, L, H⟩) (hp : ¬ p := by omega) : zcq dd K ⟨e, L, H⟩ (some (True, .bool (decide p))) := v_F hp h
theorem m49 {n : Int} (h : K ⟨(dd, .val (.int .i64 n)) :: e, L, H⟩) (hw : -9223372036854775808 ≤ n ∧ n ≤ 9223372036854775807 := by omega) : zcq dd K ⟨e, L, H⟩ (some (True, .int .i64 (IntKind.i64.wrap n))) := v_w hw h
theorem m50 {n : Int} (h : K ⟨(dd, .val (.int .u64 n)) :: e, L, H⟩) (hw : 0 ≤ n ∧ n ≤ 18446744073709551615 := by omega) : zcq dd K ⟨e, L, H⟩ (some (True, .int .u64 (IntKind.u64.wrap n))) := z6f hw h
theorem m51 {c : Prop} {v : AV} (h : zcq dd K ⟨e, L, H⟩ (some (True, v))) (hc : c := by omega) : zcq dd K ⟨e, L, H⟩ (some (c, v)) := v_c hc h
theorem m57 {i k : Nat} (h : Q (.exit k) ⟨e, L, H⟩) (hik : (k == i) = false := by exact rfl) : zfd i Q (.exit k) ⟨e, L, H⟩ := z2h hik h
theorem m58 {pl : List (Nat × Nat)} {zc zc' vs : List AV} {i off sz : Nat} {x : Operand} {ps : List (Nat × Operand)} {k : List AV → Prop} {v : AV} (h : fK pl zc' ps k ⟨e, L, H⟩) (hx : St.ev ⟨e, L, H⟩ x = .val v := by (conv => {lhs; whnf}); done) (hc : v.cells = some vs := by first | exact rfl | exact za8 (FL.len (by assumption)) | exact za8 (IL.len (by assumption)) | fail) (hp : pl[i]? = some (off, sz) := by exact rfl) (hl : (vs.length == sz && decide (off + vs.length ≤ zc.length)) = true := by exact rfl) (hz : sc zc off vs = zc' := by (conv => {lhs; simp only [sc, List.set_cons_zero, List.set_cons_succ]}); done) : fK pl zc ((i, x) :: ps) k ⟨e, L, H⟩ := zjf hx hc hp hl hz h
end
section
theorem m21 {P : Program} {cfg : Cfg} {e : List (Nat × EV)} {L : List (Nat × List AV)} {H : List (List AV)} {K : St → Prop} {dd id : Nat} {acc : List AV} {x : Operand} {xs : List Operand} {v : AV} (h : ze4 P cfg id xs (acc ++ [v]) dd K ⟨e, L, H⟩) (hv : St.ev ⟨e, L, H⟩ x = .val v := by (conv => {lhs; whnf}); done) : ze4 P cfg id (x :: xs) acc dd K ⟨e, L, H⟩ := zo3 hv h
theorem m35 {nY : NY} {K : St → Prop} {d : Option Tmp} {ty : TypeId} {pos : String} {aft : Array Edge} {gd : Option (Nat × Bool)} {t : TypeId} {x : Operand} {st s : St} {v : AV} (h : K s) (hv : St.ev st x = .val v := by (conv => {lhs; whnf}); done) : ckK (.ld true) nY ⟨d, .load t x, ty, pos, aft, gd⟩ st K s := z3o hv h
theorem m44 {e : List (Nat × EV)} {L : List (Nat × List AV)} {H : List (List AV)} {b : Nat} {xs : List Operand} {acc : List AV} {k : List AV → Prop} (h : gK xs (acc ++ [.flt b]) k ⟨e, L, H⟩) (hb : (decide (b < 2 ^ 64) && !isNaN b) = true := by kernel_rfl) : gK (.const (.float .f64 b) :: xs) acc k ⟨e, L, H⟩ := ztn hb h
theorem m56 {q : Bool} {nY : NY} {o : Oper} {e e' : List (Nat × EV)} {L : List (Nat × List AV)} {A N N' M : List (List AV)} {K : St → Prop} (h : K ⟨e', L, A ++ N'⟩) (hN : N ++ M = N' := by exact rfl) : ckK (.mn q) nY o ⟨e, L, A ++ N⟩ K ⟨e', L, A ++ N'⟩ := z3q hN h
end
section
variable {P : Program} {cfg : Cfg} {e e' : List (Nat × EV)} {L : List (Nat × List AV)} {H : List (List AV)} {Q : XE → St → Prop} {K : St → Prop}
variable {kn : Option (Nat × Bool)} {ops : Array Oper} {nY : NY} {d : Option Tmp} {o : Op} {ty : TypeId} {pos : String} {aft : Array Edge} {rest : List (Nat × DFl)} {i j : Nat} {f : DFl} {b want : Bool} {gd : Option (Nat × Bool)} {dd : Nat}
theorem m23 {x : Operand} {n : Nat} {vs : List AV} {v : AV} (h : K ⟨(dd, .val v) :: e, L, H⟩) (hx : St.ev ⟨e, L, H⟩ x = .val (.tup vs) := by (conv => {lhs; whnf}); done) (hv : vs[n]? = some v := by exact rfl) : opX P cfg ⟨some dd, .extract x n, ty, pos, aft, gd⟩ K ⟨e, L, H⟩ := z2j hx hv h
theorem m25 {t : TypeId} {x v : Operand} {key off n : Nat} {a : Bool} {cs vs cs' : List AV} [ti : TyI P t n a] {ev : EV} (h : K ⟨e, (key, cs') :: L, H⟩) (hx : St.ev ⟨e, L, H⟩ x = .loc key off := by (conv => {lhs; whnf}); done) (hv : St.ev ⟨e, L, H⟩ v = ev := by (conv => {lhs; whnf}); done) (hvs : ev.asV.bind AV.cells = some vs := by first | exact rfl | exact za8 (FL.len (by assumption)) | exact za8 (IL.len (by assumption)) | fail) (hn : vs.length = n := by exact rfl) (hc : lk L key = some cs := by exact rfl) (hle : off + vs.length ≤ cs.length := by exact Nat.le_of_ble_eq_true rfl) (hcs : sc cs off vs = cs' := by (conv => {lhs; simp only [sc, List.set_cons_zero, List.set_cons_succ]}); done) : opX P cfg ⟨none, .store t x v, ty, pos, aft, gd⟩ K ⟨e, L, H⟩ := zn0 hx hv hvs hn hc hle hcs h
theorem m28 {t : Nat} {v : EV} (h : zbe P cfg ops nY f ⟨d, o, ty, pos, aft, some (j, want)⟩ j want t rest K ⟨e, L, H⟩ v) (ho : ops[i]? = some ⟨d, o, ty, pos, aft, some (j, want)⟩ := by exact rfl) (ht : (ops[j]?).bind (·.dst) = some t := by exact rfl) (hd : (d == some t) = false := by exact rfl) (hv : St.ev ⟨e, L, H⟩ (.tmp t) = v := by (conv => {lhs; whnf}); done) : exD P cfg ops nY none ((i, f) :: rest) K ⟨e, L, H⟩ := z5o ho ht hd hv h
theorem m29 {t j' : Nat} {b' : Bool} {v : EV} (h : zbe P cfg ops nY f ⟨d, o, ty, pos, aft, some (j, want)⟩ j want t rest K ⟨e, L, H⟩ v) (ho : ops[i]? = some ⟨d, o, ty, pos, aft, some (j, want)⟩ := by exact rfl) (ht : (ops[j]?).bind (·.dst) = some t := by exact rfl) (hd : (d == some t) = false := by exact rfl) (hj : (j' == j) = false := by exact rfl) (hv : St.ev ⟨e, L, H⟩ (.tmp t) = v := by (conv => {lhs; whnf}); done) : exD P cfg ops nY (some (j', b')) ((i, f) :: rest) K ⟨e, L, H⟩ := z5p ho ht hd hj hv h
theorem m30 {t : Nat} (h : exD P cfg ops nY kn rest K ⟨(dd, .val (.tup [])) :: e, L, H⟩) (ho : ops[i]? = some ⟨some dd, o, ty, pos, aft, some (j, want)⟩ := by exact rfl) (ht : (ops[j]?).bind (·.dst) = some t := by exact rfl) (hd : (dd == t) = false := by exact rfl) (hk : kn ≠ some (j, want) ∧ kn ≠ some (j, !want) := by constructor <;> simp) (hv : St.ev ⟨e, L, H⟩ (.tmp t) = .val (.tup []) := by exact rfl) (hn : kn.any (fun p => ((ops[p.1]?).bind (·.dst)) == some dd) = false := by exact rfl) : exD P cfg ops nY kn ((i, f) :: rest) K ⟨e, L, H⟩ := z5s ho ht hd hk hv hn h
theorem m31 {t : Nat} (h : exD P cfg ops nY (some (j, b)) rest K ⟨(dd, .val (.tup [])) :: e, L, H⟩) (ho : ops[i]? = some ⟨some dd, o, ty, pos, aft, some (j, want)⟩ := by exact rfl) (ht : (ops[j]?).bind (·.dst) = some t := by exact rfl) (hd : (dd == t) = false := by exact rfl) (hb : b = !want := by exact rfl) : exD P cfg ops nY (some (j, b)) ((i, f) :: rest) K ⟨e, L, H⟩ := z5q ho ht hd hb h
theorem m32 {t : Nat} (h : opX P cfg ⟨d, o, ty, pos, aft, some (j, want)⟩ (ckK f nY ⟨d, o, ty, pos, aft, some (j, want)⟩ ⟨e, L, H⟩ (exD P cfg ops nY (some (j, want)) rest K)) ⟨e, L, H⟩) (ho : ops[i]? = some ⟨d, o, ty, pos, aft, some (j, want)⟩ := by exact rfl) (ht : (ops[j]?).bind (·.dst) = some t := by exact rfl) (hd : (d == some t) = false := by exact rfl) : exD P cfg ops nY (some (j, want)) ((i, f) :: rest) K ⟨e, L, H⟩ := z5r ho ht hd h
theorem m33 {hl : Bool} {op : BinOp} {t t' : TypeId} {x y : Operand} {st s : St} {v : EV} (h : K s) (hv : St.ev st x = v := by (conv => {lhs; whnf}); done) (hk : (hl || !z16 v) = true := by exact rfl) : ckK (.ld hl) nY ⟨d, .binOp op t x y t', ty, pos, aft, gd⟩ st K s := z3n hv hk h
theorem m34 {hl : Bool} {t : TypeId} {x : Operand} {st s : St} {v : EV} (h : K s) (hv : St.ev st x = v := by (conv => {lhs; whnf}); done) (hk : z19 nY hl v = true := by exact rfl) : ckK (.ld hl) nY ⟨d, .load t x, ty, pos, aft, gd⟩ st K s := k_ld hv hk h
theorem m36  (h : opX P cfg ⟨d, o, ty, pos, aft, none⟩ (ckK f nY ⟨d, o, ty, pos, aft, none⟩ ⟨e, L, H⟩ (exD P cfg ops nY none rest K)) ⟨e, L, H⟩) (ho : ops[i]? = some ⟨d, o, ty, pos, aft, none⟩ := by exact rfl) : exD P cfg ops nY none ((i, f) :: rest) K ⟨e, L, H⟩ := z5m ho h
theorem m37  (h : opX P cfg ⟨d, o, ty, pos, aft, none⟩ (ckK f nY ⟨d, o, ty, pos, aft, none⟩ ⟨e, L, H⟩ (exD P cfg ops nY (some (j, b)) rest K)) ⟨e, L, H⟩) (ho : ops[i]? = some ⟨d, o, ty, pos, aft, none⟩ := by exact rfl) (hj : (((ops[j]?).bind (·.dst)) == d) = false := by exact rfl) : exD P cfg ops nY (some (j, b)) ((i, f) :: rest) K ⟨e, L, H⟩ := z5n ho hj h
theorem m52 {x y : Int} (h : K ⟨(dd, .val (.bool true)) :: e, L, H⟩) (hp : x = y := by omega) : zcq dd K ⟨e, L, H⟩ (some (True, .bool (x == y))) := z6e hp h
theorem m53 {x y : Int} (h : K ⟨(dd, .val (.bool false)) :: e, L, H⟩) (hp : x ≠ y := by omega) : zcq dd K ⟨e, L, H⟩ (some (True, .bool (x == y))) := z6d hp h
theorem m54 {x y : Int} (h : K ⟨(dd, .val (.bool true)) :: e, L, H⟩) (hp : x ≠ y := by omega) : zcq dd K ⟨e, L, H⟩ (some (True, .bool (x != y))) := z4k hp h
theorem m55 {x y : Int} (h : K ⟨(dd, .val (.bool false)) :: e, L, H⟩) (hp : x = y := by omega) : zcq dd K ⟨e, L, H⟩ (some (True, .bool (x != y))) := z4j hp h
end
section
variable {P : Program} {cfg : Cfg} {dr : Array Oper → (St → Prop) → St → Prop} {e : List (Nat × EV)} {L : List (Nat × List AV)} {H : List (List AV)} {Q : XE → St → Prop} {K : St → Prop}
variable {d : Option Tmp} {ty : TypeId} {pos : String} {aft : Array Edge} {gd : Option (Nat × Bool)} {dd : Nat}
theorem m39 {f : Operand} {id : Nat} {first caps : List AV} {args : Array Operand} {ts : Array TypeId} (h : gK args.toList [] (fun vs => zcz P cfg id (first ++ vs ++ caps) dd K ⟨e, L, H⟩) ⟨e, L, H⟩) (hf : St.ev ⟨e, L, H⟩ f = .val (.func id first caps) := by first | (conv => {lhs; whnf}; done) | exact (by exact rfl) | fail) : opX P cfg ⟨some dd, .call { callee := .value f, args := args, argTypes := ts }, ty, pos, aft, gd⟩ K ⟨e, L, H⟩ := zv9 hf h
theorem m41 {b : Nat} (h : K ⟨(dd, .val (.flt b)) :: e, L, H⟩) (hb : (decide (b < 2 ^ 64) && !isNaN b) = true := by kernel_rfl) : opX P cfg ⟨some dd, .move (.const (.float .f64 b)), ty, pos, aft, gd⟩ K ⟨e, L, H⟩ := zwb hb h
theorem m42 {b : Nat} (h : K ⟨(dd, .val (.flt b)) :: e, L, H⟩) (hb : (decide (b < 2 ^ 64) && !isNaN b) = true := by kernel_rfl) : opX P cfg ⟨some dd, .assign (.const (.float .f64 b)), ty, pos, aft, gd⟩ K ⟨e, L, H⟩ := zo9 hb h
theorem m43 {id : Nat} {xs : List Operand} {acc : List AV} {b : Nat} (h : ze4 P cfg id xs (acc ++ [.flt b]) dd K ⟨e, L, H⟩) (hb : (decide (b < 2 ^ 64) && !isNaN b) = true := by kernel_rfl) : ze4 P cfg id (.const (.float .f64 b) :: xs) acc dd K ⟨e, L, H⟩ := zv1 hb h
end
section
variable {P : Program} {cfg : Cfg} {e : List (Nat × EV)} {L : List (Nat × List AV)} {H : List (List AV)} {K : St → Prop} {ty : TypeId} {pos : String} {aft : Array Edge} {gd : Option (Nat × Bool)} {dd : Nat}
theorem m45 {t t' : TypeId} [u : UI P t .bool] {x y : Operand} {p q : Bool} (h : zcq dd K ⟨e, L, H⟩ (some (True, .bool (p == q)))) (hx : St.ev ⟨e, L, H⟩ x = .val (.bool p) := by first | (conv => {lhs; whnf}; done) | exact (by exact rfl) | fail) (hy : St.ev ⟨e, L, H⟩ y = .val (.bool q) := by first | (conv => {lhs; whnf}; done) | exact (by exact rfl) | fail) : opX P cfg ⟨some dd, .binOp .eql t x y t', ty, pos, aft, gd⟩ K ⟨e, L, H⟩ := zy3 hx hy h
end
section
variable {P : Program} {f : Nat} {fn : Func} {body : Code} {args : List AV} {H H' : List (List AV)} {r : AV}
theorem Spec.go (hf : P.funcs[f]? = some fn) (esc : Bool) (fz : List Nat) (hdr : ∀ C : Cx, C.P = P → C.cfg = ⟨esc, H.length, fz⟩ → zfr C (zhl P ⟨esc, H.length, fz⟩)) (h : Ex P ⟨esc, H.length, fz⟩ (zhl P ⟨esc, H.length, fz⟩) body (zfl P fn H r H') ⟨zbp 0 args, [], H ++ []⟩) (hb : fn.body = some body := by rfl) (hd : zdc fn.ntmps body = true := by kernel_rfl) (hn : args.length ≤ fn.ntmps := by simp) : Spec P f args H r H' := Spec.intro' hf hb hd hn esc fz hdr h
theorem zaa.go (he : Enters P f) (hf : P.funcs[f]? = some fn) (esc : Bool) (fz : List Nat) (hdr : ∀ C : Cx, C.P = P → C.cfg = ⟨esc, H.length, fz⟩ → zfr C (zhl P ⟨esc, H.length, fz⟩)) (h : Ex P ⟨esc, H.length, fz⟩ (zhl P ⟨esc, H.length, fz⟩) body (zfl P fn H r H') ⟨zbp 0 args, [], H ++ []⟩) (hb : fn.body = some body := by rfl) (hd : zdc fn.ntmps body = true := by kernel_rfl) (hn : args.length ≤ fn.ntmps := by simp) : zaa P f args H r H' := .mk he (Spec.intro' hf hb hd hn esc fz hdr h)
theorem cA {cfg : Cfg} {e : List (Nat × EV)} {L : List (Nat × List AV)} {A N N' : List (List AV)} {K : St → Prop} {dd id : Nat} {vs : List AV} (hs : zaa P id vs (A ++ N) r (A ++ N')) (h : K ⟨(dd, .val r) :: e, L, A ++ N'⟩) (ho : cfg.n0 ≤ A.length := by simp) : zcz P cfg id vs dd K ⟨e, L, A ++ N⟩ := c_call hs (za7.app ho) h
end
end Go.Sx
set_option linter.unusedVariables false
set_option linter.unusedSimpArgs false
namespace Go.Sx
open Go.ChangeShapes Go.WideShapes Go.ChangeAt Go.RowKit Go.Deep
inductive Shp where
  | flt
  | bool
  | int (k : IntKind)
  | fls
  | ils
  | st (l : List Shp)
mutual
def Shp.n : Shp → Nat
  | .st l => Shp.ns l
  | _ => 1
def Shp.ns : List Shp → Nat
  | [] => 0
  | s :: r => s.n + Shp.ns r
end
def z4v (P : Program) (t : TypeId) (d : TypeDesc) : Bool :=
  match P.underlying t, d with
  | some (.float .f64), .float .f64 => true
  | some .bool, .bool => true
  | some (.int k), .int k' => decide (k = k')
  | _, _ => false
mutual
def Shp.ok (P : Program) : Nat → Shp → TypeId → Bool
  | 0, _, _ => false
  | d + 1, s, t =>
    match s, P.underlying t with
    | .flt, some (.float .f64) => P.cellsOf t == 1
    | .bool, some .bool => P.cellsOf t == 1
    | .int k, some (.int k') => decide (k = k') && P.cellsOf t == 1
    | .fls, some (.slice e) => z4v P e (.float .f64) && P.cellsOf e == 1 && P.cellsOf t == 1
    | .ils, some (.slice e) => z4v P e (.int .i64) && P.cellsOf e == 1 && P.cellsOf t == 1
    | .st l, some (.struct fs) => P.cellsOf t == Shp.ns l && Shp.oks P d l fs.toList 0
    | _, _ => false
def Shp.oks (P : Program) : Nat → List Shp → List Field → Nat → Bool
  | 0, _, _, _ => false
  | _ + 1, [], [], _ => true
  | d + 1, s :: r, f :: fs, o => f.offset == o && P.cellsOf f.type == s.n && Shp.ok P d s f.type && Shp.oks P d r fs (o + s.n)
  | _, _, _, _ => false
end
section
variable {H : Type} {enc : TypeId × Value → H} {P : Program} {W : World} {base : Nat}
theorem zk3 {t : TypeId} {k : IntKind} {v : Value} {d : DataW H} {ps : List MemPlace} {r : Reach} {b0 : Nat} (ht : P.underlying t = some (.int k)) (hv : Value.okWide P W r b0 t v) (h : DataW.Trod enc P W base (fun _ => true) true t v d ps) :
    ∃ i, zaj W (g0 W) (.int k i) v ∧ k.min ≤ i ∧ i ≤ k.max := by
  obtain ⟨i, rfl, _, _, hw⟩ := open_int ht hv h
  simp only [Lit.wf, Bool.and_eq_true, decide_eq_true_eq] at hw
  exact ⟨i, by simp [zaj], hw.1, hw.2⟩
end
end Go.Sx
set_option maxRecDepth 20000
namespace Go.Sx
open Go.Proofs
instance : TyI Try.prog 0 1 false := ⟨by kernel_rfl, by kernel_rfl⟩
instance : TyI Try.prog 1 1 false := ⟨by kernel_rfl, by kernel_rfl⟩
instance : ZI Try.prog 1 [.raw .nilFunc] := ⟨by kernel_rfl⟩
instance : TyI Try.prog 2 1 false := ⟨by kernel_rfl, by kernel_rfl⟩
instance : ZI Try.prog 2 [.int .i64 0] := ⟨by kernel_rfl⟩
instance : UI Try.prog 2 (.int .i64) := ⟨by kernel_rfl⟩
instance : TyI Try.prog 3 1 false := ⟨by kernel_rfl, by kernel_rfl⟩
instance : ZI Try.prog 3 [.int .i64 0] := ⟨by kernel_rfl⟩
instance : UI Try.prog 3 (.int .i64) := ⟨by kernel_rfl⟩
instance : TyI Try.prog 4 1 false := ⟨by kernel_rfl, by kernel_rfl⟩
instance : ZI Try.prog 4 [.bool false] := ⟨by kernel_rfl⟩
instance : UI Try.prog 4 (.bool) := ⟨by kernel_rfl⟩
instance : TyI Try.prog 5 1 false := ⟨by kernel_rfl, by kernel_rfl⟩
instance : ZI Try.prog 5 [.int .u8 0] := ⟨by kernel_rfl⟩
instance : UI Try.prog 5 (.int .u8) := ⟨by kernel_rfl⟩
instance : TyI Try.prog 6 1 false := ⟨by kernel_rfl, by kernel_rfl⟩
instance : ZI Try.prog 6 [.int .u8 0] := ⟨by kernel_rfl⟩
instance : UI Try.prog 6 (.int .u8) := ⟨by kernel_rfl⟩
instance : TyI Try.prog 7 4 true := ⟨by kernel_rfl, by kernel_rfl⟩
instance : FldI Try.prog 7 0 0 2 := ⟨by kernel_rfl, by kernel_rfl⟩
instance : FldI Try.prog 7 1 1 3 := ⟨by kernel_rfl, by kernel_rfl⟩
instance : FldI Try.prog 7 2 2 4 := ⟨by kernel_rfl, by kernel_rfl⟩
instance : FldI Try.prog 7 3 3 6 := ⟨by kernel_rfl, by kernel_rfl⟩
instance : ZI Try.prog 7 [.int .i64 0, .int .i64 0, .bool false, .int .u8 0] := ⟨by kernel_rfl⟩
instance : BdI Try.prog 7 [.int .i64 0, .int .i64 0, .bool false, .int .u8 0] [(0, 1), (1, 1), (2, 1), (3, 1)] := ⟨by kernel_rfl⟩
instance : TyI Try.prog 8 4 true := ⟨by kernel_rfl, by kernel_rfl⟩
instance : FldI Try.prog 8 0 0 2 := ⟨by kernel_rfl, by kernel_rfl⟩
instance : FldI Try.prog 8 1 1 3 := ⟨by kernel_rfl, by kernel_rfl⟩
instance : FldI Try.prog 8 2 2 4 := ⟨by kernel_rfl, by kernel_rfl⟩
instance : FldI Try.prog 8 3 3 6 := ⟨by kernel_rfl, by kernel_rfl⟩
instance : ZI Try.prog 8 [.int .i64 0, .int .i64 0, .bool false, .int .u8 0] := ⟨by kernel_rfl⟩
instance : BdI Try.prog 8 [.int .i64 0, .int .i64 0, .bool false, .int .u8 0] [(0, 1), (1, 1), (2, 1), (3, 1)] := ⟨by kernel_rfl⟩
instance : TyI Try.prog 9 1 false := ⟨by kernel_rfl, by kernel_rfl⟩
instance : ZI Try.prog 9 [.str .empty] := ⟨by kernel_rfl⟩
instance : UI Try.prog 9 (.string) := ⟨by kernel_rfl⟩
instance : TyI Try.prog 10 1 false := ⟨by kernel_rfl, by kernel_rfl⟩
instance : ZI Try.prog 10 [.str .empty] := ⟨by kernel_rfl⟩
instance : UI Try.prog 10 (.string) := ⟨by kernel_rfl⟩
instance : TyI Try.prog 11 1 false := ⟨by kernel_rfl, by kernel_rfl⟩
instance : ZI Try.prog 11 [.str .empty] := ⟨by kernel_rfl⟩
instance : UI Try.prog 11 (.string) := ⟨by kernel_rfl⟩
instance : TyI Try.prog 12 1 false := ⟨by kernel_rfl, by kernel_rfl⟩
instance : ZI Try.prog 12 [.int .u64 0] := ⟨by kernel_rfl⟩
instance : UI Try.prog 12 (.int .u64) := ⟨by kernel_rfl⟩
instance : TyI Try.prog 13 2 true := ⟨by kernel_rfl, by kernel_rfl⟩
instance : FldI Try.prog 13 0 0 9 := ⟨by kernel_rfl, by kernel_rfl⟩
instance : FldI Try.prog 13 1 1 12 := ⟨by kernel_rfl, by kernel_rfl⟩
instance : ZI Try.prog 13 [.str .empty, .int .u64 0] := ⟨by kernel_rfl⟩
instance : BdI Try.prog 13 [.str .empty, .int .u64 0] [(0, 1), (1, 1)] := ⟨by kernel_rfl⟩
instance : TyI Try.prog 14 2 true := ⟨by kernel_rfl, by kernel_rfl⟩
instance : FldI Try.prog 14 0 0 9 := ⟨by kernel_rfl, by kernel_rfl⟩
instance : FldI Try.prog 14 1 1 12 := ⟨by kernel_rfl, by kernel_rfl⟩
instance : ZI Try.prog 14 [.str .empty, .int .u64 0] := ⟨by kernel_rfl⟩
instance : BdI Try.prog 14 [.str .empty, .int .u64 0] [(0, 1), (1, 1)] := ⟨by kernel_rfl⟩
instance : TyI Try.prog 15 1 false := ⟨by kernel_rfl, by kernel_rfl⟩
instance : ZI Try.prog 15 [.raw (.pointer none)] := ⟨by kernel_rfl⟩
instance : PtI Try.prog 15 := ⟨by kernel_rfl⟩
instance : TyI Try.prog 16 1 false := ⟨by kernel_rfl, by kernel_rfl⟩
instance : ZI Try.prog 16 [.raw (.pointer none)] := ⟨by kernel_rfl⟩
instance : TyI Try.prog 17 1 false := ⟨by kernel_rfl, by kernel_rfl⟩
instance : ZI Try.prog 17 [.raw (.pointer none)] := ⟨by kernel_rfl⟩
instance : PtI Try.prog 17 := ⟨by kernel_rfl⟩
instance : TyI Try.prog 18 1 true := ⟨by kernel_rfl, by kernel_rfl⟩
instance : FldI Try.prog 18 0 0 17 := ⟨by kernel_rfl, by kernel_rfl⟩
instance : ZI Try.prog 18 [.raw (.pointer none)] := ⟨by kernel_rfl⟩
instance : BdI Try.prog 18 [.raw (.pointer none)] [(0, 1)] := ⟨by kernel_rfl⟩
instance : TyI Try.prog 19 1 true := ⟨by kernel_rfl, by kernel_rfl⟩
instance : FldI Try.prog 19 0 0 17 := ⟨by kernel_rfl, by kernel_rfl⟩
instance : ZI Try.prog 19 [.raw (.pointer none)] := ⟨by kernel_rfl⟩
instance : BdI Try.prog 19 [.raw (.pointer none)] [(0, 1)] := ⟨by kernel_rfl⟩
instance : TyI Try.prog 20 1 false := ⟨by kernel_rfl, by kernel_rfl⟩
instance : ZI Try.prog 20 [.raw .nilIface] := ⟨by kernel_rfl⟩
instance : TyI Try.prog 21 1 false := ⟨by kernel_rfl, by kernel_rfl⟩
instance : ZI Try.prog 21 [.int .i32 0] := ⟨by kernel_rfl⟩
instance : UI Try.prog 21 (.int .i32) := ⟨by kernel_rfl⟩
instance : TyI Try.prog 22 3 true := ⟨by kernel_rfl, by kernel_rfl⟩
instance : ZI Try.prog 22 [.int .i64 0, .int .i64 0, .int .i64 0] := ⟨by kernel_rfl⟩
instance : TyI Try.prog 23 1 false := ⟨by kernel_rfl, by kernel_rfl⟩
instance : ZI Try.prog 23 [.flt 0] := ⟨by kernel_rfl⟩
instance : UI Try.prog 23 (.float .f64) := ⟨by kernel_rfl⟩
instance : TyI Try.prog 24 1 false := ⟨by kernel_rfl, by kernel_rfl⟩
instance : SlI Try.prog 24 23 1 := ⟨by kernel_rfl, by kernel_rfl⟩
instance : EI Try.prog 24 1 8 [.flt 0] := ⟨by kernel_rfl⟩
instance : ZI Try.prog 24 [.slnil] := ⟨by kernel_rfl⟩
instance : TyI Try.prog 25 5 true := ⟨by kernel_rfl, by kernel_rfl⟩
instance : FldI Try.prog 25 0 0 24 := ⟨by kernel_rfl, by kernel_rfl⟩
instance : FldI Try.prog 25 1 1 3 := ⟨by kernel_rfl, by kernel_rfl⟩
instance : FldI Try.prog 25 2 2 3 := ⟨by kernel_rfl, by kernel_rfl⟩
instance : FldI Try.prog 25 3 3 3 := ⟨by kernel_rfl, by kernel_rfl⟩
instance : FldI Try.prog 25 4 4 3 := ⟨by kernel_rfl, by kernel_rfl⟩
instance : ZI Try.prog 25 [.slnil, .int .i64 0, .int .i64 0, .int .i64 0, .int .i64 0] := ⟨by kernel_rfl⟩
instance : BdI Try.prog 25 [.slnil, .int .i64 0, .int .i64 0, .int .i64 0, .int .i64 0] [(0, 1), (1, 1), (2, 1), (3, 1), (4, 1)] := ⟨by kernel_rfl⟩
instance : TyI Try.prog 26 5 true := ⟨by kernel_rfl, by kernel_rfl⟩
instance : FldI Try.prog 26 0 0 24 := ⟨by kernel_rfl, by kernel_rfl⟩
instance : FldI Try.prog 26 1 1 3 := ⟨by kernel_rfl, by kernel_rfl⟩
instance : FldI Try.prog 26 2 2 3 := ⟨by kernel_rfl, by kernel_rfl⟩
instance : FldI Try.prog 26 3 3 3 := ⟨by kernel_rfl, by kernel_rfl⟩
instance : FldI Try.prog 26 4 4 3 := ⟨by kernel_rfl, by kernel_rfl⟩
instance : ZI Try.prog 26 [.slnil, .int .i64 0, .int .i64 0, .int .i64 0, .int .i64 0] := ⟨by kernel_rfl⟩
instance : BdI Try.prog 26 [.slnil, .int .i64 0, .int .i64 0, .int .i64 0, .int .i64 0] [(0, 1), (1, 1), (2, 1), (3, 1), (4, 1)] := ⟨by kernel_rfl⟩
instance : TyI Try.prog 27 1 false := ⟨by kernel_rfl, by kernel_rfl⟩
instance : ZI Try.prog 27 [.raw .nilFunc] := ⟨by kernel_rfl⟩
instance : TyI Try.prog 28 1 false := ⟨by kernel_rfl, by kernel_rfl⟩
instance : ZI Try.prog 28 [.raw .nilFunc] := ⟨by kernel_rfl⟩
instance : TyI Try.prog 29 1 false := ⟨by kernel_rfl, by kernel_rfl⟩
instance : ZI Try.prog 29 [.raw .nilFunc] := ⟨by kernel_rfl⟩
instance : TyI Try.prog 30 3 true := ⟨by kernel_rfl, by kernel_rfl⟩
instance : FldI Try.prog 30 0 0 3 := ⟨by kernel_rfl, by kernel_rfl⟩
instance : FldI Try.prog 30 1 1 3 := ⟨by kernel_rfl, by kernel_rfl⟩
instance : FldI Try.prog 30 2 2 3 := ⟨by kernel_rfl, by kernel_rfl⟩
instance : ZI Try.prog 30 [.int .i64 0, .int .i64 0, .int .i64 0] := ⟨by kernel_rfl⟩
instance : BdI Try.prog 30 [.int .i64 0, .int .i64 0, .int .i64 0] [(0, 1), (1, 1), (2, 1)] := ⟨by kernel_rfl⟩
instance : TyI Try.prog 31 3 true := ⟨by kernel_rfl, by kernel_rfl⟩
instance : FldI Try.prog 31 0 0 3 := ⟨by kernel_rfl, by kernel_rfl⟩
instance : FldI Try.prog 31 1 1 3 := ⟨by kernel_rfl, by kernel_rfl⟩
instance : FldI Try.prog 31 2 2 3 := ⟨by kernel_rfl, by kernel_rfl⟩
instance : ZI Try.prog 31 [.int .i64 0, .int .i64 0, .int .i64 0] := ⟨by kernel_rfl⟩
instance : BdI Try.prog 31 [.int .i64 0, .int .i64 0, .int .i64 0] [(0, 1), (1, 1), (2, 1)] := ⟨by kernel_rfl⟩
instance : TyI Try.prog 32 1 false := ⟨by kernel_rfl, by kernel_rfl⟩
instance : ZI Try.prog 32 [.raw .nilFunc] := ⟨by kernel_rfl⟩
instance : TyI Try.prog 33 1 false := ⟨by kernel_rfl, by kernel_rfl⟩
instance : ZI Try.prog 33 [.int .i64 0] := ⟨by kernel_rfl⟩
instance : UI Try.prog 33 (.int .i64) := ⟨by kernel_rfl⟩
instance : TyI Try.prog 34 1 false := ⟨by kernel_rfl, by kernel_rfl⟩
instance : ZI Try.prog 34 [.raw .nilFunc] := ⟨by kernel_rfl⟩
instance : TyI Try.prog 35 1 false := ⟨by kernel_rfl, by kernel_rfl⟩
instance : ZI Try.prog 35 [.raw .nilFunc] := ⟨by kernel_rfl⟩
instance : TyI Try.prog 36 1 false := ⟨by kernel_rfl, by kernel_rfl⟩
instance : ZI Try.prog 36 [.raw .nilFunc] := ⟨by kernel_rfl⟩
instance : TyI Try.prog 37 1 false := ⟨by kernel_rfl, by kernel_rfl⟩
instance : ZI Try.prog 37 [.raw .nilFunc] := ⟨by kernel_rfl⟩
instance : TyI Try.prog 38 3 true := ⟨by kernel_rfl, by kernel_rfl⟩
instance : FldI Try.prog 38 0 0 3 := ⟨by kernel_rfl, by kernel_rfl⟩
instance : FldI Try.prog 38 1 1 3 := ⟨by kernel_rfl, by kernel_rfl⟩
instance : FldI Try.prog 38 2 2 24 := ⟨by kernel_rfl, by kernel_rfl⟩
instance : ZI Try.prog 38 [.int .i64 0, .int .i64 0, .slnil] := ⟨by kernel_rfl⟩
instance : BdI Try.prog 38 [.int .i64 0, .int .i64 0, .slnil] [(0, 1), (1, 1), (2, 1)] := ⟨by kernel_rfl⟩
instance : TyI Try.prog 39 3 true := ⟨by kernel_rfl, by kernel_rfl⟩
instance : FldI Try.prog 39 0 0 3 := ⟨by kernel_rfl, by kernel_rfl⟩
instance : FldI Try.prog 39 1 1 3 := ⟨by kernel_rfl, by kernel_rfl⟩
instance : FldI Try.prog 39 2 2 24 := ⟨by kernel_rfl, by kernel_rfl⟩
instance : ZI Try.prog 39 [.int .i64 0, .int .i64 0, .slnil] := ⟨by kernel_rfl⟩
instance : BdI Try.prog 39 [.int .i64 0, .int .i64 0, .slnil] [(0, 1), (1, 1), (2, 1)] := ⟨by kernel_rfl⟩
instance : TyI Try.prog 40 1 false := ⟨by kernel_rfl, by kernel_rfl⟩
instance : ZI Try.prog 40 [.raw .nilFunc] := ⟨by kernel_rfl⟩
instance : TyI Try.prog 41 1 false := ⟨by kernel_rfl, by kernel_rfl⟩
instance : ZI Try.prog 41 [.raw .nilFunc] := ⟨by kernel_rfl⟩
instance : TyI Try.prog 42 1 false := ⟨by kernel_rfl, by kernel_rfl⟩
instance : ZI Try.prog 42 [.raw .nilFunc] := ⟨by kernel_rfl⟩
instance : TyI Try.prog 43 1 false := ⟨by kernel_rfl, by kernel_rfl⟩
instance : ZI Try.prog 43 [.raw .nilFunc] := ⟨by kernel_rfl⟩
instance : TyI Try.prog 44 1 false := ⟨by kernel_rfl, by kernel_rfl⟩
instance : ZI Try.prog 44 [.raw .nilFunc] := ⟨by kernel_rfl⟩
instance : TyI Try.prog 45 1 false := ⟨by kernel_rfl, by kernel_rfl⟩
instance : TyI Try.prog 46 1 false := ⟨by kernel_rfl, by kernel_rfl⟩
instance : ZI Try.prog 46 [.raw .nilFunc] := ⟨by kernel_rfl⟩
instance : TyI Try.prog 47 1 false := ⟨by kernel_rfl, by kernel_rfl⟩
instance : TyI Try.prog 48 1 false := ⟨by kernel_rfl, by kernel_rfl⟩
instance : ZI Try.prog 48 [.raw .nilFunc] := ⟨by kernel_rfl⟩
instance : TyI Try.prog 49 1 false := ⟨by kernel_rfl, by kernel_rfl⟩
instance : ZI Try.prog 49 [.raw .nilFunc] := ⟨by kernel_rfl⟩
instance : TyI Try.prog 50 1 false := ⟨by kernel_rfl, by kernel_rfl⟩
instance : ZI Try.prog 50 [.raw .nilFunc] := ⟨by kernel_rfl⟩
instance : TyI Try.prog 51 1 false := ⟨by kernel_rfl, by kernel_rfl⟩
instance : ZI Try.prog 51 [.raw .nilFunc] := ⟨by kernel_rfl⟩
instance : TyI Try.prog 52 1 false := ⟨by kernel_rfl, by kernel_rfl⟩
instance : SlI Try.prog 52 3 1 := ⟨by kernel_rfl, by kernel_rfl⟩
instance : EI Try.prog 52 1 8 [.int .i64 0] := ⟨by kernel_rfl⟩
instance : ZI Try.prog 52 [.slnil] := ⟨by kernel_rfl⟩
instance : TyI Try.prog 53 6 true := ⟨by kernel_rfl, by kernel_rfl⟩
instance : FldI Try.prog 53 0 0 26 := ⟨by kernel_rfl, by kernel_rfl⟩
instance : FldI Try.prog 53 1 5 52 := ⟨by kernel_rfl, by kernel_rfl⟩
instance : ZI Try.prog 53 [.slnil, .int .i64 0, .int .i64 0, .int .i64 0, .int .i64 0, .slnil] := ⟨by kernel_rfl⟩
instance : BdI Try.prog 53 [.slnil, .int .i64 0, .int .i64 0, .int .i64 0, .int .i64 0, .slnil] [(0, 5), (5, 1)] := ⟨by kernel_rfl⟩
instance : TyI Try.prog 54 6 true := ⟨by kernel_rfl, by kernel_rfl⟩
instance : FldI Try.prog 54 0 0 26 := ⟨by kernel_rfl, by kernel_rfl⟩
instance : FldI Try.prog 54 1 5 52 := ⟨by kernel_rfl, by kernel_rfl⟩
instance : ZI Try.prog 54 [.slnil, .int .i64 0, .int .i64 0, .int .i64 0, .int .i64 0, .slnil] := ⟨by kernel_rfl⟩
instance : BdI Try.prog 54 [.slnil, .int .i64 0, .int .i64 0, .int .i64 0, .int .i64 0, .slnil] [(0, 5), (5, 1)] := ⟨by kernel_rfl⟩
instance : TyI Try.prog 55 1 false := ⟨by kernel_rfl, by kernel_rfl⟩
instance : TyI Try.prog 56 1 false := ⟨by kernel_rfl, by kernel_rfl⟩
instance : ZI Try.prog 56 [.raw .nilFunc] := ⟨by kernel_rfl⟩
instance : TyI Try.prog 57 1 false := ⟨by kernel_rfl, by kernel_rfl⟩
instance : ZI Try.prog 57 [.raw .nilFunc] := ⟨by kernel_rfl⟩
instance : TyI Try.prog 58 1 false := ⟨by kernel_rfl, by kernel_rfl⟩
instance : ZI Try.prog 58 [.raw .nilFunc] := ⟨by kernel_rfl⟩
instance : TyI Try.prog 59 1 false := ⟨by kernel_rfl, by kernel_rfl⟩
instance : ZI Try.prog 59 [.raw .nilFunc] := ⟨by kernel_rfl⟩
instance : TyI Try.prog 60 1 false := ⟨by kernel_rfl, by kernel_rfl⟩
instance : ZI Try.prog 60 [.raw .nilFunc] := ⟨by kernel_rfl⟩
instance : TyI Try.prog 61 1 false := ⟨by kernel_rfl, by kernel_rfl⟩
instance : ZI Try.prog 61 [.raw .nilFunc] := ⟨by kernel_rfl⟩
instance : TyI Try.prog 62 1 false := ⟨by kernel_rfl, by kernel_rfl⟩
instance : TyI Try.prog 63 1 false := ⟨by kernel_rfl, by kernel_rfl⟩
instance : ZI Try.prog 63 [.raw .nilFunc] := ⟨by kernel_rfl⟩
instance : TyI Try.prog 64 1 false := ⟨by kernel_rfl, by kernel_rfl⟩
instance : ZI Try.prog 64 [.raw .nilFunc] := ⟨by kernel_rfl⟩
instance : TyI Try.prog 65 1 false := ⟨by kernel_rfl, by kernel_rfl⟩
instance : ZI Try.prog 65 [.raw .nilFunc] := ⟨by kernel_rfl⟩
instance : TyI Try.prog 66 1 false := ⟨by kernel_rfl, by kernel_rfl⟩
instance : ZI Try.prog 66 [.raw .nilFunc] := ⟨by kernel_rfl⟩
instance : TyI Try.prog 67 19 true := ⟨by kernel_rfl, by kernel_rfl⟩
instance : FldI Try.prog 67 0 0 31 := ⟨by kernel_rfl, by kernel_rfl⟩
instance : FldI Try.prog 67 1 3 23 := ⟨by kernel_rfl, by kernel_rfl⟩
instance : FldI Try.prog 67 2 4 26 := ⟨by kernel_rfl, by kernel_rfl⟩
instance : FldI Try.prog 67 3 9 26 := ⟨by kernel_rfl, by kernel_rfl⟩
instance : FldI Try.prog 67 4 14 26 := ⟨by kernel_rfl, by kernel_rfl⟩
instance : ZI Try.prog 67 [.int .i64 0, .int .i64 0, .int .i64 0, .flt 0, .slnil, .int .i64 0, .int .i64 0, .int .i64 0, .int .i64 0, .slnil, .int .i64 0, .int .i64 0, .int .i64 0, .int .i64 0, .slnil, .int .i64 0, .int .i64 0, .int .i64 0, .int .i64 0] := ⟨by kernel_rfl⟩
instance : BdI Try.prog 67 [.int .i64 0, .int .i64 0, .int .i64 0, .flt 0, .slnil, .int .i64 0, .int .i64 0, .int .i64 0, .int .i64 0, .slnil, .int .i64 0, .int .i64 0, .int .i64 0, .int .i64 0, .slnil, .int .i64 0, .int .i64 0, .int .i64 0, .int .i64 0] [(0, 3), (3, 1), (4, 5), (9, 5), (14, 5)] := ⟨by kernel_rfl⟩
instance : TyI Try.prog 68 19 true := ⟨by kernel_rfl, by kernel_rfl⟩
instance : FldI Try.prog 68 0 0 31 := ⟨by kernel_rfl, by kernel_rfl⟩
instance : FldI Try.prog 68 1 3 23 := ⟨by kernel_rfl, by kernel_rfl⟩
instance : FldI Try.prog 68 2 4 26 := ⟨by kernel_rfl, by kernel_rfl⟩
instance : FldI Try.prog 68 3 9 26 := ⟨by kernel_rfl, by kernel_rfl⟩
instance : FldI Try.prog 68 4 14 26 := ⟨by kernel_rfl, by kernel_rfl⟩
instance : ZI Try.prog 68 [.int .i64 0, .int .i64 0, .int .i64 0, .flt 0, .slnil, .int .i64 0, .int .i64 0, .int .i64 0, .int .i64 0, .slnil, .int .i64 0, .int .i64 0, .int .i64 0, .int .i64 0, .slnil, .int .i64 0, .int .i64 0, .int .i64 0, .int .i64 0] := ⟨by kernel_rfl⟩
instance : BdI Try.prog 68 [.int .i64 0, .int .i64 0, .int .i64 0, .flt 0, .slnil, .int .i64 0, .int .i64 0, .int .i64 0, .int .i64 0, .slnil, .int .i64 0, .int .i64 0, .int .i64 0, .int .i64 0, .slnil, .int .i64 0, .int .i64 0, .int .i64 0, .int .i64 0] [(0, 3), (3, 1), (4, 5), (9, 5), (14, 5)] := ⟨by kernel_rfl⟩
instance : TyI Try.prog 69 1 false := ⟨by kernel_rfl, by kernel_rfl⟩
instance : ZI Try.prog 69 [.raw .nilFunc] := ⟨by kernel_rfl⟩
instance : TyI Try.prog 70 1 false := ⟨by kernel_rfl, by kernel_rfl⟩
instance : ZI Try.prog 70 [.raw .nilFunc] := ⟨by kernel_rfl⟩
instance : TyI Try.prog 71 1 false := ⟨by kernel_rfl, by kernel_rfl⟩
instance : ZI Try.prog 71 [.raw .nilFunc] := ⟨by kernel_rfl⟩
instance : TyI Try.prog 72 1 false := ⟨by kernel_rfl, by kernel_rfl⟩
instance : ZI Try.prog 72 [.raw .nilFunc] := ⟨by kernel_rfl⟩
instance : TyI Try.prog 73 1 false := ⟨by kernel_rfl, by kernel_rfl⟩
instance : ZI Try.prog 73 [.raw .nilFunc] := ⟨by kernel_rfl⟩
instance : TyI Try.prog 74 1 false := ⟨by kernel_rfl, by kernel_rfl⟩
instance : SlI Try.prog 74 76 2 := ⟨by kernel_rfl, by kernel_rfl⟩
instance : EI Try.prog 74 2 16 [.int .i64 0, .int .i64 0] := ⟨by kernel_rfl⟩
instance : ZI Try.prog 74 [.slnil] := ⟨by kernel_rfl⟩
instance : TyI Try.prog 75 1 false := ⟨by kernel_rfl, by kernel_rfl⟩
instance : ZI Try.prog 75 [.raw .nilFunc] := ⟨by kernel_rfl⟩
instance : TyI Try.prog 76 2 true := ⟨by kernel_rfl, by kernel_rfl⟩
instance : ZI Try.prog 76 [.int .i64 0, .int .i64 0] := ⟨by kernel_rfl⟩
instance : TyI Try.prog 77 1 false := ⟨by kernel_rfl, by kernel_rfl⟩
instance : ZI Try.prog 77 [.raw .nilFunc] := ⟨by kernel_rfl⟩
instance : TyI Try.prog 78 1 false := ⟨by kernel_rfl, by kernel_rfl⟩
instance : ZI Try.prog 78 [.raw .nilFunc] := ⟨by kernel_rfl⟩
instance : TyI Try.prog 79 1 false := ⟨by kernel_rfl, by kernel_rfl⟩
instance : ZI Try.prog 79 [.raw .nilFunc] := ⟨by kernel_rfl⟩
instance : TyI Try.prog 80 1 false := ⟨by kernel_rfl, by kernel_rfl⟩
instance : ZI Try.prog 80 [.raw .nilFunc] := ⟨by kernel_rfl⟩
instance : TyI Try.prog 81 1 false := ⟨by kernel_rfl, by kernel_rfl⟩
instance : ZI Try.prog 81 [.raw .nilFunc] := ⟨by kernel_rfl⟩
instance : TyI Try.prog 82 1 false := ⟨by kernel_rfl, by kernel_rfl⟩
instance : ZI Try.prog 82 [.raw .nilFunc] := ⟨by kernel_rfl⟩
instance : TyI Try.prog 83 1 false := ⟨by kernel_rfl, by kernel_rfl⟩
instance : ZI Try.prog 83 [.raw .nilFunc] := ⟨by kernel_rfl⟩
instance : TyI Try.prog 84 1 false := ⟨by kernel_rfl, by kernel_rfl⟩
instance : TyI Try.prog 85 1 false := ⟨by kernel_rfl, by kernel_rfl⟩
instance : ZI Try.prog 85 [.raw .nilFunc] := ⟨by kernel_rfl⟩
instance : TyI Try.prog 86 1 false := ⟨by kernel_rfl, by kernel_rfl⟩
instance : ZI Try.prog 86 [.raw .nilFunc] := ⟨by kernel_rfl⟩
instance : TyI Try.prog 87 1 false := ⟨by kernel_rfl, by kernel_rfl⟩
instance : ZI Try.prog 87 [.raw (.pointer none)] := ⟨by kernel_rfl⟩
instance : PtI Try.prog 87 := ⟨by kernel_rfl⟩
instance : TyI Try.prog 88 9 true := ⟨by kernel_rfl, by kernel_rfl⟩
instance : FldI Try.prog 88 0 0 31 := ⟨by kernel_rfl, by kernel_rfl⟩
instance : FldI Try.prog 88 1 3 26 := ⟨by kernel_rfl, by kernel_rfl⟩
instance : FldI Try.prog 88 2 8 52 := ⟨by kernel_rfl, by kernel_rfl⟩
instance : ZI Try.prog 88 [.int .i64 0, .int .i64 0, .int .i64 0, .slnil, .int .i64 0, .int .i64 0, .int .i64 0, .int .i64 0, .slnil] := ⟨by kernel_rfl⟩
instance : BdI Try.prog 88 [.int .i64 0, .int .i64 0, .int .i64 0, .slnil, .int .i64 0, .int .i64 0, .int .i64 0, .int .i64 0, .slnil] [(0, 3), (3, 5), (8, 1)] := ⟨by kernel_rfl⟩
instance : TyI Try.prog 89 9 true := ⟨by kernel_rfl, by kernel_rfl⟩
instance : FldI Try.prog 89 0 0 31 := ⟨by kernel_rfl, by kernel_rfl⟩
instance : FldI Try.prog 89 1 3 26 := ⟨by kernel_rfl, by kernel_rfl⟩
instance : FldI Try.prog 89 2 8 52 := ⟨by kernel_rfl, by kernel_rfl⟩
instance : ZI Try.prog 89 [.int .i64 0, .int .i64 0, .int .i64 0, .slnil, .int .i64 0, .int .i64 0, .int .i64 0, .int .i64 0, .slnil] := ⟨by kernel_rfl⟩
instance : BdI Try.prog 89 [.int .i64 0, .int .i64 0, .int .i64 0, .slnil, .int .i64 0, .int .i64 0, .int .i64 0, .int .i64 0, .slnil] [(0, 3), (3, 5), (8, 1)] := ⟨by kernel_rfl⟩
instance : TyI Try.prog 90 1 false := ⟨by kernel_rfl, by kernel_rfl⟩
instance : ZI Try.prog 90 [.raw .nilFunc] := ⟨by kernel_rfl⟩
instance : TyI Try.prog 91 1 false := ⟨by kernel_rfl, by kernel_rfl⟩
instance : ZI Try.prog 91 [.raw .nilFunc] := ⟨by kernel_rfl⟩
instance : TyI Try.prog 92 1 false := ⟨by kernel_rfl, by kernel_rfl⟩
instance : ZI Try.prog 92 [.raw .nilFunc] := ⟨by kernel_rfl⟩
instance : TyI Try.prog 93 1 false := ⟨by kernel_rfl, by kernel_rfl⟩
instance : TyI Try.prog 94 1 false := ⟨by kernel_rfl, by kernel_rfl⟩
instance : ZI Try.prog 94 [.raw .nilFunc] := ⟨by kernel_rfl⟩
instance : TyI Try.prog 95 4 true := ⟨by kernel_rfl, by kernel_rfl⟩
instance : FldI Try.prog 95 0 0 24 := ⟨by kernel_rfl, by kernel_rfl⟩
instance : FldI Try.prog 95 1 1 3 := ⟨by kernel_rfl, by kernel_rfl⟩
instance : FldI Try.prog 95 2 2 3 := ⟨by kernel_rfl, by kernel_rfl⟩
instance : FldI Try.prog 95 3 3 3 := ⟨by kernel_rfl, by kernel_rfl⟩
instance : ZI Try.prog 95 [.slnil, .int .i64 0, .int .i64 0, .int .i64 0] := ⟨by kernel_rfl⟩
instance : BdI Try.prog 95 [.slnil, .int .i64 0, .int .i64 0, .int .i64 0] [(0, 1), (1, 1), (2, 1), (3, 1)] := ⟨by kernel_rfl⟩
instance : TyI Try.prog 96 4 true := ⟨by kernel_rfl, by kernel_rfl⟩
instance : FldI Try.prog 96 0 0 24 := ⟨by kernel_rfl, by kernel_rfl⟩
instance : FldI Try.prog 96 1 1 3 := ⟨by kernel_rfl, by kernel_rfl⟩
instance : FldI Try.prog 96 2 2 3 := ⟨by kernel_rfl, by kernel_rfl⟩
instance : FldI Try.prog 96 3 3 3 := ⟨by kernel_rfl, by kernel_rfl⟩
instance : ZI Try.prog 96 [.slnil, .int .i64 0, .int .i64 0, .int .i64 0] := ⟨by kernel_rfl⟩
instance : BdI Try.prog 96 [.slnil, .int .i64 0, .int .i64 0, .int .i64 0] [(0, 1), (1, 1), (2, 1), (3, 1)] := ⟨by kernel_rfl⟩
instance : TyI Try.prog 97 1 false := ⟨by kernel_rfl, by kernel_rfl⟩
instance : ZI Try.prog 97 [.raw .nilFunc] := ⟨by kernel_rfl⟩
instance : TyI Try.prog 98 1 false := ⟨by kernel_rfl, by kernel_rfl⟩
instance : ZI Try.prog 98 [.raw .nilFunc] := ⟨by kernel_rfl⟩
instance : TyI Try.prog 99 1 false := ⟨by kernel_rfl, by kernel_rfl⟩
instance : ZI Try.prog 99 [.raw .nilFunc] := ⟨by kernel_rfl⟩
instance : TyI Try.prog 100 1 false := ⟨by kernel_rfl, by kernel_rfl⟩
instance : ZI Try.prog 100 [.raw (.pointer none)] := ⟨by kernel_rfl⟩
instance : PtI Try.prog 100 := ⟨by kernel_rfl⟩
instance : TyI Try.prog 101 1 false := ⟨by kernel_rfl, by kernel_rfl⟩
instance : ZI Try.prog 101 [.raw .nilFunc] := ⟨by kernel_rfl⟩
instance : TyI Try.prog 102 1 false := ⟨by kernel_rfl, by kernel_rfl⟩
instance : ZI Try.prog 102 [.raw .nilFunc] := ⟨by kernel_rfl⟩
instance : TyI Try.prog 103 1 false := ⟨by kernel_rfl, by kernel_rfl⟩
instance : ZI Try.prog 103 [.int .u64 0] := ⟨by kernel_rfl⟩
instance : UI Try.prog 103 (.int .u64) := ⟨by kernel_rfl⟩
instance : TyI Try.prog 104 1 false := ⟨by kernel_rfl, by kernel_rfl⟩
instance : TyI Try.prog 105 1 false := ⟨by kernel_rfl, by kernel_rfl⟩
instance : ZI Try.prog 105 [.raw .nilFunc] := ⟨by kernel_rfl⟩
instance : TyI Try.prog 106 1 false := ⟨by kernel_rfl, by kernel_rfl⟩
instance : ZI Try.prog 106 [.raw .nilFunc] := ⟨by kernel_rfl⟩
instance : TyI Try.prog 107 1 false := ⟨by kernel_rfl, by kernel_rfl⟩
instance : ZI Try.prog 107 [.raw .nilFunc] := ⟨by kernel_rfl⟩
instance : TyI Try.prog 108 1 false := ⟨by kernel_rfl, by kernel_rfl⟩
instance : ZI Try.prog 108 [.raw .nilFunc] := ⟨by kernel_rfl⟩
instance : TyI Try.prog 109 1 false := ⟨by kernel_rfl, by kernel_rfl⟩
instance : ZI Try.prog 109 [.raw .nilFunc] := ⟨by kernel_rfl⟩
instance : TyI Try.prog 110 1 false := ⟨by kernel_rfl, by kernel_rfl⟩
instance : ZI Try.prog 110 [.raw .nilFunc] := ⟨by kernel_rfl⟩
instance : TyI Try.prog 111 1 false := ⟨by kernel_rfl, by kernel_rfl⟩
instance : ZI Try.prog 111 [.raw .nilFunc] := ⟨by kernel_rfl⟩
instance : TyI Try.prog 112 1 false := ⟨by kernel_rfl, by kernel_rfl⟩
instance : ZI Try.prog 112 [.raw .nilFunc] := ⟨by kernel_rfl⟩
instance : TyI Try.prog 113 1 false := ⟨by kernel_rfl, by kernel_rfl⟩
instance : TyI Try.prog 114 1 false := ⟨by kernel_rfl, by kernel_rfl⟩
instance : ZI Try.prog 114 [.raw .nilFunc] := ⟨by kernel_rfl⟩
instance : TyI Try.prog 115 1 false := ⟨by kernel_rfl, by kernel_rfl⟩
instance : ZI Try.prog 115 [.raw .nilFunc] := ⟨by kernel_rfl⟩
instance : TyI Try.prog 116 1 false := ⟨by kernel_rfl, by kernel_rfl⟩
instance : ZI Try.prog 116 [.raw .nilFunc] := ⟨by kernel_rfl⟩
instance : TyI Try.prog 117 1 false := ⟨by kernel_rfl, by kernel_rfl⟩
instance : ZI Try.prog 117 [.raw .nilFunc] := ⟨by kernel_rfl⟩
instance : TyI Try.prog 118 1 false := ⟨by kernel_rfl, by kernel_rfl⟩
instance : ZI Try.prog 118 [.raw .nilFunc] := ⟨by kernel_rfl⟩
instance : TyI Try.prog 119 1 false := ⟨by kernel_rfl, by kernel_rfl⟩
instance : ZI Try.prog 119 [.raw .nilFunc] := ⟨by kernel_rfl⟩
instance : TyI Try.prog 120 1 false := ⟨by kernel_rfl, by kernel_rfl⟩
instance : ZI Try.prog 120 [.int .u64 0] := ⟨by kernel_rfl⟩
instance : UI Try.prog 120 (.int .u64) := ⟨by kernel_rfl⟩
instance : TyI Try.prog 121 1 false := ⟨by kernel_rfl, by kernel_rfl⟩
instance : ZI Try.prog 121 [.raw .nilFunc] := ⟨by kernel_rfl⟩
instance : TyI Try.prog 122 1 false := ⟨by kernel_rfl, by kernel_rfl⟩
instance : ZI Try.prog 122 [.raw .nilFunc] := ⟨by kernel_rfl⟩
instance : TyI Try.prog 123 1 false := ⟨by kernel_rfl, by kernel_rfl⟩
instance : ZI Try.prog 123 [.raw .nilFunc] := ⟨by kernel_rfl⟩
instance : TyI Try.prog 124 1 false := ⟨by kernel_rfl, by kernel_rfl⟩
instance : ZI Try.prog 124 [.raw .nilFunc] := ⟨by kernel_rfl⟩
instance : TyI Try.prog 125 1 false := ⟨by kernel_rfl, by kernel_rfl⟩
instance : ZI Try.prog 125 [.raw .nilFunc] := ⟨by kernel_rfl⟩
instance : TyI Try.prog 126 9 true := ⟨by kernel_rfl, by kernel_rfl⟩
instance : FldI Try.prog 126 0 0 26 := ⟨by kernel_rfl, by kernel_rfl⟩
instance : FldI Try.prog 126 1 5 96 := ⟨by kernel_rfl, by kernel_rfl⟩
instance : ZI Try.prog 126 [.slnil, .int .i64 0, .int .i64 0, .int .i64 0, .int .i64 0, .slnil, .int .i64 0, .int .i64 0, .int .i64 0] := ⟨by kernel_rfl⟩
instance : BdI Try.prog 126 [.slnil, .int .i64 0, .int .i64 0, .int .i64 0, .int .i64 0, .slnil, .int .i64 0, .int .i64 0, .int .i64 0] [(0, 5), (5, 4)] := ⟨by kernel_rfl⟩
instance : TyI Try.prog 127 9 true := ⟨by kernel_rfl, by kernel_rfl⟩
instance : FldI Try.prog 127 0 0 26 := ⟨by kernel_rfl, by kernel_rfl⟩
instance : FldI Try.prog 127 1 5 96 := ⟨by kernel_rfl, by kernel_rfl⟩
instance : ZI Try.prog 127 [.slnil, .int .i64 0, .int .i64 0, .int .i64 0, .int .i64 0, .slnil, .int .i64 0, .int .i64 0, .int .i64 0] := ⟨by kernel_rfl⟩
instance : BdI Try.prog 127 [.slnil, .int .i64 0, .int .i64 0, .int .i64 0, .int .i64 0, .slnil, .int .i64 0, .int .i64 0, .int .i64 0] [(0, 5), (5, 4)] := ⟨by kernel_rfl⟩
instance : TyI Try.prog 128 1 false := ⟨by kernel_rfl, by kernel_rfl⟩
instance : ZI Try.prog 128 [.raw .nilFunc] := ⟨by kernel_rfl⟩
instance : TyI Try.prog 129 1 false := ⟨by kernel_rfl, by kernel_rfl⟩
instance : ZI Try.prog 129 [.raw .nilFunc] := ⟨by kernel_rfl⟩
instance : TyI Try.prog 130 1 false := ⟨by kernel_rfl, by kernel_rfl⟩
instance : ZI Try.prog 130 [.raw .nilFunc] := ⟨by kernel_rfl⟩
instance : TyI Try.prog 131 1 false := ⟨by kernel_rfl, by kernel_rfl⟩
instance : TyI Try.prog 132 1 false := ⟨by kernel_rfl, by kernel_rfl⟩
instance : ZI Try.prog 132 [.raw .nilFunc] := ⟨by kernel_rfl⟩
instance : TyI Try.prog 133 1 false := ⟨by kernel_rfl, by kernel_rfl⟩
instance : ZI Try.prog 133 [.raw .nilFunc] := ⟨by kernel_rfl⟩
instance : TyI Try.prog 134 1 false := ⟨by kernel_rfl, by kernel_rfl⟩
instance : ZI Try.prog 134 [.raw .nilFunc] := ⟨by kernel_rfl⟩
instance : TyI Try.prog 135 1 false := ⟨by kernel_rfl, by kernel_rfl⟩
instance : ZI Try.prog 135 [.raw .nilFunc] := ⟨by kernel_rfl⟩
instance : TyI Try.prog 136 1 false := ⟨by kernel_rfl, by kernel_rfl⟩
instance : ZI Try.prog 136 [.raw .nilFunc] := ⟨by kernel_rfl⟩
instance : TyI Try.prog 137 1 false := ⟨by kernel_rfl, by kernel_rfl⟩
instance : ZI Try.prog 137 [.raw .nilFunc] := ⟨by kernel_rfl⟩
instance : TyI Try.prog 138 1 false := ⟨by kernel_rfl, by kernel_rfl⟩
instance : ZI Try.prog 138 [.raw .nilFunc] := ⟨by kernel_rfl⟩
instance : TyI Try.prog 139 1 false := ⟨by kernel_rfl, by kernel_rfl⟩
instance : ZI Try.prog 139 [.int .i64 0] := ⟨by kernel_rfl⟩
instance : UI Try.prog 139 (.int .i64) := ⟨by kernel_rfl⟩
instance : TyI Try.prog 140 1 false := ⟨by kernel_rfl, by kernel_rfl⟩
instance : TyI Try.prog 141 1 false := ⟨by kernel_rfl, by kernel_rfl⟩
instance : ZI Try.prog 141 [.raw .nilFunc] := ⟨by kernel_rfl⟩
instance : TyI Try.prog 142 1 false := ⟨by kernel_rfl, by kernel_rfl⟩
instance : ZI Try.prog 142 [.raw .nilFunc] := ⟨by kernel_rfl⟩
instance : TyI Try.prog 143 1 false := ⟨by kernel_rfl, by kernel_rfl⟩
instance : ZI Try.prog 143 [.raw .nilFunc] := ⟨by kernel_rfl⟩
instance : TyI Try.prog 144 1 false := ⟨by kernel_rfl, by kernel_rfl⟩
instance : ZI Try.prog 144 [.raw .nilFunc] := ⟨by kernel_rfl⟩
instance : TyI Try.prog 145 1 false := ⟨by kernel_rfl, by kernel_rfl⟩
instance : ZI Try.prog 145 [.raw .nilFunc] := ⟨by kernel_rfl⟩
instance : TyI Try.prog 146 1 false := ⟨by kernel_rfl, by kernel_rfl⟩
instance : ZI Try.prog 146 [.raw .nilFunc] := ⟨by kernel_rfl⟩
instance : TyI Try.prog 147 1 false := ⟨by kernel_rfl, by kernel_rfl⟩
instance : ZI Try.prog 147 [.int .u32 0] := ⟨by kernel_rfl⟩
instance : UI Try.prog 147 (.int .u32) := ⟨by kernel_rfl⟩
instance : TyI Try.prog 148 1 false := ⟨by kernel_rfl, by kernel_rfl⟩
instance : ZI Try.prog 148 [.raw .nilFunc] := ⟨by kernel_rfl⟩
instance : TyI Try.prog 149 1 false := ⟨by kernel_rfl, by kernel_rfl⟩
instance : ZI Try.prog 149 [.raw .nilFunc] := ⟨by kernel_rfl⟩
instance : TyI Try.prog 150 1 false := ⟨by kernel_rfl, by kernel_rfl⟩
instance : ZI Try.prog 150 [.raw .nilFunc] := ⟨by kernel_rfl⟩
instance : TyI Try.prog 151 1 false := ⟨by kernel_rfl, by kernel_rfl⟩
instance : ZI Try.prog 151 [.raw .nilFunc] := ⟨by kernel_rfl⟩
instance : TyI Try.prog 152 1 false := ⟨by kernel_rfl, by kernel_rfl⟩
instance : ZI Try.prog 152 [.int .u64 0] := ⟨by kernel_rfl⟩
instance : UI Try.prog 152 (.int .u64) := ⟨by kernel_rfl⟩
instance : TyI Try.prog 153 1 false := ⟨by kernel_rfl, by kernel_rfl⟩
instance : ZI Try.prog 153 [.raw .nilFunc] := ⟨by kernel_rfl⟩
instance : TyI Try.prog 154 1 false := ⟨by kernel_rfl, by kernel_rfl⟩
instance : ZI Try.prog 154 [.raw .nilFunc] := ⟨by kernel_rfl⟩
instance : TyI Try.prog 155 1 false := ⟨by kernel_rfl, by kernel_rfl⟩
instance : ZI Try.prog 155 [.raw .nilFunc] := ⟨by kernel_rfl⟩
instance : TyI Try.prog 156 1 false := ⟨by kernel_rfl, by kernel_rfl⟩
instance : ZI Try.prog 156 [.raw (.pointer none)] := ⟨by kernel_rfl⟩
instance : PtI Try.prog 156 := ⟨by kernel_rfl⟩
instance : TyI Try.prog 157 1 false := ⟨by kernel_rfl, by kernel_rfl⟩
instance : ZI Try.prog 157 [.raw .nilFunc] := ⟨by kernel_rfl⟩
instance : TyI Try.prog 158 1 false := ⟨by kernel_rfl, by kernel_rfl⟩
instance : ZI Try.prog 158 [.raw .nilFunc] := ⟨by kernel_rfl⟩
instance : TyI Try.prog 159 1 false := ⟨by kernel_rfl, by kernel_rfl⟩
instance : ZI Try.prog 159 [.raw .nilFunc] := ⟨by kernel_rfl⟩
instance : TyI Try.prog 160 1 false := ⟨by kernel_rfl, by kernel_rfl⟩
instance : ZI Try.prog 160 [.raw (.pointer none)] := ⟨by kernel_rfl⟩
instance : PtI Try.prog 160 := ⟨by kernel_rfl⟩
instance : TyI Try.prog 161 1 false := ⟨by kernel_rfl, by kernel_rfl⟩
instance : ZI Try.prog 161 [.raw .nilFunc] := ⟨by kernel_rfl⟩
instance : TyI Try.prog 162 1 false := ⟨by kernel_rfl, by kernel_rfl⟩
instance : ZI Try.prog 162 [.raw .nilFunc] := ⟨by kernel_rfl⟩
instance : TyI Try.prog 163 4 true := ⟨by kernel_rfl, by kernel_rfl⟩
instance : FldI Try.prog 163 0 0 17 := ⟨by kernel_rfl, by kernel_rfl⟩
instance : FldI Try.prog 163 1 1 17 := ⟨by kernel_rfl, by kernel_rfl⟩
instance : FldI Try.prog 163 2 2 17 := ⟨by kernel_rfl, by kernel_rfl⟩
instance : FldI Try.prog 163 3 3 9 := ⟨by kernel_rfl, by kernel_rfl⟩
instance : ZI Try.prog 163 [.raw (.pointer none), .raw (.pointer none), .raw (.pointer none), .str .empty] := ⟨by kernel_rfl⟩
instance : BdI Try.prog 163 [.raw (.pointer none), .raw (.pointer none), .raw (.pointer none), .str .empty] [(0, 1), (1, 1), (2, 1), (3, 1)] := ⟨by kernel_rfl⟩
instance : TyI Try.prog 164 4 true := ⟨by kernel_rfl, by kernel_rfl⟩
instance : FldI Try.prog 164 0 0 17 := ⟨by kernel_rfl, by kernel_rfl⟩
instance : FldI Try.prog 164 1 1 17 := ⟨by kernel_rfl, by kernel_rfl⟩
instance : FldI Try.prog 164 2 2 17 := ⟨by kernel_rfl, by kernel_rfl⟩
instance : FldI Try.prog 164 3 3 9 := ⟨by kernel_rfl, by kernel_rfl⟩
instance : ZI Try.prog 164 [.raw (.pointer none), .raw (.pointer none), .raw (.pointer none), .str .empty] := ⟨by kernel_rfl⟩
instance : BdI Try.prog 164 [.raw (.pointer none), .raw (.pointer none), .raw (.pointer none), .str .empty] [(0, 1), (1, 1), (2, 1), (3, 1)] := ⟨by kernel_rfl⟩
instance : TyI Try.prog 165 0 true := ⟨by kernel_rfl, by kernel_rfl⟩
instance : ZI Try.prog 165 [] := ⟨by kernel_rfl⟩
instance : TyI Try.prog 166 0 true := ⟨by kernel_rfl, by kernel_rfl⟩
instance : ZI Try.prog 166 [] := ⟨by kernel_rfl⟩
instance : BdI Try.prog 166 [] [(0, 0)] := ⟨by kernel_rfl⟩
instance : TyI Try.prog 167 0 true := ⟨by kernel_rfl, by kernel_rfl⟩
instance : ZI Try.prog 167 [] := ⟨by kernel_rfl⟩
instance : BdI Try.prog 167 [] [(0, 0)] := ⟨by kernel_rfl⟩
instance : TyI Try.prog 168 1 false := ⟨by kernel_rfl, by kernel_rfl⟩
instance : ZI Try.prog 168 [.raw .nilFunc] := ⟨by kernel_rfl⟩
instance : TyI Try.prog 169 1 false := ⟨by kernel_rfl, by kernel_rfl⟩
instance : ZI Try.prog 169 [.int .u8 0] := ⟨by kernel_rfl⟩
instance : UI Try.prog 169 (.int .u8) := ⟨by kernel_rfl⟩
instance : TyI Try.prog 170 1 false := ⟨by kernel_rfl, by kernel_rfl⟩
instance : ZI Try.prog 170 [.int .u8 0] := ⟨by kernel_rfl⟩
instance : UI Try.prog 170 (.int .u8) := ⟨by kernel_rfl⟩
instance : TyI Try.prog 171 1 false := ⟨by kernel_rfl, by kernel_rfl⟩
instance : ZI Try.prog 171 [.raw .nilFunc] := ⟨by kernel_rfl⟩
instance : TyI Try.prog 172 1 false := ⟨by kernel_rfl, by kernel_rfl⟩
instance : ZI Try.prog 172 [.raw (.pointer none)] := ⟨by kernel_rfl⟩
instance : PtI Try.prog 172 := ⟨by kernel_rfl⟩
instance : TyI Try.prog 173 1 false := ⟨by kernel_rfl, by kernel_rfl⟩
instance : ZI Try.prog 173 [.int .i32 0] := ⟨by kernel_rfl⟩
instance : UI Try.prog 173 (.int .i32) := ⟨by kernel_rfl⟩
instance : TyI Try.prog 174 1 false := ⟨by kernel_rfl, by kernel_rfl⟩
instance : ZI Try.prog 174 [.int .i32 0] := ⟨by kernel_rfl⟩
instance : UI Try.prog 174 (.int .i32) := ⟨by kernel_rfl⟩
instance : TyI Try.prog 175 11 true := ⟨by kernel_rfl, by kernel_rfl⟩
instance : FldI Try.prog 175 0 0 12 := ⟨by kernel_rfl, by kernel_rfl⟩
instance : FldI Try.prog 175 1 1 12 := ⟨by kernel_rfl, by kernel_rfl⟩
instance : FldI Try.prog 175 2 2 147 := ⟨by kernel_rfl, by kernel_rfl⟩
instance : FldI Try.prog 175 3 3 169 := ⟨by kernel_rfl, by kernel_rfl⟩
instance : FldI Try.prog 175 4 4 5 := ⟨by kernel_rfl, by kernel_rfl⟩
instance : FldI Try.prog 175 5 5 5 := ⟨by kernel_rfl, by kernel_rfl⟩
instance : FldI Try.prog 175 6 6 170 := ⟨by kernel_rfl, by kernel_rfl⟩
instance : FldI Try.prog 175 7 7 171 := ⟨by kernel_rfl, by kernel_rfl⟩
instance : FldI Try.prog 175 8 8 172 := ⟨by kernel_rfl, by kernel_rfl⟩
instance : FldI Try.prog 175 9 9 173 := ⟨by kernel_rfl, by kernel_rfl⟩
instance : FldI Try.prog 175 10 10 174 := ⟨by kernel_rfl, by kernel_rfl⟩
instance : ZI Try.prog 175 [.int .u64 0, .int .u64 0, .int .u32 0, .int .u8 0, .int .u8 0, .int .u8 0, .int .u8 0, .raw .nilFunc, .raw (.pointer none), .int .i32 0, .int .i32 0] := ⟨by kernel_rfl⟩
instance : BdI Try.prog 175 [.int .u64 0, .int .u64 0, .int .u32 0, .int .u8 0, .int .u8 0, .int .u8 0, .int .u8 0, .raw .nilFunc, .raw (.pointer none), .int .i32 0, .int .i32 0] [(0, 1), (1, 1), (2, 1), (3, 1), (4, 1), (5, 1), (6, 1), (7, 1), (8, 1), (9, 1), (10, 1)] := ⟨by kernel_rfl⟩
instance : TyI Try.prog 176 11 true := ⟨by kernel_rfl, by kernel_rfl⟩
instance : FldI Try.prog 176 0 0 12 := ⟨by kernel_rfl, by kernel_rfl⟩
instance : FldI Try.prog 176 1 1 12 := ⟨by kernel_rfl, by kernel_rfl⟩
instance : FldI Try.prog 176 2 2 147 := ⟨by kernel_rfl, by kernel_rfl⟩
instance : FldI Try.prog 176 3 3 169 := ⟨by kernel_rfl, by kernel_rfl⟩
instance : FldI Try.prog 176 4 4 5 := ⟨by kernel_rfl, by kernel_rfl⟩
instance : FldI Try.prog 176 5 5 5 := ⟨by kernel_rfl, by kernel_rfl⟩
instance : FldI Try.prog 176 6 6 170 := ⟨by kernel_rfl, by kernel_rfl⟩
instance : FldI Try.prog 176 7 7 171 := ⟨by kernel_rfl, by kernel_rfl⟩
instance : FldI Try.prog 176 8 8 172 := ⟨by kernel_rfl, by kernel_rfl⟩
instance : FldI Try.prog 176 9 9 173 := ⟨by kernel_rfl, by kernel_rfl⟩
instance : FldI Try.prog 176 10 10 174 := ⟨by kernel_rfl, by kernel_rfl⟩
instance : ZI Try.prog 176 [.int .u64 0, .int .u64 0, .int .u32 0, .int .u8 0, .int .u8 0, .int .u8 0, .int .u8 0, .raw .nilFunc, .raw (.pointer none), .int .i32 0, .int .i32 0] := ⟨by kernel_rfl⟩
instance : BdI Try.prog 176 [.int .u64 0, .int .u64 0, .int .u32 0, .int .u8 0, .int .u8 0, .int .u8 0, .int .u8 0, .raw .nilFunc, .raw (.pointer none), .int .i32 0, .int .i32 0] [(0, 1), (1, 1), (2, 1), (3, 1), (4, 1), (5, 1), (6, 1), (7, 1), (8, 1), (9, 1), (10, 1)] := ⟨by kernel_rfl⟩
instance : TyI Try.prog 177 1 false := ⟨by kernel_rfl, by kernel_rfl⟩
instance : ZI Try.prog 177 [.raw (.pointer none)] := ⟨by kernel_rfl⟩
theorem fol : Try.prog.follows .mixedOrders = true := by kernel_rfl
theorem dOk {esc : Bool} {n : Nat} {fz : List Nat} (C : Cx) (h1 : C.P = Try.prog) (h2 : C.cfg = ⟨esc, n, fz⟩) : zfr C (zhl Try.prog ⟨esc, n, fz⟩) := by
  have := zzu (C := C) (by rw [h1]; exact fol)
  rw [h1, h2] at this; exact this
end Go.Sx
set_option linter.unusedVariables false
set_option linter.unusedSimpArgs false
namespace Go.Sx
def loc (off ld : Int) (r c p : Nat) : Option (Nat × Nat) :=
  if 0 ≤ (p : Int) - off ∧ (((p : Int) - off) % ld).toNat < r ∧ (((p : Int) - off) / ld).toNat < c then some ((((p : Int) - off) % ld).toNat, (((p : Int) - off) / ld).toNat) else none
def zah (L : List Nat) (off ld : Int) (r c : Nat) (g : Nat → Nat → Nat) : List Nat :=
  rml (fun p => match loc off ld r c p with | some q => g q.1 q.2 | none => L.getD p 0) L.length
@[simp] theorem zul (L : List Nat) (off ld : Int) (r c : Nat) (g : Nat → Nat → Nat) : (zah L off ld r c g).length = L.length := by simp [zah]
def pos (off ld : Int) (i j : Nat) : Nat := (off + (i : Int) + (j : Int) * ld).toNat
theorem zbr (l : List Nat) (off ld : Int) (i j : Nat) : mel l off ld i j = l.getD (pos off ld i j) 0 := rfl
section
variable {off ld : Int} {r c n : Nat}
theorem zfg (hG : zac n off r c ld) {i j : Nat} (hi : i < r) (hj : j < c) : loc off ld r c (pos off ld i j) = some (i, j) := by
  obtain ⟨h1, h2, h3, h4, h5, h6⟩ := id hG
  have hp := zak hG (i := (i : Int)) (j := (j : Int)) (by omega) (by omega) (by omega) (by omega)
  have e : ((pos off ld i j : Nat) : Int) - off = (i : Int) + (j : Int) * ld := by unfold pos; omega
  have e1 : ((i : Int) + (j : Int) * ld) % ld = i := by
    rw [Int.add_mul_emod_self_right]; exact Int.emod_eq_of_lt (by omega) (by omega)
  have e2 : ((i : Int) + (j : Int) * ld) / ld = j := by
    rw [Int.add_mul_ediv_right _ _ (by omega), Int.ediv_eq_zero_of_lt (by omega) (by omega)]; omega
  unfold loc
  rw [e, e1, e2]
  rw [if_pos ⟨by omega, by omega, by omega⟩]
  simp
theorem zd2 {p i j : Nat} (h4 : 1 ≤ ld) (h3 : 0 ≤ off) (h : loc off ld r c p = some (i, j)) : i < r ∧ j < c ∧ p = pos off ld i j := by
  unfold loc at h
  split at h
  · rename_i hc
    simp only [Option.some.injEq, Prod.mk.injEq] at h
    obtain ⟨rfl, rfl⟩ := h
    refine ⟨hc.2.1, hc.2.2, ?_⟩
    unfold pos
    have e1 := Int.emod_nonneg ((p : Int) - off) (show ld ≠ 0 by omega)
    have e2 := Int.ediv_nonneg hc.1 (show 0 ≤ ld by omega)
    have e3 := Int.mul_ediv_add_emod ((p : Int) - off) ld
    rw [Int.toNat_of_nonneg e1, Int.toNat_of_nonneg e2]
    have : ((p : Int) - off) / ld * ld = ld * (((p : Int) - off) / ld) := Int.mul_comm _ _
    omega
  · cases h
theorem zb2 (hG : zac n off r c ld) {i j : Nat} (hi : i < r) (hj : j < c) : pos off ld i j < n := by
  have hp := zak hG (i := (i : Int)) (j := (j : Int)) (by omega) (by omega) (by omega) (by omega)
  unfold pos; omega
theorem zc6 {L : List Nat} {g : Nat → Nat → Nat} (hG : zac L.length off r c ld) {i j : Nat} (hi : i < r) (hj : j < c) : mel (zah L off ld r c g) off ld i j = g i j := by
  rw [zbr, zah, zew (zb2 hG hi hj), zfg hG hi hj]
theorem zlf {L : List Nat} {g g' : Nat → Nat → Nat} : zah (zah L off ld r c g) off ld r c g' = zah L off ld r c g' := by
  unfold zah
  rw [zrp]
  refine zdo fun p hp => ?_
  cases h : loc off ld r c p with
  | some q => rfl
  | none => simp only; rw [zew hp, h]
theorem zam {L : List Nat} {g g' : Nat → Nat → Nat} (h4 : 1 ≤ ld) (h3 : 0 ≤ off) (h : ∀ i j, i < r → j < c → g i j = g' i j) : zah L off ld r c g = zah L off ld r c g' := by
  unfold zah
  refine zdo fun p hp => ?_
  cases hl : loc off ld r c p with
  | some q =>
    obtain ⟨i, j⟩ := q
    obtain ⟨hi, hj, _⟩ := zd2 h4 h3 hl
    exact h i j hi hj
  | none => rfl
theorem zd3 {L : List Nat} (h4 : 1 ≤ ld) (h3 : 0 ≤ off) : zah L off ld r c (mel L off ld) = L := by
  apply List.ext_getElem
  · simp
  · intro p h1 h2
    have hp : p < L.length := h2
    have := zew (g := fun p => match loc off ld r c p with | some q => mel L off ld q.1 q.2 | none => L.getD p 0) hp
    have e : (zah L off ld r c (mel L off ld)).getD p 0 = L.getD p 0 := by
      rw [zah, this]
      cases hl : loc off ld r c p with
      | some q =>
        obtain ⟨i, j⟩ := q
        obtain ⟨_, _, rfl⟩ := zd2 h4 h3 hl
        rfl
      | none => rfl
    simpa [List.getD, h1, h2] using e
def zmo (g : Nat → Nat → Nat) (i j x : Nat) : Nat → Nat → Nat := fun i' j' => if i' = i ∧ j' = j then x else g i' j'
theorem zf5 {L : List Nat} {g : Nat → Nat → Nat} (hG : zac L.length off r c ld) {i j x : Nat} (hi : i < r) (hj : j < c) : (zah L off ld r c g).set (pos off ld i j) x = zah L off ld r c (zmo g i j x) := by
  obtain ⟨h1, h2, h3, h4, h5, h6⟩ := id hG
  apply List.ext_getElem
  · simp
  · intro p k1 k2
    simp only [zul] at k2
    rw [List.getElem_set]
    have val : ∀ g : Nat → Nat → Nat, (zah L off ld r c g)[p]'(by simpa using k2) = match loc off ld r c p with | some q => g q.1 q.2 | none => L.getD p 0 := by
      intro g; simp [zah, rml]
    rw [val, val]
    split
    · rename_i hp
      subst hp
      rw [zfg hG hi hj]
      simp [zmo]
    · rename_i hp
      cases hl : loc off ld r c p with
      | some q =>
        obtain ⟨i', j'⟩ := q
        obtain ⟨hi', hj', rfl⟩ := zd2 h4 h3 hl
        simp only [zmo]
        rw [if_neg]
        rintro ⟨rfl, rfl⟩; exact hp rfl
      | none => rfl
def zbw (g g' : Nat → Nat → Nat) (i0 j0 r' c' : Nat) : Nat → Nat → Nat := fun i j => if i0 ≤ i ∧ i < i0 + r' ∧ j0 ≤ j ∧ j < j0 + c' then g' (i - i0) (j - j0) else g i j
theorem zjy {off ld : Int} {i0 j0 i j : Nat} : pos (off + ((i0 : Int) + (j0 : Int) * ld)) ld i j = pos off ld (i0 + i) (j0 + j) := by
  unfold pos
  congr 1
  have : (((j0 + j : Nat)) : Int) * ld = (j0 : Int) * ld + (j : Int) * ld := by rw [Int.natCast_add, Int.add_mul]
  rw [this]; omega
theorem zle {L : List Nat} {g' : Nat → Nat → Nat} (hG : zac L.length off r c ld) {i0 j0 r' c' : Nat} (hi : i0 + r' ≤ r) (hj : j0 + c' ≤ c) (hG' : zac L.length (off + ((i0 : Int) + (j0 : Int) * ld)) r' c' ld) :
    zah L (off + ((i0 : Int) + (j0 : Int) * ld)) ld r' c' g' = zah L off ld r c (zbw (mel L off ld) g' i0 j0 r' c') := by
  obtain ⟨h1, h2, h3, h4, h5, h6⟩ := id hG
  unfold zah
  refine zdo fun p hp => ?_
  cases hl : loc (off + ((i0 : Int) + (j0 : Int) * ld)) ld r' c' p with
  | some q =>
    obtain ⟨i, j⟩ := q
    obtain ⟨hi', hj', rfl⟩ := zd2 h4 hG'.2.2.1 hl
    rw [zjy, zfg hG (by omega) (by omega)]
    simp only [zbw]
    rw [if_pos ⟨by omega, by omega, by omega, by omega⟩]
    congr 1 <;> omega
  | none =>
    cases hl' : loc off ld r c p with
    | some q =>
      obtain ⟨i, j⟩ := q
      obtain ⟨hi', hj', rfl⟩ := zd2 h4 h3 hl'
      simp only [zbw]
      rw [if_neg]
      · rfl
      · rintro ⟨k1, k2, k3, k4⟩
        have := zfg hG' (i := i - i0) (j := j - j0) (by omega) (by omega)
        rw [zjy, show i0 + (i - i0) = i from by omega, show j0 + (j - j0) = j from by omega, hl] at this
        cases this
    | none => rfl
theorem zfz {L : List Nat} {i0 j0 i j : Nat} : mel L (off + ((i0 : Int) + (j0 : Int) * ld)) ld i j = mel L off ld (i0 + i) (j0 + j) := by
  rw [zbr, zbr, zjy]
end
end Go.Sx
