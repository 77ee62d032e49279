/- A part of the proofs of this seat: YE. No condition is set. -/
import Derived.Deep.Fields
import Derived.Deep.Slices
import Derived.Laws.FloatBits
import Derived.Laws.LoneSync
import Derived.Lib.SlicesCompact
import Derived.OpenShut
import Derived.ProofKit
import Derived.WideKeyArgs
import Derived.Test.YtdlgclpoomlijaaYD
set_option linter.unusedVariables false
set_option linter.unusedSimpArgs false
namespace Go.Sx
def ckK (f : DFl) (nY : NY) (o : Oper) (st : St) (K : St → Prop) (s : St) : Prop := ckX f nY o st s ∧ K s
section
variable {P : Program} {cfg : Cfg} {e e' : List (Nat × EV)} {L : List (Nat × List AV)} {H : List (List AV)} {Q : XE → St → Prop} {K : St → Prop}
variable {kn : Option (Nat × Bool)} {ops : Array Oper} {nY : NY} {d : Option Tmp} {o : Op} {ty : TypeId} {pos : String} {aft : Array Edge} {rest : List (Nat × DFl)} {i j : Nat} {f : DFl} {b want : Bool} {gd : Option (Nat × Bool)} {dd : Nat}
theorem zba {id : Nat} {l : List Oper} (nY ch : List Nat) (fl : List (Nat × DFl)) (hc : zxn cfg.esc cfg.fz [] l.toArray ch fl = true) (h : exD P cfg l.toArray ⟨nY, fun _ => false, []⟩ none fl (Q .normal) ⟨e, L, H⟩) (hb : zgq cfg.esc e l = true := by kernel_rfl) : Ex P cfg (zi9 P cfg) (.region id l.toArray true) Q ⟨e, L, H⟩ := by
  simp only [Ex, if_true]; exact ⟨⟨nY, fun _ => false, []⟩, ch, fl, hc, rfl, hb, h⟩
theorem zcw (h : K ⟨e, L, H⟩) : exD P cfg ops nY kn [] K ⟨e, L, H⟩ := h
theorem zyy (ho : ops[i]? = some ⟨d, o, ty, pos, aft, none⟩) (h : opX P cfg ⟨d, o, ty, pos, aft, none⟩ (ckK f nY ⟨d, o, ty, pos, aft, none⟩ ⟨e, L, H⟩ (exD P cfg ops nY none rest K)) ⟨e, L, H⟩) : exD P cfg ops nY none ((i, f) :: rest) K ⟨e, L, H⟩ := by
  unfold exD; simp only [ho]; exact h
theorem zyz (ho : ops[i]? = some ⟨d, o, ty, pos, aft, none⟩) (hj : (((ops[j]?).bind (·.dst)) == d) = false) (h : opX P cfg ⟨d, o, ty, pos, aft, none⟩ (ckK f nY ⟨d, o, ty, pos, aft, none⟩ ⟨e, L, H⟩ (exD P cfg ops nY (some (j, b)) rest K)) ⟨e, L, H⟩) :
    exD P cfg ops nY (some (j, b)) ((i, f) :: rest) K ⟨e, L, H⟩ := by
  unfold exD; simp only [ho, Option.any_some, hj]; exact h
def zbb (P : Program) (cfg : Cfg) (ops : Array Oper) (nY : NY) (f : DFl) (o : Oper) (j : Nat) (want : Bool) (t : Nat) (rest : List (Nat × DFl)) (K : St → Prop) (st : St) (v : EV) : Prop :=
  St.ev st (.tmp t) = v →
  match v.asB with
  | none => False
  | some b =>
    (b = want → opX P cfg o (ckK f nY o st (exD P cfg ops nY (some (j, want)) rest K)) ⟨upd t (.val (.bool want)) st.env, st.L, st.H⟩) ∧
    (b = !want → exD P cfg ops nY (some (j, !want)) rest K (St.put ⟨upd t (.val (.bool (!want))) st.env, st.L, st.H⟩ o.dst (.val (.tup []))))
theorem zy3 {t : Nat} (ho : ops[i]? = some ⟨d, o, ty, pos, aft, some (j, want)⟩) (ht : (ops[j]?).bind (·.dst) = some t) (hd : (d == some t) = false)
    (h : opX P cfg ⟨d, o, ty, pos, aft, some (j, want)⟩ (ckK f nY ⟨d, o, ty, pos, aft, some (j, want)⟩ ⟨e, L, H⟩ (exD P cfg ops nY (some (j, want)) rest K)) ⟨e, L, H⟩) :
    exD P cfg ops nY (some (j, want)) ((i, f) :: rest) K ⟨e, L, H⟩ := by
  have hd' : d ≠ some t := by simpa using hd
  unfold exD; simp only [ho, ht, hd', if_false, if_true]; exact h
theorem zy2 {t : Nat} (ho : ops[i]? = some ⟨some dd, o, ty, pos, aft, some (j, want)⟩) (ht : (ops[j]?).bind (·.dst) = some t) (hd : (dd == t) = false) (hb : b = !want) (h : exD P cfg ops nY (some (j, b)) rest K ⟨(dd, .val (.tup [])) :: e, L, H⟩) :
    exD P cfg ops nY (some (j, b)) ((i, f) :: rest) K ⟨e, L, H⟩ := by
  have hd' : dd ≠ t := by simpa using hd
  subst hb
  unfold exD
  have h2 : ¬ (!want) = want := by cases want <;> simp
  simp only [ho, ht, Option.some.injEq, Prod.mk.injEq, hd', h2, and_false, if_false, if_true]; exact h
theorem znp {t : Nat} {v : EV} (ho : ops[i]? = some ⟨d, o, ty, pos, aft, some (j, want)⟩) (ht : (ops[j]?).bind (·.dst) = some t) (hd : (d == some t) = false) (hk : kn ≠ some (j, want) ∧ kn ≠ some (j, !want)) (hv : St.ev ⟨e, L, H⟩ (.tmp t) = v)
    (h : zbb P cfg ops nY f ⟨d, o, ty, pos, aft, some (j, want)⟩ j want t rest K ⟨e, L, H⟩ v) : exD P cfg ops nY kn ((i, f) :: rest) K ⟨e, L, H⟩ := by
  have hd' : d ≠ some t := by simpa using hd
  subst hv
  have h' := h rfl
  unfold exD
  simp only [ho, ht, hd', hk.1, hk.2, if_false]
  cases hb : (St.ev ⟨e, L, H⟩ (.tmp t)).asB with
  | none => rw [hb] at h'; exact h'.elim
  | some b => rw [hb] at h'; exact h'
theorem zy4 {t : Nat} (ho : ops[i]? = some ⟨some dd, o, ty, pos, aft, some (j, want)⟩) (ht : (ops[j]?).bind (·.dst) = some t) (hd : (dd == t) = false) (hk : kn ≠ some (j, want) ∧ kn ≠ some (j, !want)) (hv : St.ev ⟨e, L, H⟩ (.tmp t) = .val (.tup [])) (hn : kn.any (fun p => ((ops[p.1]?).bind (·.dst)) == some dd) = false)
    (h : exD P cfg ops nY kn rest K ⟨(dd, .val (.tup [])) :: e, L, H⟩) : exD P cfg ops nY kn ((i, f) :: rest) K ⟨e, L, H⟩ := by
  have hd' : dd ≠ t := by simpa using hd
  unfold exD
  simp only [ho, ht, Option.some.injEq, hd', if_false, hk.1, hk.2, hv, EV.asB, EV.isU, if_true, hn, Bool.false_eq_true]
  exact h
theorem zy0 {t : Nat} {v : EV} (ho : ops[i]? = some ⟨d, o, ty, pos, aft, some (j, want)⟩) (ht : (ops[j]?).bind (·.dst) = some t) (hd : (d == some t) = false) (hv : St.ev ⟨e, L, H⟩ (.tmp t) = v)
    (h : zbb P cfg ops nY f ⟨d, o, ty, pos, aft, some (j, want)⟩ j want t rest K ⟨e, L, H⟩ v) : exD P cfg ops nY none ((i, f) :: rest) K ⟨e, L, H⟩ := znp ho ht hd ⟨by simp, by simp⟩ hv h
theorem zy1 {t j' : Nat} {b' : Bool} {v : EV} (ho : ops[i]? = some ⟨d, o, ty, pos, aft, some (j, want)⟩) (ht : (ops[j]?).bind (·.dst) = some t) (hd : (d == some t) = false) (hj : (j' == j) = false) (hv : St.ev ⟨e, L, H⟩ (.tmp t) = v)
    (h : zbb P cfg ops nY f ⟨d, o, ty, pos, aft, some (j, want)⟩ j want t rest K ⟨e, L, H⟩ v) : exD P cfg ops nY (some (j', b')) ((i, f) :: rest) K ⟨e, L, H⟩ := by
  have hj' : j' ≠ j := by simpa using hj
  exact znp ho ht hd ⟨by simp [hj'], by simp [hj']⟩ hv h
theorem zb2 {t : Nat} (h : opX P cfg ⟨d, o, ty, pos, aft, gd⟩ (ckK f nY ⟨d, o, ty, pos, aft, gd⟩ ⟨e, L, H⟩ (exD P cfg ops nY (some (j, true)) rest K)) ⟨e, L, H⟩) : zbb P cfg ops nY f ⟨d, o, ty, pos, aft, gd⟩ j true t rest K ⟨e, L, H⟩ (.val (.bool true)) :=
  fun hv => ⟨fun _ => by dsimp only; rw [upd_same (zh2 hv)]; exact h, (fun h => Bool.noConfusion h)⟩
theorem zbx {t : Nat} (h : opX P cfg ⟨d, o, ty, pos, aft, gd⟩ (ckK f nY ⟨d, o, ty, pos, aft, gd⟩ ⟨e, L, H⟩ (exD P cfg ops nY (some (j, false)) rest K)) ⟨e, L, H⟩) : zbb P cfg ops nY f ⟨d, o, ty, pos, aft, gd⟩ j false t rest K ⟨e, L, H⟩ (.val (.bool false)) :=
  fun hv => ⟨fun _ => by dsimp only; rw [upd_same (zh2 hv)]; exact h, (fun h => Bool.noConfusion h)⟩
theorem zb1 {t : Nat} (h : exD P cfg ops nY (some (j, true)) rest K ⟨(dd, .val (.tup [])) :: e, L, H⟩) : zbb P cfg ops nY f ⟨some dd, o, ty, pos, aft, gd⟩ j false t rest K ⟨e, L, H⟩ (.val (.bool true)) :=
  fun hv => ⟨(fun h => Bool.noConfusion h), fun _ => by simp only [Bool.not_false]; rw [upd_same (zh2 hv)]; exact h⟩
theorem zby {t : Nat} (h : exD P cfg ops nY (some (j, false)) rest K ⟨(dd, .val (.tup [])) :: e, L, H⟩) : zbb P cfg ops nY f ⟨some dd, o, ty, pos, aft, gd⟩ j true t rest K ⟨e, L, H⟩ (.val (.bool false)) :=
  fun hv => ⟨(fun h => Bool.noConfusion h), fun _ => by simp only [Bool.not_true]; rw [upd_same (zh2 hv)]; exact h⟩
theorem zb0 {t : Nat} {p : Prop} [Decidable p] (h1 : p → opX P cfg ⟨some dd, o, ty, pos, aft, gd⟩ (ckK f nY ⟨some dd, o, ty, pos, aft, gd⟩ ⟨e, L, H⟩ (exD P cfg ops nY (some (j, true)) rest K)) ⟨upd t (.val (.bool true)) e, L, H⟩)
    (h2 : ¬ p → exD P cfg ops nY (some (j, false)) rest K ⟨(dd, .val (.tup [])) :: upd t (.val (.bool false)) e, L, H⟩) :
    zbb P cfg ops nY f ⟨some dd, o, ty, pos, aft, gd⟩ j true t rest K ⟨e, L, H⟩ (.val (.bool (decide p))) :=
  fun _ => ⟨fun h => h1 (of_decide_eq_true h), fun h => h2 (of_decide_eq_false h)⟩
theorem zbz {t : Nat} {p : Prop} [Decidable p] (h1 : ¬ p → opX P cfg ⟨some dd, o, ty, pos, aft, gd⟩ (ckK f nY ⟨some dd, o, ty, pos, aft, gd⟩ ⟨e, L, H⟩ (exD P cfg ops nY (some (j, false)) rest K)) ⟨upd t (.val (.bool false)) e, L, H⟩)
    (h2 : p → exD P cfg ops nY (some (j, true)) rest K ⟨(dd, .val (.tup [])) :: upd t (.val (.bool true)) e, L, H⟩) :
    zbb P cfg ops nY f ⟨some dd, o, ty, pos, aft, gd⟩ j false t rest K ⟨e, L, H⟩ (.val (.bool (decide p))) :=
  fun _ => ⟨fun h => h1 (of_decide_eq_false h), fun h => h2 (of_decide_eq_true h)⟩
theorem zbw {t : Nat} {b : Bool} (h1 : b = true → opX P cfg ⟨some dd, o, ty, pos, aft, gd⟩ (ckK f nY ⟨some dd, o, ty, pos, aft, gd⟩ ⟨e, L, H⟩ (exD P cfg ops nY (some (j, true)) rest K)) ⟨upd t (.val (.bool true)) e, L, H⟩)
    (h2 : b = false → exD P cfg ops nY (some (j, false)) rest K ⟨(dd, .val (.tup [])) :: upd t (.val (.bool false)) e, L, H⟩) :
    zbb P cfg ops nY f ⟨some dd, o, ty, pos, aft, gd⟩ j true t rest K ⟨e, L, H⟩ (.val (.bool b)) := fun _ => ⟨h1, h2⟩
theorem zbv {t : Nat} {b : Bool} (h1 : b = false → opX P cfg ⟨some dd, o, ty, pos, aft, gd⟩ (ckK f nY ⟨some dd, o, ty, pos, aft, gd⟩ ⟨e, L, H⟩ (exD P cfg ops nY (some (j, false)) rest K)) ⟨upd t (.val (.bool false)) e, L, H⟩)
    (h2 : b = true → exD P cfg ops nY (some (j, true)) rest K ⟨(dd, .val (.tup [])) :: upd t (.val (.bool true)) e, L, H⟩) :
    zbb P cfg ops nY f ⟨some dd, o, ty, pos, aft, gd⟩ j false t rest K ⟨e, L, H⟩ (.val (.bool b)) := fun _ => ⟨h1, h2⟩
theorem zgb {o : Oper} {st s : St} (h : K s) : ckK .lt nY o st K s := ⟨trivial, h⟩
def zw5 (nY : NY) (hl : Bool) : EV → Bool
  | .loc k _ => !nY.ks.contains k
  | .val (.eptr (.slm id _ _ _ _) _) => hl || nY.W id
  | _ => true
theorem k_ld {hl : Bool} {t : TypeId} {x : Operand} {st s : St} {v : EV} (hv : St.ev st x = v) (hk : zw5 nY hl v = true) (h : K s) : ckK (.ld hl) nY ⟨d, .load t x, ty, pos, aft, gd⟩ st K s := by
  refine ⟨?_, h⟩
  subst hv
  simp only [ckX]
  unfold zw5 at hk
  split at hk <;> split <;> first
    | trivial
    | simp_all; done
    | (rename_i hne _ _ _ _ _ _ _ he; exact absurd rfl (hne _ _ _ _ _ _ |> fun h => by simp_all))
    | (exfalso; simp_all; rename_i hne; exact hne _ _ _ _ _ _ rfl rfl rfl rfl rfl rfl)
    | (exfalso; simp_all; rename_i hne _; exact hne _ _ _ _ _ _ rfl rfl rfl rfl rfl rfl)
theorem zxw {hl : Bool} {op : BinOp} {t t' : TypeId} {x y : Operand} {st s : St} {v : EV} (hv : St.ev st x = v) (hk : (hl || !zw3 v) = true) (h : K s) : ckK (.ld hl) nY ⟨d, .binOp op t x y t', ty, pos, aft, gd⟩ st K s := by
  refine ⟨?_, h⟩
  subst hv
  have : zw3 (st.ev x) = true → hl = true := by intro h'; rw [h'] at hk; simpa using hk
  cases op <;> simp only [ckX] <;> first | trivial | exact this
theorem zgc {q : Bool} {o : Oper} (h : K ⟨e', L, H⟩) : ckK (.mn q) nY o ⟨e, L, H⟩ K ⟨e', L, H⟩ := ⟨⟨fun _ _ => rfl, fun _ _ _ => rfl⟩, h⟩
theorem zxy {q : Bool} {o : Oper} {N : List (List AV)} (h : K ⟨e', L, H ++ N⟩) : ckK (.mn q) nY o ⟨e, L, H⟩ K ⟨e', L, H ++ N⟩ := ⟨⟨fun _ _ => rfl, fun id _ hid => List.getElem?_append_left hid⟩, h⟩
theorem zcz {o : Oper} {H' : List (List AV)} (h : K ⟨e', L, H'⟩) (hW : ∀ id, nY.W id = false := by intro _; rfl) : ckK (.mn false) nY o ⟨e, L, H⟩ K ⟨e', L, H'⟩ := ⟨⟨fun _ _ => rfl, fun id h => by rw [hW id] at h; simp at h⟩, h⟩
theorem zdr {q : Bool} {o : Oper} {k : Nat} {cs : List AV} (hk : nY.ks.contains k = true) (h : K ⟨e', (k, cs) :: L, H⟩) (hw : lk nY.kw k = none := by rfl) : ckK (.mn q) nY o ⟨e, L, H⟩ K ⟨e', (k, cs) :: L, H⟩ := by
  refine ⟨⟨fun k' hk' => ?_, fun _ _ _ => rfl⟩, h⟩
  have : k ≠ k' := fun hh => by
    subst hh
    rcases hk' with h' | h'
    · exact h' (by simpa using hk)
    · rw [hw] at h'; cases h'
  simp only [lk, this, if_false]
theorem zib {o : Oper} {k : Nat} {cs : List AV} (h : K ⟨e', (k, cs) :: L, H⟩) : ckK (.ms k) nY o ⟨e, L, H⟩ K ⟨e', (k, cs) :: L, H⟩ := by
  refine ⟨⟨fun k' hk' _ => ?_, rfl⟩, h⟩
  have : k ≠ k' := fun hh => hk' hh.symm
  simp only [lk, this, if_false]
theorem zia {t : TypeId} {x : Operand} {k off : Nat} {st s : St} (hv : St.ev st x = .loc k off) (h : K s) : ckK (.lb k) nY ⟨d, .load t x, ty, pos, aft, gd⟩ st K s := by
  refine ⟨?_, h⟩
  simp only [ckX, hv]
theorem zh9 {o : Oper} {st s : St} (h : K s) : ckK .fz nY o st K s := ⟨trivial, h⟩
theorem zh8 {o : Oper} {dd : Nat} {st s : St} (hd : o.dst = some dd) (hk : nY.ks.contains dd = true) (h : K s) (hw : lk nY.kw dd = none := by rfl) : ckK .bx nY o st K s := by
  refine ⟨fun d hh => ?_, h⟩
  rw [hd] at hh; simp only [Option.some.injEq] at hh; subst hh
  exact ⟨by simpa using hk, hw⟩
theorem zxb {x : Operand} {n : Nat} {vs : List AV} {v : AV} (hx : St.ev ⟨e, L, H⟩ x = .val (.tup vs)) (hv : vs[n]? = some v) (h : K ⟨(dd, .val v) :: e, L, H⟩) : opX P cfg ⟨some dd, .extract x n, ty, pos, aft, gd⟩ K ⟨e, L, H⟩ := by
  rw [zbs P cfg e L H K _ _ _ _ _ _ rfl]
  simp only [zak, hx, hv, Option.map_some]
  exact ⟨trivial, h⟩
theorem zxg {t : TypeId} {x v : Operand} {key off n : Nat} {a : Bool} {cs vs cs' : List AV} [ti : TyI P t n a] {ev : EV} (hx : St.ev ⟨e, L, H⟩ x = .loc key off) (hv : St.ev ⟨e, L, H⟩ v = ev) (hvs : ev.asV.bind AV.cells = some vs) (hn : vs.length = n) (hc : lk L key = some cs)
    (hle : off + vs.length ≤ cs.length) (hcs : sc cs off vs = cs') (h : K ⟨e, (key, cs') :: L, H⟩) : opX P cfg ⟨none, .store t x v, ty, pos, aft, gd⟩ K ⟨e, L, H⟩ := by
  subst hv hcs
  simp only [opX, opE, hvs, ti.sz, hn, hx, zef, hc]
  exact ⟨trivial, trivial, by rw [← hn]; exact hle, h⟩
theorem zu1 {t : TypeId} {x v : Operand} {id gen o' len sz off n : Nat} {a : Bool} {cs vs cs' : List AV} [ti : TyI P t n a] {ev : EV} (hx : St.ev ⟨e, L, H⟩ x = .val (.eptr (.slm id gen o' len sz) off)) (hv : St.ev ⟨e, L, H⟩ v = ev) (hvs : ev.asV.bind AV.cells = some vs) (hn : vs.length = n) (hc : H[id]? = some cs)
    (hg : cs.length = gen) (hle : o' + off + vs.length ≤ cs.length) (hm : cfg.n0 ≤ id ∨ mxL vs ≤ cfg.n0) (hcs : sc cs (o' + off) vs = cs') (h : K ⟨e, L, H.set id cs'⟩) : opX P cfg ⟨none, .store t x v, ty, pos, aft, gd⟩ K ⟨e, L, H⟩ := by
  subst hv hcs
  simp only [opX, opE, hvs, ti.sz, hn, hx, zef, hc]
  exact ⟨trivial, trivial, hg, by rw [← hn]; exact hle, hm, h⟩
theorem v_q {x y : Int} (hx : 0 ≤ x ∧ x ≤ 9223372036854775807) (hy : 1 ≤ y) (h : K ⟨(dd, .val (.int .i64 (x / y))) :: e, L, H⟩) : zcd dd K ⟨e, L, H⟩ (some (True, .int .i64 (IntKind.i64.wrap (x.tdiv y)))) := by
  have h1 : x.tdiv y = x / y := Int.tdiv_eq_ediv_of_nonneg hx.1
  have h2 : 0 ≤ x / y := Int.ediv_nonneg hx.1 (by omega)
  have h3 : x / y ≤ x := Int.ediv_le_self _ hx.1
  rw [h1]
  exact v_w (by omega) h
theorem zbu {x : Operand} {t : TypeId} {el z : Nat} [si : SlI P t el z] {s : AV} {n : Nat} (hx : St.ev ⟨e, L, H⟩ x = .val s) (hs : slen s = some n) (h : K ⟨(dd, .val (.int .i64 n)) :: e, L, H⟩) :
    opX P cfg ⟨some dd, .call { callee := .builtin .len, args := #[x], argTypes := #[t] }, ty, pos, aft, gd⟩ K ⟨e, L, H⟩ := zxc (t := t) rfl hx hs h
theorem zms {ρ : Operand → EV} {x : Operand} {xs : List Operand} {v : AV} {vs : List AV} (h : ρ x = .val v) (hr : zez ρ xs = some vs) : zez ρ (x :: xs) = some (v :: vs) := by
  unfold zez at hr ⊢
  have h' : (ρ x).asV = some v := by rw [h]; rfl
  simp only [List.map_cons, List.mapM_cons, h', id_eq, hr]; rfl
theorem zsd {id : Nat} {args : Array Operand} {ts : Array TypeId} {vs : List AV} (ha : zez (St.ev ⟨e, L, H⟩) args.toList = some vs) {r : AV} {H' : List (List AV)}
    (hs : zab P id vs H r H') (ho : zb7 cfg.n0 H H') (h : K ⟨(dd, .val r) :: e, L, H'⟩) :
    opX P cfg ⟨some dd, .call { callee := .value (.func id), args := args, argTypes := ts }, ty, pos, aft, gd⟩ K ⟨e, L, H⟩ := b_call ha rfl hs ho h
theorem zzg {x y : Int} (hp : x = y) (h : K ⟨(dd, .val (.bool true)) :: e, L, H⟩) : zcd dd K ⟨e, L, H⟩ (some (True, .bool (x == y))) := by
  have : (x == y) = true := by simpa using hp
  rw [this]; exact ⟨trivial, h⟩
theorem zzf {x y : Int} (hp : x ≠ y) (h : K ⟨(dd, .val (.bool false)) :: e, L, H⟩) : zcd dd K ⟨e, L, H⟩ (some (True, .bool (x == y))) := by
  have : (x == y) = false := by simpa using hp
  rw [this]; exact ⟨trivial, h⟩
theorem ze3 {x y : Int} (h : K ⟨(dd, .val (.bool (decide (x = y)))) :: e, L, H⟩) : zcd dd K ⟨e, L, H⟩ (some (True, .bool (x == y))) := ⟨trivial, h⟩
theorem zya {x y : Int} (hp : x ≠ y) (h : K ⟨(dd, .val (.bool true)) :: e, L, H⟩) : zcd dd K ⟨e, L, H⟩ (some (True, .bool (x != y))) := by
  have : (x != y) = true := by simpa using hp
  rw [this]; exact ⟨trivial, h⟩
theorem zx9 {x y : Int} (hp : x = y) (h : K ⟨(dd, .val (.bool false)) :: e, L, H⟩) : zcd dd K ⟨e, L, H⟩ (some (True, .bool (x != y))) := by
  have : (x != y) = false := by simpa using hp
  rw [this]; exact ⟨trivial, h⟩
theorem zcb {x y : Int} (h : K ⟨(dd, .val (.bool (decide (x ≠ y)))) :: e, L, H⟩) : zcd dd K ⟨e, L, H⟩ (some (True, .bool (x != y))) := by
  have : (x != y) = decide (x ≠ y) := by simp only [bne, ne_eq, decide_not]; rfl
  rw [this]; exact ⟨trivial, h⟩
theorem rtF {p : Prop} [Decidable p] (h : ¬ p) : aOf (.bool false) = .bool (decide p) := by rw [decide_eq_false h]; rfl
theorem rtT {p : Prop} [Decidable p] (h : p) : aOf (.bool true) = .bool (decide p) := by rw [decide_eq_true h]; rfl
theorem rvF {p : Prop} [Decidable p] (h : ¬ p) : AV.bool false = .bool (decide p) := by rw [decide_eq_false h]
theorem rvT {p : Prop} [Decidable p] (h : p) : AV.bool true = .bool (decide p) := by rw [decide_eq_true h]
theorem rvP {p q : Prop} [Decidable p] [Decidable q] (h : q ↔ p) : AV.bool (decide q) = .bool (decide p) := by rw [decide_eq_decide.2 h]
end
theorem zus {P : Program} {cfg : Cfg} {e : List (Nat × EV)} {L : List (Nat × List AV)} {H : List (List AV)} {K : St → Prop} {dd : Nat} {ty : TypeId} {pos : String} {aft : Array Edge} {gd : Option (Nat × Bool)} {t el : TypeId} {x : Operand} {z : Nat} [si : SlI P t el z] {s : AV} {len : Nat} (hx : St.ev ⟨e, L, H⟩ x = .val s) (hl : slen s = some len) (hi : 0 < len)
    (h : K ⟨(dd, .val (.eptr s 0)) :: e, L, H⟩) : opX P cfg ⟨some dd, .indexAddr t x (.const (.int .i64 0)), ty, pos, aft, gd⟩ K ⟨e, L, H⟩ :=
  zsh hx rfl hl (i := 0) rfl hi (by simpa using h)
def zcs (P : Program) (cfg : Cfg) (id : Nat) (vs : List AV) (dd : Nat) (K : St → Prop) (st : St) : Prop := ∃ r H', zab P id vs st.H r H' ∧ zb7 cfg.n0 st.H H' ∧ K ⟨(dd, .val r) :: st.env, st.L, H'⟩
def ze5 (P : Program) (cfg : Cfg) (id : Nat) (xs : List Operand) (acc : List AV) (dd : Nat) (K : St → Prop) (st : St) : Prop := ∃ vs, zez st.ev xs = some vs ∧ zcs P cfg id (acc ++ vs) dd K st
theorem zar {P : Program} {cfg : Cfg} {e : List (Nat × EV)} {L : List (Nat × List AV)} {H : List (List AV)} {K : St → Prop} {dd : Nat} {ty : TypeId} {pos : String} {aft : Array Edge} {gd : Option (Nat × Bool)} {id : Nat} {args : Array Operand} {ts : Array TypeId}
    (h : ze5 P cfg id args.toList [] dd K ⟨e, L, H⟩) : opX P cfg ⟨some dd, .call { callee := .value (.func id), args := args, argTypes := ts }, ty, pos, aft, gd⟩ K ⟨e, L, H⟩ := by
  obtain ⟨vs, ha, r, H', h1, h2, h3⟩ := h
  exact zsd ha (by simpa using h1) h2 h3
theorem zbi {P : Program} {cfg : Cfg} {e : List (Nat × EV)} {L : List (Nat × List AV)} {H : List (List AV)} {K : St → Prop} {dd id : Nat} {acc : List AV} (h : zcs P cfg id acc dd K ⟨e, L, H⟩) : ze5 P cfg id [] acc dd K ⟨e, L, H⟩ := ⟨[], rfl, by simpa using h⟩
theorem zmr {P : Program} {cfg : Cfg} {e : List (Nat × EV)} {L : List (Nat × List AV)} {H : List (List AV)} {K : St → Prop} {dd id : Nat} {acc : List AV} {x : Operand} {xs : List Operand} {v : AV} (hv : St.ev ⟨e, L, H⟩ x = .val v) (h : ze5 P cfg id xs (acc ++ [v]) dd K ⟨e, L, H⟩) :
    ze5 P cfg id (x :: xs) acc dd K ⟨e, L, H⟩ := by
  obtain ⟨vs, ha, hc⟩ := h
  exact ⟨v :: vs, zms hv ha, by simpa using hc⟩
theorem c_call {P : Program} {cfg : Cfg} {e : List (Nat × EV)} {L : List (Nat × List AV)} {H H' : List (List AV)} {K : St → Prop} {dd id : Nat} {vs : List AV} {r : AV}
    (hs : zab P id vs H r H') (ho : zb7 cfg.n0 H H') (h : K ⟨(dd, .val r) :: e, L, H'⟩) : zcs P cfg id vs dd K ⟨e, L, H⟩ := ⟨r, H', hs, ho, h⟩
def lpX (K : St → Prop) (Q : XE → St → Prop) : XE → St → Prop := fun e s => match e with | .normal => K s | e => Q e s
def prK (ks : List Nat) (K : St → Prop) (st : St) : Prop := K (prune ks st)
section
variable {P : Program} {cfg : Cfg} {dr : Array Oper → (St → Prop) → St → Prop} {e : List (Nat × EV)} {L : List (Nat × List AV)} {H : List (List AV)} {Q : XE → St → Prop} {K : St → Prop}
theorem zb3 (ks : List Nat) (N : Nat) (S : Nat → St) {c : Code} (h0 : prune ks ⟨e, L, H⟩ = S 0)
    (hs : ∀ k, k < N → ∀ K : St → Prop, K (S (k + 1)) → Ex P cfg dr c (lpX (prK ks K) Q) (S k))
    (hx : ∀ K : St → Prop, Ex P cfg dr c (lpX (prK ks K) Q) (S N)) : Ex P cfg dr (.loop c) Q ⟨e, L, H⟩ := by
  show ∃ ks n, ze2 (Ex P cfg dr c) ks Q n (prune ks ⟨e, L, H⟩)
  refine ⟨ks, N + 1, ?_⟩
  rw [h0]
  have key : ∀ m k, k + m = N → ze2 (Ex P cfg dr c) ks Q (m + 1) (S k) := by
    intro m
    induction m with
    | zero => intro k hk; rw [Nat.add_zero] at hk; subst hk; exact hx (ze2 (Ex P cfg dr c) ks Q 0)
    | succ m ih => intro k hk; exact hs k (by omega) (ze2 (Ex P cfg dr c) ks Q (m + 1)) (ih (k + 1) (by omega))
  exact key N 0 (by omega)
theorem zkg (h : K ⟨e, L, H⟩) : lpX K Q .normal ⟨e, L, H⟩ := h
theorem zkh (h : Q .ret ⟨e, L, H⟩) : lpX K Q .ret ⟨e, L, H⟩ := h
theorem zkf {i : Nat} (h : Q (.exit i) ⟨e, L, H⟩) : lpX K Q (.exit i) ⟨e, L, H⟩ := h
theorem zkk {ks : List Nat} {s : St} (hp : prune ks ⟨e, L, H⟩ = s) (h : K s) : prK ks K ⟨e, L, H⟩ := by subst hp; exact h
end
class UI (P : Program) (t : TypeId) (d : outParam TypeDesc) : Prop where
  h : P.underlying t = some d
def fl (l : List Nat) : List AV := l.map .flt
def il (l : List Int) : List AV := l.map (.int .i64)
@[simp] theorem zjb (l : List Nat) : (fl l).length = l.length := by simp [fl]
@[simp] theorem zeu (l : List Int) : (il l).length = l.length := by simp [il]
theorem znh {l : List Nat} {k : Nat} (h : k < l.length) : (fl l)[k]? = some (.flt (l.getD k 0)) := by simp [fl, h]
theorem zjh {l : List Int} {k : Nat} (h : k < l.length) : (il l)[k]? = some (.int .i64 (l.getD k 0)) := by simp [il, h]
theorem zrj (l m : List Nat) : fl l ++ fl m = fl (l ++ m) := by simp [fl]
theorem zrm (l m : List Int) : il l ++ il m = il (l ++ m) := by simp [il]
theorem zrl (l : List Nat) (k x : Nat) : (fl l).set k (.flt x) = fl (l.set k x) := by simp [fl, List.map_set]
theorem zrz (cs : List AV) (off : Nat) (v : AV) : sc cs off [v] = cs.set off v := rfl
theorem zjd {cs : List AV} {k : Nat} {c : AV} (h : cs[k]? = some c) : gc cs k 1 = some [c] := by simp [gc, h]
theorem zcl : ∀ (l : List Nat), mxL (fl l) = 0
  | [] => rfl
  | x :: l => by
    have := zcl l
    simp only [fl, List.map_cons, mxL, mx] at this ⊢
    rw [this]; rfl
theorem zgt : ∀ (cs : List AV) (o n : Nat), o + n ≤ cs.length → gc cs o n = some ((cs.drop o).take n)
  | cs, o, 0, _ => by simp [gc]
  | cs, o, n + 1, h => by
    have hlt : o < cs.length := by omega
    simp only [gc]
    rw [List.getElem?_eq_getElem hlt]
    simp only [Option.bind_some]
    rw [zgt cs (o + 1) n (by omega)]
    simp only [Option.map_some, Option.some.injEq]
    rw [List.drop_eq_getElem_cons hlt, List.take_succ_cons]
theorem zfc (cs : List AV) {n : Nat} (h : n = cs.length) : gc cs 0 n = some cs := by
  subst h
  rw [zgt cs 0 _ (by omega)]
  simp
structure FL (H : List (List AV)) (D : AV) (l : List Nat) : Prop where
  len : slen D = some l.length
  all : D ≠ .slnil → zb4 H D 0 l.length = some (fl l)
  one : ∀ id g o n z, D = .slm id g o n z → z = 1
  mx : Sx.mx D ≤ H.length
theorem FL.nil (H : List (List AV)) : FL H .slnil [] := ⟨rfl, fun h => absurd rfl h, by simp, by simp [Sx.mx]⟩
theorem FL.fz (H : List (List AV)) (tag : Option (Nat × Nat)) (l : List Nat) : FL H (.sl tag l.length (fl l)) l :=
  ⟨rfl, fun _ => by simp only [zb4]; exact zfc _ (by simp), by simp, by simp only [Sx.mx, zcl]; exact Nat.zero_le _⟩
theorem FL.slm {H : List (List AV)} {id off n g : Nat} {l m : List Nat} (h : H[id]? = some (fl m)) (hg : g = m.length) (hn : off + n ≤ m.length) (hl : l = (m.drop off).take n) : FL H (.slm id g off n 1) l := by
  subst hl hg
  have e : ((m.drop off).take n).length = n := by simp; omega
  refine ⟨by simp [slen, e], fun _ => ?_, by simp; omega, (List.getElem?_eq_some_iff.1 h).1⟩
  simp only [zb4, h, Option.bind_some, zjb, if_true, e, Nat.add_zero]
  rw [zgt _ _ _ (by simpa using hn)]
  simp [fl, List.map_drop, List.map_take]
theorem FL.app {H : List (List AV)} {D : AV} {l : List Nat} (h : FL H D l) (N : List (List AV)) : FL (H ++ N) D l := by
  refine ⟨h.len, fun hD => ?_, h.one, Nat.le_trans h.mx (by simp)⟩
  have h1 := h.all hD
  cases D <;> simp only [zb4] at h1 ⊢ <;> try exact h1
  rename_i id gen o len sz
  cases hi : H[id]? with
  | none => rw [hi] at h1; simp at h1
  | some cs =>
    rw [hi] at h1
    rw [List.getElem?_append_left (List.getElem?_eq_some_iff.1 hi).1, hi]; exact h1
theorem zk5 {cs : List AV} {o n : Nat} {l : List AV} (h : gc cs o n = some l) {k : Nat} {c : AV} (hk : l[k]? = some c) : gc cs (o + k) 1 = some [c] := by
  obtain ⟨h1, h2⟩ := zdz h
  have hlt := (List.getElem?_eq_some_iff.1 hk).1
  exact zjd (by rw [← h2 k (by omega)]; exact hk)
theorem FL.rd {H : List (List AV)} {D : AV} {l : List Nat} (h : FL H D l) {k : Nat} (hk : k < l.length) : zb4 H D k 1 = some [.flt (l.getD k 0)] := by
  have hD : D ≠ .slnil := by rintro rfl; have := h.len; simp [slen] at this; omega
  have h1 := h.all hD
  cases D <;> simp only [zb4, reduceCtorEq] at h1 ⊢
  · have := zk5 h1 (znh hk); simpa using this
  · rename_i id gen o len sz
    cases hi : H[id]? with
    | none => rw [hi] at h1; simp at h1
    | some cs =>
      rw [hi] at h1
      simp only [Option.bind_some] at h1 ⊢
      split at h1
      · rename_i hg; rw [if_pos hg]
        have := zk5 h1 (znh hk); simpa using this
      · simp at h1
section
variable {A N : List (List AV)} {n j : Nat}
theorem zau (hA : A.length = n) {cs : List AV} (hj : N[j]? = some cs) : (A ++ N)[n + j]? = some cs := by
  subst hA; rw [List.getElem?_append_right (by omega)]; simpa using hj
theorem zdj {i : Nat} {cs : List AV} (h : A[i]? = some cs) : (A ++ N)[i]? = some cs := by
  rw [List.getElem?_append_left (List.getElem?_eq_some_iff.1 h).1]; exact h
theorem zet (hA : A.length = n) {cs : List AV} {N' : List (List AV)} (hN : N.set j cs = N') : (A ++ N).set (n + j) cs = A ++ N' := by
  subst hA hN; rw [List.set_append_right _ _ (by omega)]; simp
theorem zdk {i : Nat} {cs : List AV} (h : i < A.length) : (A ++ N).set i cs = A.set i cs ++ N := by rw [List.set_append_left _ _ h]
end
section
variable {P : Program} {cfg : Cfg} {dr : Array Oper → (St → Prop) → St → Prop} {e : List (Nat × EV)} {L : List (Nat × List AV)} {H : List (List AV)} {Q : XE → St → Prop} {K : St → Prop}
variable {kn : Option (Nat × Bool)} {ops : Array Oper} {d : Option Tmp} {o : Op} {ty : TypeId} {pos : String} {aft : Array Edge} {rest : List Oper} {j : Nat} {b want : Bool} {gd : Option (Nat × Bool)} {dd : Nat}
def gK (xs : List Operand) (acc : List AV) (k : List AV → Prop) (st : St) : Prop := ∃ vs, zez st.ev xs = some vs ∧ k (acc ++ vs)
theorem zfx {acc : List AV} {k : List AV → Prop} (h : k acc) : gK [] acc k ⟨e, L, H⟩ := ⟨[], rfl, by simpa using h⟩
theorem znl {acc : List AV} {k : List AV → Prop} {x : Operand} {xs : List Operand} {v : AV} (hv : St.ev ⟨e, L, H⟩ x = .val v) (h : gK xs (acc ++ [v]) k ⟨e, L, H⟩) : gK (x :: xs) acc k ⟨e, L, H⟩ := by
  obtain ⟨vs, ha, hc⟩ := h
  exact ⟨v :: vs, zms hv ha, by simpa using hc⟩
theorem zxe {t : TypeId} {l c : Operand} {s by_ : Nat} {zc cs : List AV} [ei : EI P t s by_ zc] {k k' : IntKind} {n : Int} {m : Nat} (hl : St.ev ⟨e, L, H⟩ l = .val (.int k n)) (hc : St.ev ⟨e, L, H⟩ c = .val (.int k' n)) (hn : n = (m : Int)) (hm : m ≤ 2 ^ 32)
    (hz : ziw m zc = cs) (hs : (decide (by_ ≤ 2 ^ 10) && zc.length == s && decide (0 < s)) = true) (h : K ⟨(dd, .val (.slm H.length cs.length 0 m s)) :: e, L, H ++ [cs]⟩) :
    opX P cfg ⟨some dd, .makeSlice t l c, ty, pos, aft, gd⟩ K ⟨e, L, H⟩ := by
  subst hz hn
  simp only [Bool.and_eq_true, decide_eq_true_eq, beq_iff_eq] at hs
  simp only [opX, opE, ei.h, hl, hc, EV.asI, Int.toNat_natCast]
  exact ⟨trivial, by omega, by omega, hs.1.1, hs.1.2, hs.2, h⟩
theorem zuv {t : TypeId} {l c : Operand} [ei : EI P t 1 8 [.flt 0]] {A N N' : List (List AV)} {n₀ i : Nat} {k k' : IntKind} {n : Int} {m : Nat} (hl : St.ev ⟨e, L, A ++ N⟩ l = .val (.int k n)) (hc : St.ev ⟨e, L, A ++ N⟩ c = .val (.int k' n)) (hA : A.length = n₀) (hi : N.length = i) (hN : N ++ [fl (List.replicate m 0)] = N')
    (hn : n = (m : Int)) (hm : m ≤ 2 ^ 32) (h : K ⟨(dd, .val (.slm (n₀ + i) m 0 m 1)) :: e, L, A ++ N'⟩) :
    opX P cfg ⟨some dd, .makeSlice t l c, ty, pos, aft, gd⟩ K ⟨e, L, A ++ N⟩ := by
  subst hN hi hA
  refine zxe (cs := fl (List.replicate m 0)) hl hc hn hm (by simp [ziw, fl]) rfl ?_
  simpa [List.append_assoc] using h
def zqc : AV → Bool
  | .agg _ | .junk | .tup _ => false
  | .raw v => v.oneCell'
  | _ => true
theorem zme {v : AV} (h : zqc v = true) : v.cells = some [v] := by
  cases v <;> simp_all [zqc, AV.cells]
theorem zt1 {v z : AV} {vs cs zs : List AV} {k : Nat} (hk : vs.length = k) : sc (vs ++ z :: zs) k [v] = (vs ++ [v]) ++ zs := by
  subst hk; simp [sc]
theorem zk4 {z : AV} : ∀ (vs : List AV) (done : List AV) (k : Nat) (ps : List (Nat × Option AV)), k = done.length → ps.map (·.1) = List.range' k vs.length → ps.map (·.2) = vs.map some → (∀ v ∈ vs, zqc v = true) →
    zct (fun i => some (i * 1, 1)) (done ++ List.replicate vs.length z) ps = some (done ++ vs)
  | [], done, k, ps, _, h1, _, _ => by
    have : ps = [] := by simpa using h1
    subst this; simp [zct]
  | v :: vs, done, k, ps, hk, h1, h2, h3 => by
    cases ps with
    | nil => simp at h2
    | cons p ps =>
      obtain ⟨i, ov⟩ := p
      simp only [List.map_cons, List.cons.injEq, List.length_cons, List.range'_succ] at h1 h2
      obtain ⟨rfl, h1⟩ := h1
      obtain ⟨rfl, h2⟩ := h2
      simp only [zct, Option.bind_some, zme (h3 v (by simp)), List.length_singleton, List.length_cons, List.replicate_succ]
      rw [if_neg (by simp; omega), Nat.mul_one, zt1 (cs := []) hk.symm]
      have := zk4 (z := z) vs (done ++ [v]) (i + 1) ps (by simp [hk]) h1 h2 (fun x hx => h3 x (by simp [hx]))
      simpa using this
theorem zk2 {len : Nat} {z : AV} {parts : Array (Nat × Operand)} {vs : List AV} (ha : zez (St.ev ⟨e, L, H⟩) (parts.toList.map (·.2)) = some vs) (hr : parts.toList.map (·.1) = List.range' 0 len) (hone : vs.all zqc = true) :
    zct (fun i => some (i * 1, 1)) (ziw len [z]) (parts.toList.map fun (i, x) => (i, (St.ev ⟨e, L, H⟩ x).asV)) = some vs ∧ vs.length = len := by
  have h1 := zki ha
  have hlen : vs.length = len := by
    have := congrArg List.length hr
    have h2 := congrArg List.length h1
    simp at this h2; omega
  refine ⟨?_, hlen⟩
  have := zk4 (z := z) vs [] 0 (parts.toList.map fun (i, x) => (i, (St.ev ⟨e, L, H⟩ x).asV)) rfl (by rw [hlen, ← hr]; simp [Function.comp_def]) (by rw [← h1]; simp [Function.comp_def]) (by simpa using hone)
  simpa [ziw, hlen] using this
theorem zi1 {t : TypeId} {len by_ : Nat} {z : AV} {parts : Array (Nat × Operand)} [ei : EI P t 1 by_ [z]] (hfz : cfg.fz.contains dd = true) (hr : parts.toList.map (·.1) = List.range' 0 len) (hl : len ≤ 2 ^ 24)
    (h : gK (parts.toList.map (·.2)) [] (fun vs => vs.all zqc = true ∧ K ⟨(dd, .val (.sl none len vs)) :: e, L, H⟩) ⟨e, L, H⟩) : opX P cfg ⟨some dd, .buildSlice t len parts, ty, pos, aft, gd⟩ K ⟨e, L, H⟩ := by
  obtain ⟨vs, ha, hone, h⟩ := h
  simp only [List.nil_append] at hone h
  obtain ⟨h1, h2⟩ := zk2 (z := z) ha hr hone
  simp only [opX, opE, ei.h, h1, Option.any_some, hfz, if_true]
  exact ⟨rfl, by omega, by omega, h⟩
theorem zmx {t : TypeId} {len by_ : Nat} {z : AV} {parts : Array (Nat × Operand)} [ei : EI P t 1 by_ [z]] {A N : List (List AV)} {n₀ i : Nat} (hfz : cfg.fz.contains dd = false) (hr : parts.toList.map (·.1) = List.range' 0 len) (hl : len ≤ 2 ^ 24) (hA : A.length = n₀) (hi : N.length = i)
    (h : gK (parts.toList.map (·.2)) [] (fun vs => vs.all zqc = true ∧ ∀ N', N ++ [vs] = N' → K ⟨(dd, .val (.slm (n₀ + i) len 0 len 1)) :: e, L, A ++ N'⟩) ⟨e, L, A ++ N⟩) : opX P cfg ⟨some dd, .buildSlice t len parts, ty, pos, aft, gd⟩ K ⟨e, L, A ++ N⟩ := by
  obtain ⟨vs, ha, hone, h⟩ := h
  simp only [List.nil_append] at hone h
  obtain ⟨h1, h2⟩ := zk2 (z := z) ha hr hone
  simp only [opX, opE, ei.h, h1, Option.any_some, hfz, Bool.false_eq_true, if_false]
  subst hA hi
  have := h _ rfl
  refine ⟨rfl, by omega, by omega, ?_⟩
  rw [zkw]
  simpa [h2, List.append_assoc] using this
theorem zq9 {t tx : TypeId} {s x : Operand} {sz by_ el' z' : Nat} {zc xs : List AV} [ei : EI P t sz by_ zc] [si : SlI P tx el' z'] {vx : AV} {m : Nat} (hs : St.ev ⟨e, L, H⟩ s = .val .slnil) (hx : St.ev ⟨e, L, H⟩ x = .val vx) (hsrc : zj5 H sz vx = some (m, xs)) (hm : 0 < m ∧ m ≤ 2 ^ 32)
    (hz : (decide (by_ ≤ 2 ^ 10) && decide (0 < by_) && zc.length == sz && decide (0 < sz)) = true) (h : K ⟨(dd, .val (.slm H.length xs.length 0 m sz)) :: e, L, H ++ [xs]⟩) :
    opX P cfg ⟨some dd, .call { callee := .builtin .append, args := #[s, x], argTypes := #[t, tx] }, ty, pos, aft, gd⟩ K ⟨e, L, H⟩ := by
  simp only [Bool.and_eq_true, decide_eq_true_eq, beq_iff_eq] at hz
  simp only [opX, opE, List.map_cons, List.map_nil, hs, hx, EV.asV, ei.h, si.h, hsrc, zmu]
  exact ⟨hz.1.1.1, hz.1.1.2, hz.1.2, hz.2, hm.2, fun h0 => by omega, fun _ => h⟩
theorem zra {t tx : TypeId} {s x : Operand} {id gen len sz by_ el' z' : Nat} {zc xs cs : List AV} [ei : EI P t sz by_ zc] [si : SlI P tx el' z'] {vx : AV} {m : Nat} (hs : St.ev ⟨e, L, H⟩ s = .val (.slm id gen 0 len sz)) (hx : St.ev ⟨e, L, H⟩ x = .val vx) (hsrc : zj5 H sz vx = some (m, xs))
    (hc : H[id]? = some cs) (hg : cs.length = gen) (hl : len * sz = gen) (hm : len + m ≤ 2 ^ 32) (hmx : cfg.n0 ≤ id ∨ mxL xs ≤ cfg.n0)
    (hz : (decide (by_ ≤ 2 ^ 10) && decide (0 < by_) && zc.length == sz && decide (0 < sz)) = true) (h : K ⟨(dd, .val (.slm id (cs.length + xs.length) 0 (len + m) sz)) :: e, L, H.set id (cs ++ xs)⟩) :
    opX P cfg ⟨some dd, .call { callee := .builtin .append, args := #[s, x], argTypes := #[t, tx] }, ty, pos, aft, gd⟩ K ⟨e, L, H⟩ := by
  simp only [Bool.and_eq_true, decide_eq_true_eq, beq_iff_eq] at hz
  simp only [opX, opE, List.map_cons, List.map_nil, hs, hx, EV.asV, ei.h, si.h, hsrc, zmu, hc]
  exact ⟨hz.1.1.1, hz.1.1.2, hz.1.2, hz.2, trivial, hg, trivial, hl, hm, hmx, h⟩
theorem zg4 {H : List (List AV)} {tag : Option (Nat × Nat)} {n sz : Nat} {cs : List AV} (h : n * sz = cs.length) : zj5 H sz (.sl tag n cs) = some (n, cs) := by
  simp only [zj5, slen, Option.bind_some, zb4]
  rw [zfc cs h]; rfl
theorem zwo {H : List (List AV)} {D : AV} {l : List Nat} (h : FL H D l) : zj5 H 1 D = some (l.length, fl l) := by
  by_cases hD : D = .slnil
  · subst hD
    have := h.len
    simp only [slen, Option.some.injEq] at this
    have : l = [] := List.eq_nil_of_length_eq_zero this.symm
    subst this; rfl
  · have h1 := h.all hD
    cases D <;> first | exact absurd rfl hD | (simp only [zb4, reduceCtorEq] at h1; done) | simp only [zj5, h.len, Option.bind_some, Nat.mul_one, h1, Option.map_some]
end
def zm4 (P : Program) (t : TypeId) : Option (List AV × List (Nat × Nat)) :=
  match zg6 P t, P.underlying t with
  | some z, some (.struct fs) => (z.cells).bind fun zc => (fs.toList.mapM fun f => (tsz P f.type).map (f.offset, ·)).map (zc, ·)
  | _, _ => none
class BdI (P : Program) (t : TypeId) (zc : outParam (List AV)) (pl : outParam (List (Nat × Nat))) : Prop where
  h : zm4 P t = some (zc, pl)
theorem mapM_some {α β : Type} (f : α → Option β) : ∀ (l : List α) {r : List β}, l.mapM f = some r → l.map f = r.map some
  | [], r, h => by simp at h; subst h; rfl
  | a :: l, r, h => by
    simp only [List.mapM_cons, Option.bind_eq_bind, Option.bind_eq_some_iff, Option.pure_def, Option.some.injEq] at h
    obtain ⟨b, h1, r', h2, rfl⟩ := h
    simp [h1, mapM_some f l h2]
theorem zkb {p q : Nat → Option (Nat × Nat)} (h : ∀ i, p i = q i) (cs : List AV) (l : List (Nat × Option AV)) : zct p cs l = zct q cs l := by
  have : p = q := funext h
  rw [this]
theorem zm5 {P : Program} {t : TypeId} {zc : List AV} {pl : List (Nat × Nat)} (h : zm4 P t = some (zc, pl)) (ρ : Operand → EV) (parts : Array (Nat × Operand)) :
    zgr P ρ t parts = (zct (fun i => pl[i]?) zc (parts.toList.map fun (i, x) => (i, (ρ x).asV))).map .agg := by
  unfold zm4 at h
  split at h
  · rename_i z fs hz hu
    simp only [Option.bind_eq_some_iff, Option.map_eq_some_iff, Prod.mk.injEq] at h
    obtain ⟨zc', h1, pl', h2, rfl, rfl⟩ := h
    have hm := mapM_some _ _ h2
    have hall : fs.all (fun f => (tsz P f.type).isSome) = true := by
      rw [Array.all_eq_true_iff_forall_mem]
      intro f hf
      have hf' : f ∈ fs.toList := by simpa using hf
      have : (tsz P f.type).map (f.offset, ·) ∈ fs.toList.map (fun f => (tsz P f.type).map (f.offset, ·)) := List.mem_map_of_mem hf'
      rw [hm] at this
      simp only [List.mem_map] at this
      obtain ⟨x, _, hx⟩ := this
      cases hq : tsz P f.type with
      | none => rw [hq] at hx; simp at hx
      | some n => rfl
    unfold zgr
    simp only [hz, hu, hall, if_true, h1, Option.bind_some]
    congr 1
    refine zkb (fun i => ?_) _ _
    have := congrArg (·[i]?) hm
    simp only [List.getElem?_map, Array.getElem?_toList] at this
    simp only [zh3]
    cases hf : fs[i]? with
    | none =>
      rw [hf] at this
      cases hp : pl'[i]? with
      | none => rfl
      | some p => rw [hp] at this; simp at this
    | some f =>
      rw [hf] at this
      simp only [Option.map_some, Option.bind_some] at this ⊢
      cases hp : pl'[i]? with
      | none => rw [hp] at this; simp at this
      | some p => rw [hp] at this; simpa using this
  · simp at h
section
variable {P : Program} {cfg : Cfg} {dr : Array Oper → (St → Prop) → St → Prop} {e : List (Nat × EV)} {L : List (Nat × List AV)} {H : List (List AV)} {Q : XE → St → Prop} {K : St → Prop}
variable {kn : Option (Nat × Bool)} {ops : Array Oper} {d : Option Tmp} {o : Op} {ty : TypeId} {pos : String} {aft : Array Edge} {rest : List Oper} {j : Nat} {b want : Bool} {gd : Option (Nat × Bool)} {dd : Nat}
def fK (pl : List (Nat × Nat)) (zc : List AV) (ps : List (Nat × Operand)) (k : List AV → Prop) (st : St) : Prop :=
  ∃ cs, zct (fun i => pl[i]?) zc (ps.map fun (i, x) => (i, (st.ev x).asV)) = some cs ∧ k cs
theorem zdb {pl : List (Nat × Nat)} {zc : List AV} {k : List AV → Prop} (h : k zc) : fK pl zc [] k ⟨e, L, H⟩ := ⟨zc, rfl, h⟩
theorem zs3 {pl : List (Nat × Nat)} {zc zc' vs : List AV} {i off sz : Nat} {x : Operand} {ps : List (Nat × Operand)} {k : List AV → Prop} {v : AV} (hx : St.ev ⟨e, L, H⟩ x = .val v) (hc : v.cells = some vs) (hp : pl[i]? = some (off, sz))
    (hl : (vs.length == sz && decide (off + vs.length ≤ zc.length)) = true) (hz : sc zc off vs = zc') (h : fK pl zc' ps k ⟨e, L, H⟩) : fK pl zc ((i, x) :: ps) k ⟨e, L, H⟩ := by
  obtain ⟨cs, h1, h2⟩ := h
  subst hz
  simp only [Bool.and_eq_true, beq_iff_eq, decide_eq_true_eq] at hl
  refine ⟨cs, ?_, h2⟩
  simp only [List.map_cons, zct, hx, EV.asV, Option.bind_some, hc, hp]
  rw [if_neg (by omega)]
  exact h1
theorem zca {t : TypeId} {zc : List AV} {pl : List (Nat × Nat)} {parts : Array (Nat × Operand)} [bd : BdI P t zc pl] (h : fK pl zc parts.toList (fun cs => K ⟨(dd, .val (.agg cs)) :: e, L, H⟩) ⟨e, L, H⟩) :
    opX P cfg ⟨some dd, .build t parts, ty, pos, aft, gd⟩ K ⟨e, L, H⟩ := by
  obtain ⟨cs, h1, h2⟩ := h
  rw [zbs P cfg e L H K _ _ _ _ _ _ rfl]
  simp only [zak, zm5 bd.h, h1, Option.map_some, zck]
  exact ⟨trivial, h2⟩
theorem zup {src dst : TypeId} {x : Operand} {k k' : IntKind} {n : Int} {td : TypeDesc} [u : UI P dst (.int k)] [us : UI P src td] (hx : St.ev ⟨e, L, H⟩ x = .val (.int k' n)) (h : zcd dd K ⟨e, L, H⟩ (some (True, .int k (k.wrap n)))) :
    opX P cfg ⟨some dd, .convert src dst x, ty, pos, aft, gd⟩ K ⟨e, L, H⟩ := by
  rw [zbs P cfg e L H K _ _ _ _ _ _ rfl]
  simp only [zak, us.h, Option.isSome_some, if_true, hx, zsr, u.h, Option.map_some, zck]
  exact ⟨trivial, h.2⟩
theorem zuo {src dst : TypeId} {x : Operand} {v : AV} {f : Nat} {td : TypeDesc} [u : UI P dst (.float .f64)] [us : UI P src td] (hx : St.ev ⟨e, L, H⟩ x = .val v) (hf : v.asF = some f) (h : K ⟨(dd, .val (.flt f)) :: e, L, H⟩) :
    opX P cfg ⟨some dd, .convert src dst x, ty, pos, aft, gd⟩ K ⟨e, L, H⟩ := by
  rw [zbs P cfg e L H K _ _ _ _ _ _ rfl]
  have : zsr P dst (.val v) = some (True, .flt f) := by
    unfold zsr; rw [u.h]
    cases v <;> simp_all [AV.asF]
  simp only [zak, us.h, Option.isSome_some, if_true, hx, this, Option.map_some, zck]
  exact ⟨trivial, h⟩
theorem zsf {src dst : TypeId} {x : Operand} {k : IntKind} {n : Int} {td : TypeDesc} [u : UI P dst (.float .f64)] [us : UI P src td] (hx : St.ev ⟨e, L, H⟩ x = .val (.int k n)) (h : K ⟨(dd, .val (.flt (cn (FloatKind.f64.nearest n)))) :: e, L, H⟩) :
    opX P cfg ⟨some dd, .convert src dst x, ty, pos, aft, gd⟩ K ⟨e, L, H⟩ := by
  rw [zbs P cfg e L H K _ _ _ _ _ _ rfl]
  simp only [zak, us.h, Option.isSome_some, if_true, hx, zsr, u.h, Option.map_some, zck]
  exact ⟨trivial, h⟩
theorem zyb {n : Int} (hw : 0 ≤ n ∧ n ≤ 18446744073709551615) : IntKind.u64.wrap n = n := by
  simp only [IntKind.wrap, IntKind.signed, IntKind.bits]
  simp
  omega
theorem zzh {n : Int} (hw : 0 ≤ n ∧ n ≤ 18446744073709551615) (h : K ⟨(dd, .val (.int .u64 n)) :: e, L, H⟩) : zcd dd K ⟨e, L, H⟩ (some (True, .int .u64 (IntKind.u64.wrap n))) := by
  rw [zyb hw]; exact ⟨trivial, h⟩
theorem zwy {k : IntKind} {x y : Int} {q : Int} (hx : 0 ≤ x) (hy : 0 ≤ y) (hq : ((2 ^ (min y.toNat k.bits) : Nat) : Int) = q) (h : K ⟨(dd, .val (.int k (x / q))) :: e, L, H⟩) : zcd dd K ⟨e, L, H⟩ (some (0 ≤ y, .int k (x.fdiv (2 ^ (min y.toNat k.bits))))) := by
  have e1 : ((2 : Int) ^ (min y.toNat k.bits)) = q := by rw [← hq]; simp
  rw [e1]
  have h0 : 0 ≤ q := by rw [← hq]; exact Int.natCast_nonneg _
  have : x.fdiv q = x / q := by rw [Int.fdiv_eq_ediv_of_nonneg _ h0]
  rw [this]; exact ⟨hy, h⟩
theorem zo7 {k : IntKind} {x y : Int} (hx : 0 ≤ x) (hy : y ≠ 0) (h : K ⟨(dd, .val (.int k (x % y))) :: e, L, H⟩) : zcd dd K ⟨e, L, H⟩ (some (y ≠ 0, .int k (x.tmod y))) := by
  rw [Int.tmod_eq_emod_of_nonneg hx]; exact ⟨hy, h⟩
theorem zww {x y : Int} (hx : 0 ≤ x ∧ x ≤ 9223372036854775807) (hy : 1 ≤ y) (h : K ⟨(dd, .val (.int .i64 (x / y))) :: e, L, H⟩) : zcd dd K ⟨e, L, H⟩ (some (y ≠ 0, .int .i64 (IntKind.i64.wrap (x.tdiv y)))) :=
  v_c (by omega) (v_q hx hy h)
theorem zky {x y : Operand} {ts : Array TypeId} {k : IntKind} {a c m : Int} (hx : St.ev ⟨e, L, H⟩ x = .val (.int k a)) (hy : St.ev ⟨e, L, H⟩ y = .val (.int k c)) (hm : max a c = m) (h : K ⟨(dd, .val (.int k m)) :: e, L, H⟩) :
    opX P cfg ⟨some dd, .call { callee := .builtin .max, args := #[x, y], argTypes := ts }, ty, pos, aft, gd⟩ K ⟨e, L, H⟩ := by
  subst hm
  rw [zbs P cfg e L H K _ _ _ _ _ _ rfl]
  simp only [zak, List.map_cons, List.map_nil, hx, hy, EV.asI, if_true, zck]
  exact ⟨trivial, h⟩
theorem zrb {x y : Operand} {ts : Array TypeId} {k : IntKind} {a c m : Int} (hx : St.ev ⟨e, L, H⟩ x = .val (.int k a)) (hy : St.ev ⟨e, L, H⟩ y = .val (.int k c)) (hm : min a c = m) (h : K ⟨(dd, .val (.int k m)) :: e, L, H⟩) :
    opX P cfg ⟨some dd, .call { callee := .builtin .min, args := #[x, y], argTypes := ts }, ty, pos, aft, gd⟩ K ⟨e, L, H⟩ := by
  subst hm
  rw [zbs P cfg e L H K _ _ _ _ _ _ rfl]
  simp only [zak, List.map_cons, List.map_nil, hx, hy, EV.asI, if_true, zck]
  exact ⟨trivial, h⟩
theorem zuz {t : TypeId} {x : Operand} {lo hi : Option Operand} {el z n : Nat} [si : SlI P t el z] {s v' : AV} {l q : Int} (hx : St.ev ⟨e, L, H⟩ x = .val s) (hn : slen s = some n) (hl : ziu (St.ev ⟨e, L, H⟩) 0 lo = some l) (hq : ziu (St.ev ⟨e, L, H⟩) n hi = some q)
    (hb : 0 ≤ l ∧ l ≤ q ∧ q ≤ n) (hs : zr0 z l.toNat q.toNat s = some v') (h : K ⟨(dd, .val v') :: e, L, H⟩) : opX P cfg ⟨some dd, .slice t x lo hi none, ty, pos, aft, gd⟩ K ⟨e, L, H⟩ := by
  rw [zbs P cfg e L H K _ _ _ _ _ _ rfl]
  have : zjx P t (.val s) (some l) (fun n => ziu (St.ev ⟨e, L, H⟩) n hi) = some (0 ≤ l ∧ l ≤ q ∧ q ≤ n, v') := by
    cases s <;> simp only [slen, Option.some.injEq, reduceCtorEq] at hn <;> subst hn <;> simp only [zjx, si.h, si.z, Option.bind_some, slen, hq, hs, Option.map_some]
  simp only [zak, hx, hl, this, Option.map_some, zck]
  exact ⟨hb, h⟩
theorem zum {t : TypeId} {x : Operand} {A N N' : List (List AV)} {n i : Nat} {vx : EV} {cs : List AV} (hx : St.ev ⟨e, L, A ++ N⟩ x = vx) (hr : vx.asV.bind AV.cells = some cs) (hesc : cfg.esc = true) (hA : A.length = n) (hi : N.length = i) (hN : N ++ [cs] = N')
    (h : K ⟨(dd, .val (.eptr (.slm (n + i) cs.length 0 1 cs.length) 0)) :: e, L, A ++ N'⟩) : opX P cfg ⟨some dd, .box t x, ty, pos, aft, gd⟩ K ⟨e, L, A ++ N⟩ := by
  subst hx hA hi hN
  simp only [opX, opE, hr, newX, hesc, if_true, zkw]
  simpa [List.append_assoc] using h
def rK (P : Program) (rs : List ResultVar) (acc : List AV) (k : List AV → Prop) (st : St) : Prop := ∃ vs, (rs.map (resV P st)).mapM id = some vs ∧ k (acc ++ vs)
theorem zan {acc : List AV} {k : List AV → Prop} (h : k acc) : rK P [] acc k ⟨e, L, H⟩ := ⟨[], rfl, by simpa using h⟩
theorem zkn {r : ResultVar} {rs : List ResultVar} {acc : List AV} {k : List AV → Prop} {v : AV} (hr : resV P ⟨e, L, H⟩ r = some v) (h : rK P rs (acc ++ [v]) k ⟨e, L, H⟩) : rK P (r :: rs) acc k ⟨e, L, H⟩ := by
  obtain ⟨vs, h1, h2⟩ := h
  refine ⟨v :: vs, ?_, by simpa using h2⟩
  simp only [List.map_cons, List.mapM_cons, hr, id_eq, Option.bind_eq_bind, Option.bind_some, h1]; rfl
theorem zwk {t : Nat} {rs : List ResultVar} {acc : List AV} {k : List AV → Prop} {v : AV} (hv : St.ev ⟨e, L, H⟩ (.tmp t) = .val v) (h : rK P rs (acc ++ [v]) k ⟨e, L, H⟩) : rK P (.tmp t :: rs) acc k ⟨e, L, H⟩ :=
  zkn (by simp [resV, hv, EV.asV]) h
theorem zqn {x t n : Nat} {rs : List ResultVar} {acc : List AV} {k : List AV → Prop} [ti : TyI P t n true] {key off : Nat} {cs l : List AV} (hx : St.ev ⟨e, L, H⟩ (.tmp x) = .loc key off) (hc : lk L key = some cs) (hl : gc cs off n = some l) (h : rK P rs (acc ++ [.agg l]) k ⟨e, L, H⟩) :
    rK P (.cell x t :: rs) acc k ⟨e, L, H⟩ :=
  zkn (by simp [resV, zak, hx, hc, ti.sz, hl, ldv, ti.kind]) h
theorem zqm {x t : Nat} {rs : List ResultVar} {acc : List AV} {k : List AV → Prop} [ti : TyI P t 1 false] {key off : Nat} {cs : List AV} {v : AV} (hx : St.ev ⟨e, L, H⟩ (.tmp x) = .loc key off) (hc : lk L key = some cs) (hl : cs[off]? = some v) (h : rK P rs (acc ++ [v]) k ⟨e, L, H⟩) :
    rK P (.cell x t :: rs) acc k ⟨e, L, H⟩ :=
  zkn (by simp [resV, zak, hx, hc, ti.sz, zjd hl, ldv, ti.kind]) h
def zg7 (H₀ : List (List AV)) (r : AV) (H' : List (List AV)) (H : List (List AV)) (vs : List AV) : Prop :=
  ∃ keep : List Nat, keep.Nodup ∧ (∀ k ∈ keep, H₀.length ≤ k ∧ ∃ cs, H[k]? = some cs ∧ mxL cs ≤ H₀.length) ∧ frH H₀.length keep H = H' ∧ Fr H₀.length keep H (zai vs) r
theorem zuy {fn : Func} {H₀ H' : List (List AV)} {r : AV} {x : XE} {rs : List ResultVar} (hx : x = .ret ∨ x = .normal) (hf : fn.results.toList = rs) (h : rK P rs [] (zg7 H₀ r H' H) ⟨e, L, H⟩) : zfs P fn H₀ r H' x ⟨e, L, H⟩ := by
  obtain ⟨vs, h1, keep, h2, h3, h4, h5⟩ := h
  subst hf
  exact ⟨by rcases hx with rfl | rfl <;> trivial, vs, keep, h1, h2, h3, h4, by simpa using h5⟩
section
variable {H₀ A N : List (List AV)} {n : Nat}
theorem zao {r : AV} {vs : List AV} (hA : A.length = H₀.length) (hm : mx (zai vs) ≤ H₀.length) (hr : zai vs = r) : zg7 H₀ r A (A ++ N) vs := by
  subst hr
  exact ⟨[], List.nodup_nil, by simp, by simp [frH, ← hA], Fr.old hm⟩
theorem zko {r : AV} {vs : List AV} (hA : A.length = H₀.length) (hr : Fr H₀.length [] (A ++ N) (zai vs) r) : zg7 H₀ r A (A ++ N) vs :=
  ⟨[], List.nodup_nil, by simp, by simp [frH, ← hA], hr⟩
theorem zqp {r : AV} {vs cs : List AV} {j : Nat} (hA : A.length = H₀.length) (hj : N[j]? = some cs) (hm : mxL cs ≤ H₀.length) (hr : Fr H₀.length [H₀.length + j] (A ++ N) (zai vs) r) : zg7 H₀ r (A ++ [cs]) (A ++ N) vs := by
  have hg := zau (A := A) hA hj
  refine ⟨[H₀.length + j], by simp, ?_, ?_, hr⟩
  · intro k hk
    simp only [List.mem_singleton] at hk; subst hk
    exact ⟨by omega, cs, hg, hm⟩
  · simp [frH, ← hA, hg]
    rw [← hA] at hg; simp [hg]
end
theorem zb7.app {A N N' : List (List AV)} {n : Nat} (h : n ≤ A.length) : zb7 n (A ++ N) (A ++ N') := by
  intro id cs hid hc
  rw [List.getElem?_append_left (by omega)] at hc ⊢
  exact .inl hc
theorem zb7.set {A N N' : List (List AV)} {n i : Nat} {cs : List AV} (h : n ≤ A.length) (hm : mxL cs ≤ n) : zb7 n (A ++ N) (A.set i cs ++ N') := by
  intro id cs' hid hc
  rw [List.getElem?_append_left (by simp; omega)] at hc
  rw [List.getElem?_append_left (by omega)]
  rw [List.getElem?_set] at hc
  split at hc
  · split at hc
    · simp at hc; subst hc; exact .inr hm
    · simp at hc
  · exact .inl hc
end
section
variable {P : Program} {cfg : Cfg} {dr : Array Oper → (St → Prop) → St → Prop} {Q : XE → St → Prop} {K : St → Prop} {st : St}
theorem za1 {ops : Array Oper} {kn : Option (Nat × Bool)} {l : List Oper} (h : zas P cfg ops kn l K st) : zas P cfg ops kn l K st := h
theorem za2 {o : Oper} (h : opX P cfg o K st) : opX P cfg o K st := h
theorem zcy {ops : Array Oper} {nY : NY} {kn : Option (Nat × Bool)} {l : List (Nat × DFl)} (h : exD P cfg ops nY kn l K st) : exD P cfg ops nY kn l K st := h
theorem zcx {f : DFl} {nY : NY} {o : Oper} {s : St} (h : ckK f nY o st K s) : ckK f nY o st K s := h
theorem za3 {c : Code} (h : Ex P cfg dr c Q st) : Ex P cfg dr c Q st := h
theorem zy8 {fn : Func} {H₀ H' : List (List AV)} {r : AV} {x : XE} (h : zfs P fn H₀ r H' x st) : zfs P fn H₀ r H' x st := h
theorem zbj {id dd : Nat} {vs : List AV} (h : zcs P cfg id vs dd K st) : zcs P cfg id vs dd K st := h
theorem zza {y : Code} {x : XE} (h : zdd P cfg dr y Q x st) : zdd P cfg dr y Q x st := h
theorem zy6 {i : Nat} {x : XE} (h : zfl i Q x st) : zfl i Q x st := h
theorem zy7 {x : XE} (h : lpX K Q x st) : lpX K Q x st := h
theorem zy9 {rs : List ResultVar} {acc : List AV} {k : List AV → Prop} (h : rK P rs acc k st) : rK P rs acc k st := h
end
theorem Spec.raw2 {P : Program} {f : Nat} {x y : Nat} {rest : List AV} {H H' : List (List AV)} {r : AV} (h : ∀ b c, b < 2 ^ 64 → cn b = x → c < 2 ^ 64 → cn c = y → Spec P f (.fraw b :: .fraw c :: rest) H r H') : Spec P f (.flt x :: .flt y :: rest) H r H' := by
  intro w g cargs hw hl
  simp only [za7] at hl
  obtain ⟨v, r', hv, h1, u, r'', rfl, h2, h3⟩ := hl
  simp only [zah] at h1 h2
  obtain ⟨b, rfl, h4, h5⟩ := h1
  obtain ⟨c, rfl, h6, h7⟩ := h2
  refine h b c h4 h5 h6 h7 w g cargs hw ?_
  rw [hv]
  simp only [za7, zah]
  exact ⟨_, _, rfl, ⟨rfl, h4⟩, _, _, rfl, ⟨rfl, h6⟩, h3⟩
theorem Spec.intro' {P : Program} {f : Nat} {fn : Func} {body : Code} {args : List AV} {H H' : List (List AV)} {r : AV} (hf : P.funcs[f]? = some fn) (hb : fn.body = some body)
    (hd : zcu fn.ntmps body = true) (hn : args.length ≤ fn.ntmps) (esc : Bool) (fz : List Nat) {draw : Array Oper → (St → Prop) → St → Prop} (hdr : ∀ C : Cx, C.P = P → C.cfg = ⟨esc, H.length, fz⟩ → zgk C draw)
    (h : Ex P ⟨esc, H.length, fz⟩ draw body (zfs P fn H r H') ⟨zbf 0 args, [], H ++ []⟩) : Spec P f args H r H' :=
  Spec.intro hf hb hd hn esc fz hdr (by rw [List.append_nil] at h; exact h)
section
variable {P : Program} {cfg : Cfg} {dr : Array Oper → (St → Prop) → St → Prop} {e : List (Nat × EV)} {L : List (Nat × List AV)} {H : List (List AV)} {Q : XE → St → Prop} {K : St → Prop}
variable {kn : Option (Nat × Bool)} {ops : Array Oper} {d : Option Tmp} {o : Op} {ty : TypeId} {pos : String} {aft : Array Edge} {rest : List Oper} {j : Nat} {b want : Bool} {gd : Option (Nat × Bool)} {dd : Nat}
theorem zi2 {t el : TypeId} {x y : Operand} [si : SlI P t el 1] {s : AV} {k : IntKind} {n : Nat} {len : Nat} (hx : St.ev ⟨e, L, H⟩ x = .val s) (hy : St.ev ⟨e, L, H⟩ y = .val (.int k (n : Int))) (hl : slen s = some len) (hi : n < len)
    (h : K ⟨(dd, .val (.eptr s n)) :: e, L, H⟩) : opX P cfg ⟨some dd, .indexAddr t x y, ty, pos, aft, gd⟩ K ⟨e, L, H⟩ :=
  zsh hx hy hl rfl hi (by simpa using h)
theorem zut {t el : TypeId} {x y : Operand} [si : SlI P t el 1] {s : AV} {k : IntKind} {i : Int} {len : Nat} (hx : St.ev ⟨e, L, H⟩ x = .val s) (hy : St.ev ⟨e, L, H⟩ y = .val (.int k i)) (hl : slen s = some len) (hi : 0 ≤ i ∧ i < len)
    (h : K ⟨(dd, .val (.eptr s i.toNat)) :: e, L, H⟩) : opX P cfg ⟨some dd, .indexAddr t x y, ty, pos, aft, gd⟩ K ⟨e, L, H⟩ :=
  zsh (i := i.toNat) hx hy hl (by omega) (by omega) (by simpa using h)
theorem zrp {t : TypeId} {D : AV} {k : Nat} {l : List Nat} [i : TyI P t 1 false] (hF : FL H D l) (hk : k < l.length) (h : K ⟨(dd, .val (.flt (l.getD k 0))) :: e, L, H⟩) : zbt P t dd K ⟨e, L, H⟩ (.val (.eptr D k)) :=
  zjj (hF.rd hk) h
structure IL (H : List (List AV)) (D : AV) (l : List Int) : Prop where
  len : slen D = some l.length
  all : D ≠ .slnil → zb4 H D 0 l.length = some (il l)
  one : ∀ id g o n z, D = .slm id g o n z → z = 1
theorem IL.nil (H : List (List AV)) : IL H .slnil [] := ⟨rfl, fun h => absurd rfl h, by simp⟩
theorem IL.fz (H : List (List AV)) (tag : Option (Nat × Nat)) (l : List Int) : IL H (.sl tag l.length (il l)) l :=
  ⟨rfl, fun _ => by simp only [zb4]; exact zfc _ (by simp), by simp⟩
theorem IL.slm {H : List (List AV)} {id off n g : Nat} {l m : List Int} (h : H[id]? = some (il m)) (hg : g = m.length) (hn : off + n ≤ m.length) (hl : l = (m.drop off).take n) : IL H (.slm id g off n 1) l := by
  subst hl hg
  have e : ((m.drop off).take n).length = n := by simp; omega
  refine ⟨by simp [slen, e], fun _ => ?_, by simp; omega⟩
  simp only [zb4, h, Option.bind_some, zeu, if_true, e, Nat.add_zero]
  rw [zgt _ _ _ (by simpa using hn)]
  simp [il, List.map_drop, List.map_take]
theorem IL.rd {H : List (List AV)} {D : AV} {l : List Int} (h : IL H D l) {k : Nat} (hk : k < l.length) : zb4 H D k 1 = some [.int .i64 (l.getD k 0)] := by
  have hD : D ≠ .slnil := by rintro rfl; have := h.len; simp [slen] at this; omega
  have h1 := h.all hD
  cases D <;> simp only [zb4, reduceCtorEq] at h1 ⊢
  · have := zk5 h1 (zjh hk); simpa using this
  · rename_i id gen o len sz
    cases hi : H[id]? with
    | none => rw [hi] at h1; simp at h1
    | some cs =>
      rw [hi] at h1
      simp only [Option.bind_some] at h1 ⊢
      split at h1
      · rename_i hg; rw [if_pos hg]
        have := zk5 h1 (zjh hk); simpa using this
      · simp at h1
theorem zzb {t : TypeId} {D : AV} {k : Nat} {l : List Int} [i : TyI P t 1 false] (hF : IL H D l) (hk : k < l.length) (h : K ⟨(dd, .val (.int .i64 (l.getD k 0))) :: e, L, H⟩) : zbt P t dd K ⟨e, L, H⟩ (.val (.eptr D k)) :=
  zjj (hF.rd hk) h
theorem IL.app {H : List (List AV)} {D : AV} {l : List Int} (h : IL H D l) (N : List (List AV)) : IL (H ++ N) D l := by
  refine ⟨h.len, fun hD => ?_, h.one⟩
  have h1 := h.all hD
  cases D <;> simp only [zb4] at h1 ⊢ <;> try exact h1
  rename_i id gen o len sz
  cases hi : H[id]? with
  | none => rw [hi] at h1; simp at h1
  | some cs =>
    rw [hi] at h1
    rw [List.getElem?_append_left (List.getElem?_eq_some_iff.1 hi).1, hi]; exact h1
theorem zu0 {t : TypeId} {x v : Operand} {id gen o' len sz off : Nat} {m m' : List Nat} {f : Nat} [ti : TyI P t 1 false] {A N : List (List AV)} (hx : St.ev ⟨e, L, A ++ N⟩ x = .val (.eptr (.slm id gen o' len sz) off)) (hv : St.ev ⟨e, L, A ++ N⟩ v = .val (.flt f)) (hc : A[id]? = some (fl m))
    (hg : m.length = gen) (hle : o' + off < m.length) (hm : m.set (o' + off) f = m') (h : K ⟨e, L, A.set id (fl m') ++ N⟩) : opX P cfg ⟨none, .store t x v, ty, pos, aft, gd⟩ K ⟨e, L, A ++ N⟩ := by
  subst hm
  refine zu1 hx hv rfl rfl (zdj hc) (by simpa using hg) (by simp; omega) (.inr (by simp [mxL, mx])) rfl ?_
  rw [zrz, zrl, zdk (List.getElem?_eq_some_iff.1 hc).1]; exact h
theorem zu3 {t : TypeId} {x v : Operand} {n i gen o' len sz off : Nat} {m m' : List Nat} {f : Nat} [ti : TyI P t 1 false] {A N N' : List (List AV)} (hx : St.ev ⟨e, L, A ++ N⟩ x = .val (.eptr (.slm (n + i) gen o' len sz) off)) (hv : St.ev ⟨e, L, A ++ N⟩ v = .val (.flt f)) (hA : A.length = n) (hc : N[i]? = some (fl m))
    (hg : m.length = gen) (hle : o' + off < m.length) (hm : m.set (o' + off) f = m') (hN : N.set i (fl m') = N') (h : K ⟨e, L, A ++ N'⟩) : opX P cfg ⟨none, .store t x v, ty, pos, aft, gd⟩ K ⟨e, L, A ++ N⟩ := by
  subst hm
  refine zu1 hx hv rfl rfl (zau hA hc) (by simpa using hg) (by simp; omega) (.inr (by simp [mxL, mx])) rfl ?_
  rw [zrz, zrl, zet hA hN]; exact h
theorem zi0 {t tx : TypeId} {s x : Operand} {n i g g' q len by_ el' z' : Nat} {z : AV} {xs cs cs' : List AV} {A N N' : List (List AV)} [ei : EI P t 1 by_ [z]] [si : SlI P tx el' z'] {vx : AV} {m : Nat} (hs : St.ev ⟨e, L, A ++ N⟩ s = .val (.slm (n + i) g 0 len 1)) (hx : St.ev ⟨e, L, A ++ N⟩ x = .val vx) (hA : A.length = n) (hc : N[i]? = some cs) (hsrc : zj5 (A ++ N) 1 vx = some (m, xs))
    (hg : cs.length = g) (hl : len = g) (hm : len + m ≤ 2 ^ 32) (hmx : cfg.n0 ≤ n ∨ mxL xs ≤ cfg.n0) (hz : (decide (by_ ≤ 2 ^ 10) && decide (0 < by_)) = true) (hcs : cs ++ xs = cs') (hN : N.set i cs' = N') (hg' : cs.length + xs.length = g') (hq : len + m = q)
    (h : K ⟨(dd, .val (.slm (n + i) g' 0 q 1)) :: e, L, A ++ N'⟩) :
    opX P cfg ⟨some dd, .call { callee := .builtin .append, args := #[s, x], argTypes := #[t, tx] }, ty, pos, aft, gd⟩ K ⟨e, L, A ++ N⟩ := by
  subst hcs hg' hq hl
  refine zra hs hx hsrc (zau hA hc) hg (by omega) hm (by rcases hmx with h | h; exact .inl (by omega); exact .inr h) (by simpa using hz) ?_
  rw [zet hA hN]; exact h
theorem zui {t tx : TypeId} {s x : Operand} {n i by_ el' z' g : Nat} {z : AV} {xs : List AV} {A N N' : List (List AV)} [ei : EI P t 1 by_ [z]] [si : SlI P tx el' z'] {vx : AV} {m : Nat} (hs : St.ev ⟨e, L, A ++ N⟩ s = .val .slnil) (hx : St.ev ⟨e, L, A ++ N⟩ x = .val vx) (hsrc : zj5 (A ++ N) 1 vx = some (m, xs)) (hm : 0 < m ∧ m ≤ 2 ^ 32)
    (hA : A.length = n) (hi : N.length = i) (hz : (decide (by_ ≤ 2 ^ 10) && decide (0 < by_)) = true) (hN : N ++ [xs] = N') (hg : xs.length = g) (h : K ⟨(dd, .val (.slm (n + i) g 0 m 1)) :: e, L, A ++ N'⟩) :
    opX P cfg ⟨some dd, .call { callee := .builtin .append, args := #[s, x], argTypes := #[t, tx] }, ty, pos, aft, gd⟩ K ⟨e, L, A ++ N⟩ := by
  subst hN hg hA hi
  refine zq9 hs hx hsrc hm (by simpa using hz) ?_
  simpa [List.append_assoc] using h
theorem zo3 {A N : List (List AV)} {D : AV} {l : List Nat} (h : FL A D l) : zj5 (A ++ N) 1 D = some (l.length, fl l) := zwo (h.app N)
end
theorem zxx {nY : NY} {K : St → Prop} {d : Option Tmp} {ty : TypeId} {pos : String} {aft : Array Edge} {gd : Option (Nat × Bool)} {t : TypeId} {x : Operand} {st s : St} {v : AV} (hv : St.ev st x = .val v) (h : K s) : ckK (.ld true) nY ⟨d, .load t x, ty, pos, aft, gd⟩ st K s := by
  refine k_ld hv ?_ h
  unfold zw5
  split <;> first | rfl | (rename_i he; cases he)
theorem zhj : ∀ (la lb : List Nat), ∃ N, N ≤ la.length ∧ (∀ k, k < N → la.getD k 0 = lb.getD k 0) ∧ (N < la.length → la.getD N 0 ≠ lb.getD N 0)
  | [], lb => ⟨0, Nat.le_refl _, by simp, by simp⟩
  | a :: la, lb => by
    by_cases h : a = lb.getD 0 0
    · obtain ⟨N, h1, h2, h3⟩ := zhj la (lb.drop 1)
      have e : ∀ k, (lb.drop 1).getD k 0 = lb.getD (k + 1) 0 := fun k => by simp [List.getD, Nat.add_comm]
      refine ⟨N + 1, by simp; omega, fun k hk => ?_, fun hN => ?_⟩
      · cases k with
        | zero => simpa using h
        | succ k => rw [← e]; simpa using h2 k (by omega)
      · rw [← e]; simpa using h3 (by simpa using hN)
    · exact ⟨0, Nat.zero_le _, by simp, fun _ => by simpa using h⟩
theorem zl8 {la lb : List Nat} (hl : la.length = lb.length) (h : ∀ k, k < la.length → la.getD k 0 = lb.getD k 0) : la = lb := by
  apply List.ext_getElem hl
  intro i h1 h2
  have := h i h1
  simpa [List.getD, h1, h2] using this
abbrev mt (D : AV) (off rows cols ld : Int) : AV := .agg [D, .int .i64 off, .int .i64 rows, .int .i64 cols, .int .i64 ld]
structure MI (n : Nat) (off rows cols ld : Int) : Prop where
  n : n ≤ 9223372036854775807
  o1 : -9223372036854775808 ≤ off
  o2 : off ≤ 9223372036854775807
  r1 : -9223372036854775808 ≤ rows
  r2 : rows ≤ 9223372036854775807
  c1 : -9223372036854775808 ≤ cols
  c2 : cols ≤ 9223372036854775807
  l1 : -9223372036854775808 ≤ ld
  l2 : ld ≤ 9223372036854775807
def zaa (n : Nat) (off rows cols ld : Int) : Prop := 0 ≤ rows ∧ 0 ≤ cols ∧ 0 ≤ off ∧ 1 ≤ ld ∧ rows ≤ ld ∧ (rows = 0 ∨ cols = 0 ∨ (off < n ∧ rows - 1 < n - off ∧ (cols - 1) * ld ≤ n - 1 - off - (rows - 1)))
instance (n : Nat) (off rows cols ld : Int) : Decidable (zaa n off rows cols ld) := by unfold zaa; infer_instance
def zdn (n : Nat) (off rows cols ld : Int) : Prop := zaa n off rows cols ld ∧ rows ≠ 0 ∧ cols ≠ 0
instance (n : Nat) (off rows cols ld : Int) : Decidable (zdn n off rows cols ld) := by unfold zdn; infer_instance
def sF (n : Nat) (off rows cols ld : Int) : Int := if zdn n off rows cols ld then off else 0
def sT (n : Nat) (off rows cols ld : Int) : Int := if zdn n off rows cols ld then off + (cols - 1) * ld + rows - 1 else 0
theorem zis {n : Nat} {off rows cols ld : Int} (h : zdn n off rows cols ld) : 0 < n := by
  obtain ⟨⟨h1, h2, h3, h4, h5, h6⟩, h7, h8⟩ := h
  omega
def zq8 (n : Nat) (off rows cols ld i j : Int) : Prop := zaa n off rows cols ld ∧ 0 ≤ i ∧ 0 ≤ j ∧ i < rows ∧ j < cols
instance (n : Nat) (off rows cols ld i j : Int) : Decidable (zq8 n off rows cols ld i j) := by unfold zq8; infer_instance
theorem zaj {n : Nat} {off rows cols ld i j : Int} (h : zaa n off rows cols ld) (hi : 0 ≤ i) (hj : 0 ≤ j) (hi' : i < rows) (hj' : j < cols) : 0 ≤ j * ld ∧ 0 ≤ off + i + j * ld ∧ off + i + j * ld < n ∧ j * ld ≤ (cols - 1) * ld ∧ 0 ≤ off ∧ 1 ≤ ld := by
  obtain ⟨h1, h2, h3, h4, h5, h6⟩ := h
  have h7 : j * ld ≤ (cols - 1) * ld := Int.mul_le_mul_of_nonneg_right (by omega) (by omega)
  have h8 : 0 ≤ j * ld := Int.mul_nonneg hj (by omega)
  refine ⟨h8, by omega, ?_, h7, h3, h4⟩
  rcases h6 with h6 | h6 | h6 <;> omega
section
variable {e : List (Nat × EV)} {L : List (Nat × List AV)} {H : List (List AV)} {K : St → Prop} {dd : Nat}
theorem zls {x y : Nat} (hb : x + y ≤ 9223372036854775807) (h : K ⟨(dd, .val (.int .i64 ((x + y : Nat) : Int))) :: e, L, H⟩) : zcd dd K ⟨e, L, H⟩ (some (True, .int .i64 (IntKind.i64.wrap ((x : Int) + (y : Int))))) :=
  v_w (by omega) (by simpa using h)
theorem zlt {x y : Nat} (hb : x * y ≤ 9223372036854775807) (h : K ⟨(dd, .val (.int .i64 ((x * y : Nat) : Int))) :: e, L, H⟩) : zcd dd K ⟨e, L, H⟩ (some (True, .int .i64 (IntKind.i64.wrap ((x : Int) * (y : Int))))) := by
  have e1 : ((x : Int) * (y : Int)) = ((x * y : Nat) : Int) := by simp
  rw [e1]
  exact v_w (by omega) h
theorem zwx {x y : Nat} (hy : 0 < y) (hx : x ≤ 9223372036854775807) (h : K ⟨(dd, .val (.int .i64 ((x / y : Nat) : Int))) :: e, L, H⟩) : zcd dd K ⟨e, L, H⟩ (some ((y : Int) ≠ 0, .int .i64 (IntKind.i64.wrap ((x : Int).tdiv (y : Int))))) :=
  zww (by omega) (by omega) (by simpa using h)
theorem zwv {k : IntKind} {x y : Nat} (hy : 0 < y) (h : K ⟨(dd, .val (.int k ((x % y : Nat) : Int))) :: e, L, H⟩) : zcd dd K ⟨e, L, H⟩ (some ((y : Int) ≠ 0, .int k ((x : Int).tmod (y : Int)))) :=
  zo7 (by omega) (by omega) (by simpa using h)
end
section
variable {P : Program} {cfg : Cfg} {e : List (Nat × EV)} {L : List (Nat × List AV)} {H : List (List AV)} {K : St → Prop} {ty : TypeId} {pos : String} {aft : Array Edge} {gd : Option (Nat × Bool)} {dd : Nat}
theorem zuk {t t' : TypeId} [u : UI P t .bool] {x y : Operand} {p q : Bool} (hx : St.ev ⟨e, L, H⟩ x = .val (.bool p)) (hy : St.ev ⟨e, L, H⟩ y = .val (.bool q)) (h : zcd dd K ⟨e, L, H⟩ (some (True, .bool (p == q)))) :
    opX P cfg ⟨some dd, .binOp .eql t x y t', ty, pos, aft, gd⟩ K ⟨e, L, H⟩ := by
  refine zuj hx hy (r := some (True, .bool (p == q))) ?_ h
  simp only [zmo, u.h]
theorem zde {x y : Bool} (h : x = y) (hk : K ⟨(dd, .val (.bool true)) :: e, L, H⟩) : zcd dd K ⟨e, L, H⟩ (some (True, .bool (x == y))) := by
  subst h; simp only [beq_self_eq_true]; exact ⟨trivial, hk⟩
end
theorem zxz {q : Bool} {nY : NY} {o : Oper} {e e' : List (Nat × EV)} {L : List (Nat × List AV)} {A N N' M : List (List AV)} {K : St → Prop} (hN : N ++ M = N') (h : K ⟨e', L, A ++ N'⟩) : ckK (.mn q) nY o ⟨e, L, A ++ N⟩ K ⟨e', L, A ++ N'⟩ := by
  subst hN
  rw [← List.append_assoc] at h ⊢
  exact zxy h
def aD (p : Nat × Nat) (l : List Nat) : AV := .sl (if l = [] then none else some p) l.length (fl l)
theorem zbd (H : List (List AV)) (p : Nat × Nat) (l : List Nat) : FL H (aD p l) l := FL.fz H _ l
theorem FL.slc {H : List (List AV)} {D : AV} {l : List Nat} (h : FL H D l) {a b : Nat} (hab : a ≤ b) (hb : b ≤ l.length) : ∃ D', zr0 1 a b D = some D' ∧ FL H D' ((l.drop a).take (b - a)) := by
  have e1 : ((l.drop a).take (b - a)).length = b - a := by simp; omega
  have nil : a = b → FL H (.sl none 0 []) ((l.drop a).take (b - a)) := by
    intro hh; subst hh
    simp only [Nat.sub_self, List.take_zero]
    exact FL.fz H none []
  cases D with
  | slnil =>
    have := h.len
    simp only [slen, Option.some.injEq] at this
    exact ⟨_, rfl, nil (by omega)⟩
  | sl tag len cells =>
    have h1 := h.all (by simp)
    have hl := h.len
    simp only [zb4, slen, Option.some.injEq] at h1 hl
    simp only [zr0]
    by_cases hlt : a < b
    · rw [if_pos hlt]
      refine ⟨_, rfl, by simp only [slen]; rw [e1], fun _ => ?_, by simp, ?_⟩
      rotate_left
      · have := h.mx
        simp only [Sx.mx] at this ⊢
        rw [zjk] at this ⊢
        intro i c hi
        rw [List.getElem?_take] at hi
        split at hi
        · rw [List.getElem?_drop] at hi; exact this _ c hi
        · simp at hi
      simp only [zb4, Nat.mul_one]
      rw [e1]
      obtain ⟨g1, g2⟩ := zdz h1
      have hc : l.length ≤ cells.length := by
        rcases Nat.lt_or_ge (l.length - 1) cells.length with hh | hh
        · omega
        · have := g2 (l.length - 1) (by omega)
          rw [Nat.zero_add, List.getElem?_eq_none hh] at this
          simp [fl] at this; omega
      rw [zfc _ (by simp; omega)]
      congr 1
      apply List.ext_getElem?
      intro i
      by_cases hi : i < b - a
      · rw [List.getElem?_take_of_lt hi, List.getElem?_drop]
        have := g2 (a + i) (by omega)
        rw [Nat.zero_add] at this
        rw [← this]
        simp [fl, List.getElem?_take, hi]
      · rw [List.getElem?_eq_none (by simp; omega), List.getElem?_eq_none (by simp; omega)]
    · rw [if_neg hlt]; exact ⟨_, rfl, nil (by omega)⟩
  | slm id gen o len sz =>
    have hz := h.one _ _ _ _ _ rfl
    subst hz
    have h1 := h.all (by simp)
    have hl := h.len
    simp only [slen, Option.some.injEq] at hl
    simp only [zr0, if_true]
    by_cases hlt : a < b
    · rw [if_pos hlt]
      refine ⟨_, rfl, by simp only [slen]; rw [e1], fun _ => ?_, by simp; omega, h.mx⟩
      simp only [zb4, Nat.add_zero, Nat.mul_one] at h1 ⊢
      rw [e1]
      cases hi : H[id]? with
      | none => rw [hi] at h1; simp at h1
      | some cs =>
        rw [hi] at h1
        simp only [Option.bind_some] at h1 ⊢
        split at h1
        case isFalse => simp at h1
        rename_i hg
        rw [if_pos hg]
        obtain ⟨g1, g2⟩ := zdz h1
        have hc : o + l.length ≤ cs.length := by
          rcases Nat.lt_or_ge (o + (l.length - 1)) cs.length with hh | hh
          · omega
          · have := g2 (l.length - 1) (by omega)
            rw [List.getElem?_eq_none hh] at this
            simp [fl] at this; omega
        rw [zgt _ _ _ (by omega)]
        congr 1
        apply List.ext_getElem?
        intro i
        by_cases hi : i < b - a
        · rw [List.getElem?_take_of_lt hi, List.getElem?_drop]
          have := g2 (a + i) (by omega)
          rw [show o + a + i = o + (a + i) from by omega, ← this]
          simp [fl, List.getElem?_take, hi]
        · rw [List.getElem?_eq_none (by simp; omega), List.getElem?_eq_none (by simp; omega)]
    · rw [if_neg hlt]; exact ⟨_, rfl, nil (by omega)⟩
  | junk | bool _ | int _ _ | flt _ | fraw _ | str _ | eptr _ _ | agg _ | tup _ | func _ _ _ | raw _ => have := h.len; simp [slen] at this
theorem set_self {α : Type} {l : List α} {i : Nat} {a : α} (h : l[i]? = some a) : l.set i a = l := by
  apply List.ext_getElem?
  intro j
  rw [List.getElem?_set]
  split
  · rename_i hj; subst hj; split
    · exact h.symm
    · rename_i hl; have := (List.getElem?_eq_some_iff.1 h).1; omega
  · rfl
theorem zpx {e : List (Nat × EV)} {L : List (Nat × List AV)} {H : List (List AV)} {b : Nat} {xs : List Operand} {acc : List AV} {k : List AV → Prop} (hb : (decide (b < 2 ^ 64) && !isNaN b) = true) (h : gK xs (acc ++ [.flt b]) k ⟨e, L, H⟩) : gK (.const (.float .f64 b) :: xs) acc k ⟨e, L, H⟩ := by
  simp only [Bool.and_eq_true, decide_eq_true_eq, Bool.not_eq_true'] at hb
  refine znl (v := .flt b) ?_ h
  have : aOf (.float .f64 b) = .flt b := by
    show zb5 (.float .f64 b) = .flt b
    simp only [zb5, hb.1, if_true, cn, hb.2, Bool.false_eq_true, if_false]
  show EV.val (aOf (.float .f64 b)) = _
  rw [this]
theorem ze0 {e : List (Nat × EV)} {L : List (Nat × List AV)} {H : List (List AV)} {acc acc' : List AV} {k : List AV → Prop} (ha : acc = acc') (h : k acc') : gK [] acc k ⟨e, L, H⟩ := by
  subst ha; exact zfx h
theorem FL.blk {A N : List (List AV)} {n j g q : Nat} {l : List Nat} (hA : A.length = n) (hj : N[j]? = some (fl l)) (hg : g = l.length) (hq : q = l.length) : FL (A ++ N) (.slm (n + j) g 0 q 1) l :=
  FL.slm (zau hA hj) hg (by omega) (by subst hq; simp)
theorem FL.old {H : List (List AV)} {id g q : Nat} {l : List Nat} (hj : H[id]? = some (fl l)) (hg : g = l.length) (hq : q = l.length) : FL H (.slm id g 0 q 1) l :=
  FL.slm hj hg (by omega) (by subst hq; simp)
def dIx (r c k : Nat) : Nat := k / c + k % c * max r 1
def zd9 (r c : Nat) (l : List Nat) : Nat → List Nat
  | 0 => List.replicate (r * c) 0
  | k + 1 => (zd9 r c l k).set (dIx r c k) (l.getD k 0)
def za5 (r c : Nat) (l : List Nat) : List Nat := zd9 r c (l.take (min l.length (r * c))) (min l.length (r * c))
@[simp] theorem zl7 (r c : Nat) (l : List Nat) : ∀ k, (zd9 r c l k).length = r * c
  | 0 => by simp [zd9]
  | k + 1 => by simp [zd9, zl7 r c l k]
@[simp] theorem zfm (r c : Nat) (l : List Nat) : (za5 r c l).length = r * c := by simp [za5]
theorem zvc {r c k : Nat} (h : k < r * c) : dIx r c k < r * c := by
  unfold dIx
  have hc : 0 < c := by rcases Nat.eq_zero_or_pos c with h0 | h0; · subst h0; simp at h
                        · exact h0
  have hr : 0 < r := by rcases Nat.eq_zero_or_pos r with h0 | h0; · subst h0; simp at h
                        · exact h0
  have h1 : k / c < r := (Nat.div_lt_iff_lt_mul hc).2 h
  have h2 : k % c ≤ c - 1 := by have := Nat.mod_lt k hc; omega
  have h3 : k % c * max r 1 ≤ (c - 1) * r := by rw [Nat.max_eq_left hr]; exact Nat.mul_le_mul_right _ h2
  have h4 : (c - 1) * r + r = r * c := by
    rw [← Nat.succ_mul, show (c - 1).succ = c from by omega, Nat.mul_comm]
  omega
end Go.Sx
set_option linter.unusedVariables false
set_option linter.unusedSimpArgs false
namespace Go.Sx
open Go.ChangeShapes Go.WideShapes Go.ChangeAt Go.RowKit Go.Deep
def g0 (W : World) : Gh := ⟨fun _ _ => none, fun b => b < W.heap.size⟩
theorem zyc (W : World) : WRep W (g0 W) [] := ⟨fun id cs h => by simp at h, fun id id' cs cs' b δ δ' h => by simp at h, fun b h => h, fun id gen b δ h => by simp [g0] at h, fun id gen p h => by simp [g0] at h⟩
structure Stays (W W' : World) : Prop where
  kept : W.keptBut W' (fun _ => False)
  fro : ∀ a : Addr, a.block < W.heap.size → W'.frozen? a = W.frozen? a
  heap : ∀ b, b < W.heap.size → W'.heap[b]? = W.heap[b]?
theorem zte {P : Program} {f : Nat} {args : List AV} {cargs : Array Value} {W : World} (hs : Spec P f args [] (.bool true) []) (hl : za7 W (g0 W) args cargs.toList) :
    Calls P f cargs W fun e W' => e = .returned (.bool true) ∧ Stays W W' := by
  refine (hs W (g0 W) cargs (zyc W) hl).mono fun e W' h => ?_
  obtain ⟨v, g', h1, h2, h3, h4⟩ := h
  simp only [zah] at h4
  subst h4
  have hb : ∀ b, b < W.heap.size → W'.heap[b]? = W.heap[b]? := fun b hb => h3.keep b hb (by rintro ⟨id, cs, δ, hc, _⟩; simp at hc)
  refine ⟨h1, ⟨h3.same.1, h3.same.2.1, fun i hi => ?_⟩, h3.fro, hb⟩
  rw [hb i hi]
  exact (World.keptBut_refl W (fun _ => False)).2.2 i hi
section
variable {H : Type} {enc : TypeId × Value → H} {P : Program} {W : World} {base : Nat}
theorem zq1 {t : TypeId} {n : Nat} {v : Value} {spare : Nat → Bool} {held : Bool} {x : DataW H × List MemPlace} (ht : P.underlying t = some (.float .f64)) (h : DataW.trod enc P W base spare held n t [v] = some x) : ∃ b, v = .float .f64 b ∧ b < 2 ^ 64 := by
  cases n with
  | zero => simp [DataW.trod] at h
  | succ n =>
    unfold DataW.trod at h
    rw [ht] at h
    split at h <;> simp_all
    subst_vars
    obtain ⟨⟨_, h1⟩, _⟩ := h
    simpa [Lit.wf] using h1
theorem zto {t e : TypeId} {n : Nat} {X : Value} {x : DataW H × List MemPlace} (ht : P.underlying t = some (.slice e)) (he : P.underlying e = some (.float .f64)) (hc : P.cellsOf e = 1) (h : DataW.trod enc P W base (fun _ => true) true n t [X] = some x) :
    ∃ p l, l.length ≤ 9223372036854775807 ∧ zah W (g0 W) (aD p l) X := by
  rcases open_slice1 ht hc h with ⟨h1, _⟩ | ⟨a, len, cap, m, k, V, D, Pl, h1, hb, hl, hm, hmm, _, hx⟩
  · simp only [List.cons.injEq, and_true] at h1
    subst h1
    exact ⟨(0, 0), [], by simp, by simp only [aD, if_true, zah]; exact ⟨0, Nat.le_refl _, .inl (by simp [fl])⟩⟩
  · simp only [List.cons.injEq, and_true] at h1
    subst h1
    simp only [if_true] at hmm
    have hf : ∀ i, i < len → ∃ b, V i = .float .f64 b ∧ b < 2 ^ 64 := fun i hi => zq1 he (hx i (by omega)).2
    have hbs : ∃ bs : Nat → Nat, ∀ i, i < len → V i = .float .f64 (bs i) ∧ bs i < 2 ^ 64 :=
      ⟨fun i => if h : i < len then (hf i h).choose else 0, fun i hi => by simp only [hi, dif_pos]; exact (hf i hi).choose_spec⟩
    obtain ⟨bs, hbs⟩ := hbs
    have hml : maxLen = 9223372036854775807 := by decide
    refine ⟨(a.block, a.off), (List.range len).map fun i => cn (bs i), by simp; omega, ?_⟩
    by_cases h0 : len = 0
    · subst h0
      simp only [aD, List.range_zero, List.map_nil, if_true, zah, List.length_nil]
      exact ⟨cap, Nat.zero_le _, .inl (by simp [fl])⟩
    · have hc0 := (hx 0 (by omega)).1
      have ha0 : a.add 0 = a := by simp [Addr.add]
      rw [ha0] at hc0
      obtain ⟨_, _, hsh, _, hsp⟩ := World.shape?_of_cell? hc0
      have hae : a = ⟨a.block, a.off, none⟩ := by cases a; simp_all
      have hne : ¬ ((List.range len).map fun i => cn (bs i)) = [] := by simp; omega
      simp only [aD, if_neg hne, zah, List.length_map, List.length_range]
      have hblk : a.block < W.heap.size := by
        unfold World.shape? at hsh
        cases hq : W.heap[a.block]? with
        | none => rw [hq] at hsh; simp at hsh
        | some o => exact (Array.getElem?_eq_some_iff.1 hq).1
      refine ⟨cap, hl, .inr ⟨a.block, a.off, by rw [← hae], .inr rfl, hblk, ?_⟩⟩
      rw [zdf]
      intro i c hi
      have hil : i < len := by
        have := (List.getElem?_eq_some_iff.1 hi).1
        simpa [fl] using this
      have hci := (hx i (by omega)).1
      have had : a.add i = ⟨a.block, a.off + i, none⟩ := by
        rw [hae]; exact Addr.add_mid _ _ _
      rw [had] at hci
      refine ⟨V i, hci, ?_, ?_⟩
      · rw [(hbs i hil).1]; rfl
      · simp [fl, hil] at hi
        subst hi
        simp only [zah]
        exact ⟨bs i, (hbs i hil).1, (hbs i hil).2, rfl⟩
theorem zdv {t : TypeId} {n : Nat} {v : Value} {spare : Nat → Bool} {held : Bool} {x : DataW H × List MemPlace} (ht : P.underlying t = some (.int .i64)) (h : DataW.trod enc P W base spare held n t [v] = some x) : ∃ i, v = .int .i64 i ∧ -9223372036854775808 ≤ i ∧ i ≤ 9223372036854775807 := by
  obtain ⟨i, h1, _, h2⟩ := DataW.trod_int ht h
  simp only [List.cons.injEq, and_true] at h1
  simp only [Lit.wf, IntKind.min, IntKind.max, IntKind.signed, IntKind.bits] at h2
  simp at h2
  exact ⟨i, h1, by omega, by omega⟩
theorem zif {t ts tf ti : TypeId} {fs : Array Field} {v : Value} {d : DataW H} {ps : List MemPlace} {r : Reach} {b0 : Nat} (hs : P.underlying t = some (.struct fs)) (hone : oneCellFields P fs = true) (hty : fs.toList.map (·.type) = [ts, ti, ti, ti, ti]) (hC : P.cellsOf t = 5)
    (hts : P.underlying ts = some (.slice tf)) (htf : P.underlying tf = some (.float .f64)) (hcf : P.cellsOf tf = 1) (hti : P.underlying ti = some (.int .i64))
    (hv : Value.okWide P W r b0 t v) (h : DataW.Trod enc P W base (fun _ => true) true t v d ps) :
    ∃ p l off rows cols ld, MI l.length off rows cols ld ∧ zah W (g0 W) (mt (aD p l) off rows cols ld) v := by
  obtain ⟨cs, rfl, hsz⟩ := okWide_struct hs hv
  obtain ⟨fuel, hf⟩ := h
  obtain ⟨xs, n, _, _, hcl, hlen, hg⟩ := DataW.trod_struct hs hf
  have hfl : fs.size = 5 := by have := congrArg List.length hty; simpa using this
  have get : ∀ i (hi : i < 5), ∃ c y, cs[i]? = some c ∧ DataW.trod enc P W base (fun _ => true) true n ((fs[i]'(by omega)).type) [c] = some y := by
    intro i hi
    have hfi : fs[i]? = some (fs[i]'(by omega)) := Array.getElem?_eq_getElem (by omega)
    obtain ⟨h1, h2⟩ := hone_of hone i _ hfi
    have h3 := hg i _ hfi
    rw [h1, h2] at h3
    have hci : i < cs.size := by omega
    have hd : ((Value.agg cs).cells.toList.drop i).take 1 = [cs[i]] := by
      show (cs.toList.drop i).take 1 = _
      rw [List.drop_eq_getElem_cons (by simpa using hci)]
      simp
    have hxi : i < xs.length := by omega
    have h3' : DataW.trod enc P W base (fun _ => true) true n ((fs[i]'(by omega)).type) (((Value.agg cs).cells.toList.drop i).take 1) = xs[i]? := h3
    rw [hd, List.getElem?_eq_getElem hxi] at h3'
    exact ⟨cs[i], _, by simp [hci], h3'⟩
  have hti' : ∀ i (hi : i < 5), (fs[i]'(by omega)).type = [ts, ti, ti, ti, ti][i]'(by simpa using hi) := by
    intro i hi
    have := congrArg (·[i]?) hty
    simp only [List.getElem?_map, Array.getElem?_toList] at this
    rw [Array.getElem?_eq_getElem (by omega)] at this
    rw [List.getElem?_eq_getElem (by simpa using hi)] at this
    simpa using this
  obtain ⟨c0, y0, e0, t0⟩ := get 0 (by omega)
  obtain ⟨c1, y1, e1, t1⟩ := get 1 (by omega)
  obtain ⟨c2, y2, e2, t2⟩ := get 2 (by omega)
  obtain ⟨c3, y3, e3, t3⟩ := get 3 (by omega)
  obtain ⟨c4, y4, e4, t4⟩ := get 4 (by omega)
  rw [hti' 0 (by omega)] at t0
  rw [hti' 1 (by omega)] at t1
  rw [hti' 2 (by omega)] at t2
  rw [hti' 3 (by omega)] at t3
  rw [hti' 4 (by omega)] at t4
  simp only [List.getElem_cons_zero, List.getElem_cons_succ] at t0 t1 t2 t3 t4
  obtain ⟨p, l, hl, hD⟩ := zto hts htf hcf t0
  obtain ⟨i1, rfl, a1, b1⟩ := zdv hti t1
  obtain ⟨i2, rfl, a2, b2⟩ := zdv hti t2
  obtain ⟨i3, rfl, a3, b3⟩ := zdv hti t3
  obtain ⟨i4, rfl, a4, b4⟩ := zdv hti t4
  have hcs : cs.toList = [c0, .int .i64 i1, .int .i64 i2, .int .i64 i3, .int .i64 i4] := by
    apply List.ext_getElem?
    intro i
    match i with
    | 0 => simpa using e0
    | 1 => simpa using e1
    | 2 => simpa using e2
    | 3 => simpa using e3
    | 4 => simpa using e4
    | i + 5 => rw [List.getElem?_eq_none (by simp; omega), List.getElem?_eq_none (by simp)]
  refine ⟨p, l, i1, i2, i3, i4, ⟨hl, a1, b1, a2, b2, a3, b3, a4, b4⟩, ?_⟩
  have ho0 : c0.oneCell' = true := by
    simp only [aD, zah] at hD
    obtain ⟨cap, _, ⟨_, _, _, ao, rfl⟩ | ⟨b, o, rfl, _⟩⟩ := hD <;> rfl
  simp only [mt, zah]
  refine ⟨cs, rfl, ?_, ?_⟩
  · rw [hcs]; simp only [List.mem_cons, List.not_mem_nil, or_false]
    rintro x (rfl | rfl | rfl | rfl | rfl) <;> first | exact ho0 | rfl
  · rw [hcs]
    simp only [za7]
    exact ⟨_, _, rfl, hD, _, _, rfl, by simp [zah], _, _, rfl, by simp [zah], _, _, rfl, by simp [zah], _, _, rfl, by simp [zah], rfl⟩
theorem zqh {t : TypeId} {v : Value} {d : DataW H} {ps : List MemPlace} {r : Reach} {b0 : Nat} (ht : P.underlying t = some (.int .i64)) (hv : Value.okWide P W r b0 t v) (h : DataW.Trod enc P W base (fun _ => true) true t v d ps) :
    ∃ i, zah W (g0 W) (.int .i64 i) v ∧ -9223372036854775808 ≤ i ∧ i ≤ 9223372036854775807 := by
  obtain ⟨i, rfl, _, _, hw⟩ := open_int ht hv h
  simp only [Lit.wf, IntKind.min, IntKind.max, IntKind.signed, IntKind.bits] at hw
  simp at hw
  exact ⟨i, by simp [zah], by omega, by omega⟩
theorem zlj {t : TypeId} {v : Value} {d : DataW H} {ps : List MemPlace} {r : Reach} {b0 : Nat} (ht : P.underlying t = some (.float .f64)) (hv : Value.okWide P W r b0 t v) (h : DataW.Trod enc P W base (fun _ => true) true t v d ps) :
    ∃ x, zah W (g0 W) (.flt x) v := by
  obtain ⟨b, rfl, _, _, hw⟩ := open_float ht hv h
  simp only [Lit.wf, decide_eq_true_eq] at hw
  exact ⟨cn b, by simp only [zah]; exact ⟨b, rfl, hw, rfl⟩⟩
theorem zmn {t : TypeId} (hl : laidOutB P = true) (hr : P.readableRec t = true) (hrow : t < P.types.size) {W' : World} {sp : Nat → Bool} {v : Value} {d : DataW H} {ps : List MemPlace}
    (h : DataW.Trod enc P W 0 (fun _ => true) true t v d ps) (hst : Stays W W') (hlt : ∀ p ∈ ps, p.block < W.heap.size) (hsp : ∀ p ∈ ps, sp p.block = true) : DataW.Trod enc P W' 0 sp true t v d ps := by
  refine Go.WideElems.Trod_stays hl hr hrow h (fun p hp => ?_) hsp
  have := hst.heap p.block (hlt p hp)
  cases p with
  | cell b o => exact zm7 this
  | map b => exact this
theorem zjz (hl : laidOutB P = true) {W' : World} {sp : Nat → Bool} (hst : Stays W W') : ∀ {ts : List TypeId} {vs : List Value} {ds : List (DataW H)} {ps : List MemPlace}, (∀ t ∈ ts, P.readableRec t = true ∧ t < P.types.size) →
    DataW.TrodAll enc P W 0 (fun _ => true) true ts vs ds ps → (∀ p ∈ ps, p.block < W.heap.size) → (∀ p ∈ ps, sp p.block = true) → DataW.TrodAll enc P W' 0 sp true ts vs ds ps
  | [], [], [], ps, _, h, _, _ => h
  | [], [], _ :: _, _, _, h, _, _ => h.elim
  | [], _ :: _, _, _, _, h, _, _ => by simp [DataW.TrodAll] at h
  | _ :: _, [], _, _, _, h, _, _ => by simp [DataW.TrodAll] at h
  | _ :: _, _ :: _, [], _, _, h, _, _ => h.elim
  | t :: ts, v :: vs, d :: ds, ps, hts, ⟨p, q, h1, h2, h3⟩, hlt, hsp => by
    subst h3
    exact ⟨p, q, zmn hl (hts t (by simp)).1 (hts t (by simp)).2 h1 hst (fun x hx => hlt x (by simp [hx])) (fun x hx => hsp x (by simp [hx])),
      zjz hl hst (fun t ht => hts t (by simp [ht])) h2 (fun x hx => hlt x (by simp [hx])) (fun x hx => hsp x (by simp [hx])), rfl⟩
theorem zp9 {f : Func} {s : ChangeSpec} {apart fresh handsOn again : Bool} {W' : World} {args : Array Value} {ds gs : List (DataW H)} {before : List MemPlace} {tb : TypeId}
    (hW : DataW.Whole enc P f.params.toList s.vars apart W args.toList ds gs before) (hv0 : s.vars = []) (hst : Stays W W') (hres : f.resultTypes = #[tb]) (htb : P.underlying tb = some .bool)
    (hspec : s.fn H (ds ++ gs) = { results := [.lit (.bool true)], args := ds }) (hl : laidOutB P = true) (hts : ∀ t ∈ f.params.toList, P.readableRec t = true ∧ t < P.types.size) :
    s.post enc P f apart fresh handsOn again W args (.bool true) W' := by
  have hlt := hW.lt
  have hW' := hW
  obtain ⟨p, q, h1, h2, h3, h4, h5⟩ := hW
  rw [hv0] at h2
  have hgq : gs = [] ∧ q = [] := by
    cases gs with
    | nil => exact ⟨rfl, by simpa [DataW.TrodVars] using h2⟩
    | cons g gs => simp [DataW.TrodVars] at h2
  obtain ⟨rfl, rfl⟩ := hgq
  rw [List.append_nil] at h3
  subst h3
  have hR : ∀ (b : Nat) (sp : Nat → Bool) (hd : Bool), DataW.TrodAll enc P W' b sp hd f.resultTypes.toList ((Value.bool true).resultList f.resultTypes.size) [.lit (.bool true)] [] := by
    intro b sp hd
    rw [hres]
    exact ⟨[], [], shut_bool htb true, rfl, rfl⟩
  have hA : ∀ sp : Nat → Bool, (∀ x ∈ before, sp x.block = true) → DataW.TrodAll enc P W' 0 sp true f.params.toList args.toList ds before := fun sp hsp => zjz hl hst hts h1 hlt hsp
  have hV : ∀ sp : Nat → Bool, DataW.TrodVars enc P W' sp s.vars ([] : List (DataW H)) [] := fun sp => by rw [hv0]; rfl
  refine ⟨ds, [], before, [], before, [], hW', by rw [hspec]; exact hR _ _ _, by rw [hspec]; exact hA _ (fun x hx => by simpa using hlt x hx), by rw [hspec]; exact hV _, World.keptBut_mono (fun p h => h.elim) hst.kept, fun _ => ?_⟩
  refine ⟨ok_one hres rfl (okWide_bool_mk htb true), [.lit (.bool true)] ++ ds, [], [] ++ before, ⟨[] ++ before, [], trodAll_append (hA _ (fun _ _ => rfl)) (hR _ _ _), hV _, by simp, ?_, ?_⟩, ?_⟩
  · intro b off hp
    rw [hst.fro _ (hlt _ (by simpa using hp))]
    exact h4 b off (by simpa using hp)
  · intro ha; simpa using h5 ha
  · intro x hx _; simpa using hx
end
end Go.Sx
set_option linter.unusedVariables false
set_option linter.unusedSimpArgs false
namespace Go.Sx
section
variable {P : Program} {cfg : Cfg} {dr : Array Oper → (St → Prop) → St → Prop} {e : List (Nat × EV)} {L : List (Nat × List AV)} {H : List (List AV)} {Q : XE → St → Prop} {K : St → Prop}
variable {d : Option Tmp} {ty : TypeId} {pos : String} {aft : Array Edge} {gd : Option (Nat × Bool)} {dd : Nat}
theorem zmq {b : Nat} (hb : (decide (b < 2 ^ 64) && !isNaN b) = true) : aOf (.float .f64 b) = .flt b := by
  simp only [Bool.and_eq_true, decide_eq_true_eq, Bool.not_eq_true'] at hb
  show zb5 (.float .f64 b) = .flt b
  simp only [zb5, hb.1, if_true, cn, hb.2, Bool.false_eq_true, if_false]
theorem zmw {b : Nat} (hb : (decide (b < 2 ^ 64) && !isNaN b) = true) (h : K ⟨(dd, .val (.flt b)) :: e, L, H⟩) : opX P cfg ⟨some dd, .assign (.const (.float .f64 b)), ty, pos, aft, gd⟩ K ⟨e, L, H⟩ :=
  zf7 (by show EV.val (aOf (.float .f64 b)) = _; rw [zmq hb]) h
theorem zsi {b : Nat} (hb : (decide (b < 2 ^ 64) && !isNaN b) = true) (h : K ⟨(dd, .val (.flt b)) :: e, L, H⟩) : opX P cfg ⟨some dd, .move (.const (.float .f64 b)), ty, pos, aft, gd⟩ K ⟨e, L, H⟩ :=
  zmz (by show EV.val (aOf (.float .f64 b)) = _; rw [zmq hb]) h
theorem zad {k : IntKind} {n : Int} (h : K ⟨(dd, .val (.int k n)) :: e, L, H⟩) : opX P cfg ⟨some dd, .assign (.const (.int k n)), ty, pos, aft, gd⟩ K ⟨e, L, H⟩ := zf7 rfl h
theorem zc9 {k : IntKind} {n : Int} (h : K ⟨(dd, .val (.int k n)) :: e, L, H⟩) : opX P cfg ⟨some dd, .move (.const (.int k n)), ty, pos, aft, gd⟩ K ⟨e, L, H⟩ := zmz rfl h
theorem zae (h : K ⟨(dd, .val .slnil) :: e, L, H⟩) : opX P cfg ⟨some dd, .assign (.const (.slice none 0 0)), ty, pos, aft, gd⟩ K ⟨e, L, H⟩ := zf7 rfl h
theorem zr8 {id : Nat} {xs : List Operand} {acc : List AV} {b : Nat} (hb : (decide (b < 2 ^ 64) && !isNaN b) = true) (h : ze5 P cfg id xs (acc ++ [.flt b]) dd K ⟨e, L, H⟩) : ze5 P cfg id (.const (.float .f64 b) :: xs) acc dd K ⟨e, L, H⟩ :=
  zmr (by show EV.val (aOf (.float .f64 b)) = _; rw [zmq hb]) h
theorem zse {f : Operand} {id : Nat} {first caps : List AV} {args : Array Operand} {ts : Array TypeId} (hf : St.ev ⟨e, L, H⟩ f = .val (.func id first caps)) (h : gK args.toList [] (fun vs => zcs P cfg id (first ++ vs ++ caps) dd K ⟨e, L, H⟩) ⟨e, L, H⟩) :
    opX P cfg ⟨some dd, .call { callee := .value f, args := args, argTypes := ts }, ty, pos, aft, gd⟩ K ⟨e, L, H⟩ := by
  obtain ⟨vs, ha, r, H', h1, h2, h3⟩ := h
  simp only [opX, opE, hf, ha]
  exact ⟨r, H', by simpa using h1, h2, h3⟩
theorem zxd {f : Nat} {first caps : Array Operand} (h : gK first.toList [] (fun vs => gK caps.toList [] (fun us => K ⟨(dd, .val (.func f vs us)) :: e, L, H⟩) ⟨e, L, H⟩) ⟨e, L, H⟩) :
    opX P cfg ⟨some dd, .makeFunc (.func f) first caps, ty, pos, aft, gd⟩ K ⟨e, L, H⟩ := by
  obtain ⟨vs, h1, us, h2, h⟩ := h
  rw [zbs P cfg e L H K _ _ _ _ _ _ rfl]
  unfold zez at h1 h2
  simp only [zak, h1, h2, zck]
  simp only [List.nil_append] at h
  exact ⟨trivial, h⟩
theorem zyi {t : TypeId} {A N : List (List AV)} {n j g o len sz off k : Nat} {cs l : List AV} [i : TyI P t k true] (hA : A.length = n) (hj : N[j]? = some cs) (hg : cs.length = g) (hl : gc cs (o + off) k = some l) (hk : K ⟨(dd, .val (.agg l)) :: e, L, A ++ N⟩) : zbt P t dd K ⟨e, L, A ++ N⟩ (.val (.eptr (.slm (n + j) g o len sz) off)) :=
  zrq (by simp only [zb4, zau hA hj, Option.bind_some, hg, if_true]; exact hl) hk
theorem zw4 {t : TypeId} {A N : List (List AV)} {n j g o len sz off : Nat} {cs : List AV} {c : AV} [i : TyI P t 1 false] (hA : A.length = n) (hj : N[j]? = some cs) (hg : cs.length = g) (hl : cs[o + off]? = some c) (hk : K ⟨(dd, .val c) :: e, L, A ++ N⟩) : zbt P t dd K ⟨e, L, A ++ N⟩ (.val (.eptr (.slm (n + j) g o len sz) off)) :=
  zjj (by simp only [zb4, zau hA hj, Option.bind_some, hg, if_true]; exact zjd hl) hk
theorem zzd {t : TypeId} {A N : List (List AV)} {b g o len sz off : Nat} {cs : List AV} {c : AV} [i : TyI P t 1 false] (hj : A[b]? = some cs) (hg : cs.length = g) (hl : cs[o + off]? = some c) (hk : K ⟨(dd, .val c) :: e, L, A ++ N⟩) : zbt P t dd K ⟨e, L, A ++ N⟩ (.val (.eptr (.slm b g o len sz) off)) :=
  zjj (by simp only [zb4, zdj hj, Option.bind_some, hg, if_true]; exact zjd hl) hk
theorem zd7 {id : Nat} {xs : List Operand} {acc : List AV} {k : IntKind} {n : Int} (h : ze5 P cfg id xs (acc ++ [.int k n]) dd K ⟨e, L, H⟩) : ze5 P cfg id (.const (.int k n) :: xs) acc dd K ⟨e, L, H⟩ := zmr rfl h
def gV (n i k : Nat) : AV := if k = 0 then .slnil else .slm (n + i) k 0 k 1
def gN (l : List AV) : List (List AV) := if l = [] then [] else [l]
theorem zur {t tx : TypeId} {s x : Operand} {n i k by_ el' z' : Nat} {z v : AV} {l l' : List AV} {A N₀ : List (List AV)} [ei : EI P t 1 by_ [z]] [si : SlI P tx el' z'] (hs : St.ev ⟨e, L, A ++ (N₀ ++ gN l)⟩ s = .val (gV n i k)) (hx : St.ev ⟨e, L, A ++ (N₀ ++ gN l)⟩ x = .val (.sl none 1 [v]))
    (hA : A.length = n) (hi : N₀.length = i) (hk : l.length = k) (hm : k + 1 ≤ 2 ^ 32) (hn : cfg.n0 = n) (hz : (decide (by_ ≤ 2 ^ 10) && decide (0 < by_)) = true) (hl : l ++ [v] = l')
    (h : K ⟨(dd, .val (gV n i (k + 1))) :: e, L, A ++ (N₀ ++ gN l')⟩) :
    opX P cfg ⟨some dd, .call { callee := .builtin .append, args := #[s, x], argTypes := #[t, tx] }, ty, pos, aft, gd⟩ K ⟨e, L, A ++ (N₀ ++ gN l)⟩ := by
  subst hl
  have e1 : gV n i (k + 1) = .slm (n + i) (k + 1) 0 (k + 1) 1 := by simp [gV]
  have e2 : gN (l ++ [v]) = [l ++ [v]] := by simp [gN]
  rw [e1, e2] at h
  cases l with
  | nil =>
    simp only [List.length_nil] at hk; subst hk
    simp only [gN, if_true, List.append_nil, List.nil_append] at hs hx h ⊢
    exact zui (n := n) (i := i) (xs := [v]) (m := 1) hs hx (zg4 rfl) (by omega) hA hi hz rfl rfl h
  | cons a l =>
    have hk0 : k ≠ 0 := by simp at hk; omega
    have e3 : gV n i k = .slm (n + i) k 0 k 1 := by simp [gV, hk0]
    have e4 : gN (a :: l) = [a :: l] := by simp [gN]
    rw [e3] at hs
    rw [e4] at hs hx ⊢
    subst hi
    exact zi0 (cs := a :: l) (xs := [v]) (m := 1) hs hx hA (by simp) (zg4 rfl) hk rfl hm (.inl (by omega)) hz rfl (by simp) (by simp at hk ⊢; omega) rfl h
theorem zxu {n i k : Nat} {l : List AV} {A N₀ : List (List AV)} (hA : A.length = n) (hi : N₀.length = i) (hk : l.length = k) (hm : mxL l ≤ n) : Fr n [] (A ++ (N₀ ++ gN l)) (gV n i k) (.sl none k l) := by
  cases l with
  | nil =>
    simp only [List.length_nil] at hk; subst hk
    simp only [gV, if_true]; exact Fr.nil
  | cons a l =>
    have hk0 : k ≠ 0 := by simp at hk; omega
    simp only [gV, if_neg hk0]
    have : (A ++ (N₀ ++ gN (a :: l)))[n + i]? = some (a :: l) := by
      refine zau hA ?_
      subst hi; simp [gN]
    exact Fr.fz (by omega) (by simp) this hk (zfc _ (by rw [hk]; omega)) (Frs.old hm)
end
abbrev vt (D : AV) (off n inc : Int) : AV := .agg [D, .int .i64 off, .int .i64 n, .int .i64 inc]
structure VI (m : Nat) (off n inc : Int) : Prop where
  m : m ≤ 9223372036854775807
  o1 : -9223372036854775808 ≤ off
  o2 : off ≤ 9223372036854775807
  n1 : -9223372036854775808 ≤ n
  n2 : n ≤ 9223372036854775807
  i1 : -9223372036854775808 ≤ inc
  i2 : inc ≤ 9223372036854775807
def zaq (m : Nat) (off n inc : Int) : Prop := 0 ≤ n ∧ 1 ≤ inc ∧ 0 ≤ off ∧ (n = 0 ∨ (off < m ∧ (n - 1) * inc ≤ m - 1 - off))
instance (m : Nat) (off n inc : Int) : Decidable (zaq m off n inc) := by unfold zaq; infer_instance
theorem zc3 {m : Nat} {off n inc i : Int} (h : zaq m off n inc) (hi : 0 ≤ i) (hi' : i < n) : 0 ≤ i * inc ∧ 0 ≤ off + i * inc ∧ off + i * inc < m ∧ 0 ≤ off ∧ 1 ≤ inc := by
  obtain ⟨h1, h2, h3, h4⟩ := h
  have h7 : i * inc ≤ (n - 1) * inc := Int.mul_le_mul_of_nonneg_right (by omega) (by omega)
  have h8 : 0 ≤ i * inc := Int.mul_nonneg hi (by omega)
  exact ⟨h8, by omega, by omega, h3, h2⟩
theorem zdh {D : AV} {n : Nat} (h : slen D = some n) : D.cells = some [D] := by
  cases D <;> first | rfl | (simp [slen] at h; done)
def zdg (off rows ld j : Int) : Int := if 0 < rows then off + j * ld else off
def zym (off cols i : Int) : Int := if 0 < cols then off + i else off
theorem zdq {n : Nat} {off rows cols ld j : Int} (h : zaa n off rows cols ld) (hj : 0 ≤ j) (hj' : j < cols) : zaq n (zdg off rows ld j) rows 1 := by
  obtain ⟨h1, h2, h3, h4, h5, h6⟩ := id h
  unfold zdg
  split
  · rename_i hr
    have hp := zaj h (i := 0) (j := j) (by omega) hj hr hj'
    have hq := zaj h (i := rows - 1) (j := j) (by omega) hj (by omega) hj'
    refine ⟨h1, by omega, by omega, ?_⟩
    omega
  · exact ⟨h1, by omega, h3, .inl (by omega)⟩
def rml (g : Nat → Nat) (k : Nat) : List Nat := (List.range k).map g
@[simp] theorem zt0 (g : Nat → Nat) (k : Nat) : (rml g k).length = k := by simp [rml]
theorem zqo (g : Nat → Nat) (k : Nat) : rml g (k + 1) = rml g k ++ [g k] := by simp [rml, List.range_succ]
theorem zwl (g : Nat → Nat) (k : Nat) : fl (rml g k) ++ [.flt (g k)] = fl (rml g (k + 1)) := by rw [zqo]; simp [fl]
theorem zfq {g : Nat → Nat} {n k : Nat} (h : k < n) : (rml g n).getD k 0 = g k := by simp [rml, List.getD, h]
theorem zec {g g' : Nat → Nat} {n : Nat} (h : ∀ k, k < n → g k = g' k) : rml g n = rml g' n := by
  unfold rml; exact List.map_congr_left (fun k hk => h k (by simpa using hk))
def mel (l : List Nat) (off ld : Int) (i j : Nat) : Nat := l.getD (off + (i : Int) + (j : Int) * ld).toNat 0
abbrev mM (A : AV) (r c : Int) : AV := .agg [.int .i64 r, .int .i64 c, A]
def rmA (g : Nat → Nat → Nat) (r c : Nat) : List Nat := rml (fun k => g (k / c) (k % c)) (r * c)
@[simp] theorem zx7 (g : Nat → Nat → Nat) (r c : Nat) : (rmA g r c).length = r * c := by simp [rmA]
theorem znv {r c i j : Nat} (hi : i < r) (hj : j < c) : i * c + j < r * c := by
  have h1 : (i + 1) * c ≤ r * c := Nat.mul_le_mul_right _ hi
  rw [Nat.add_mul, Nat.one_mul] at h1
  omega
theorem znu {c i j : Nat} (hj : j < c) : (i * c + j) / c = i := by
  rw [Nat.mul_comm, Nat.mul_add_div (by omega), Nat.div_eq_of_lt hj, Nat.add_zero]
theorem znw {c i j : Nat} (hj : j < c) : (i * c + j) % c = j := by
  rw [Nat.mul_comm, Nat.mul_add_mod, Nat.mod_eq_of_lt hj]
theorem ztz {g : Nat → Nat → Nat} {r c i j : Nat} (hi : i < r) (hj : j < c) : (rmA g r c).getD (i * c + j) 0 = g i j := by
  rw [rmA, zfq (znv hi hj), znu hj, znw hj]
def ofL (g : Nat → Nat → Nat) (r c n : Nat) : List Nat := rml (fun k => if k < n then g (k / c) (k % c) else 0) (r * c)
@[simp] theorem ztk (g : Nat → Nat → Nat) (r c n : Nat) : (ofL g r c n).length = r * c := by simp [ofL]
theorem zlf (g : Nat → Nat → Nat) (r c : Nat) : ofL g r c 0 = List.replicate (r * c) 0 := by
  apply List.ext_getElem
  · simp
  · intro i h1 h2; simp [ofL, rml]
theorem zn6 (g : Nat → Nat → Nat) (r c : Nat) : ofL g r c (r * c) = rmA g r c := by
  unfold ofL rmA
  exact zec fun k hk => by rw [if_pos hk]
theorem zn7 {g : Nat → Nat → Nat} {r c i j : Nat} (hi : i < r) (hj : j < c) {x : Nat} (hx : x = g i j) : (ofL g r c (i * c + j)).set (i * c + j) x = ofL g r c (i * c + j + 1) := by
  have hlt := znv hi hj
  subst hx
  apply List.ext_getElem
  · simp
  · intro k h1 h2
    simp only [ztk] at h2
    rw [List.getElem_set]
    split
    · rename_i hk
      subst hk
      simp [ofL, rml, znu hj, znw hj]
    · rename_i hk
      simp only [ofL, rml, List.getElem_map, List.getElem_range]
      by_cases h : k < i * c + j
      · rw [if_pos h, if_pos (by omega)]
      · rw [if_neg h, if_neg (by omega)]
def cmA (g : Nat → Nat → Nat) (r c : Nat) : List Nat := rml (fun k => g (k % r) (k / r)) (r * c)
@[simp] theorem zxo (g : Nat → Nat → Nat) (r c : Nat) : (cmA g r c).length = r * c := by simp [cmA]
theorem zc4 (r c : Nat) (l : List Nat) : zaa (za5 r c l).length 0 (r : Int) (c : Int) ((max r 1 : Nat) : Int) := by
  rw [zfm]
  refine ⟨by omega, by omega, by omega, by omega, by omega, ?_⟩
  rcases Nat.eq_zero_or_pos r with h | h
  · exact .inl (by omega)
  rcases Nat.eq_zero_or_pos c with h' | h'
  · exact .inr (.inl (by omega))
  have e1 : max r 1 = r := Nat.max_eq_left h
  have e2 : ((r * c : Nat) : Int) = ((c : Int) - 1) * (r : Int) + (r : Int) := by
    obtain ⟨c', rfl⟩ : ∃ c', c = c' + 1 := ⟨c - 1, by omega⟩
    have : r * (c' + 1) = c' * r + r := by rw [Nat.mul_add, Nat.mul_one, Nat.mul_comm]
    rw [this]
    have h3 : ((c' + 1 : Nat) : Int) - 1 = (c' : Int) := by omega
    rw [h3]; simp
  have e3 : 0 ≤ ((c : Int) - 1) * (r : Int) := Int.mul_nonneg (by omega) (by omega)
  rw [e1]
  refine .inr (.inr ⟨by omega, by omega, by omega⟩)
theorem zeh (r c : Nat) (hr : r ≤ 64) (hc : c ≤ 64) (l : List Nat) : MI (za5 r c l).length 0 (r : Int) (c : Int) ((max r 1 : Nat) : Int) := by
  rw [zfm]
  have := Nat.mul_le_mul hr hc
  exact ⟨by omega, by omega, by omega, by omega, by omega, by omega, by omega, by omega, by omega⟩
section
variable {P : Program} {cfg : Cfg} {dr : Array Oper → (St → Prop) → St → Prop} {e : List (Nat × EV)} {L : List (Nat × List AV)} {H : List (List AV)} {Q : XE → St → Prop} {K : St → Prop}
variable {kn : Option (Nat × Bool)} {ops : Array Oper} {d : Option Tmp} {o : Op} {ty : TypeId} {pos : String} {aft : Array Edge} {rest : List Oper} {j : Nat} {b want : Bool} {gd : Option (Nat × Bool)} {dd : Nat}
theorem m00 {op : BinOp} {t t' : TypeId} {x y : Operand} {vx vy : EV} {r : Option (Prop × AV)} (h : zcd dd K ⟨e, L, H⟩ r) (hx : St.ev ⟨e, L, H⟩ x = vx := by (conv => {lhs; whnf}); done) (hy : St.ev ⟨e, L, H⟩ y = vy := by (conv => {lhs; whnf}); done) (hr : zmo P op t vx vy = r := by (conv => {lhs; whnf}); done) : opX P cfg ⟨some dd, .binOp op t x y t', ty, pos, aft, gd⟩ K ⟨e, L, H⟩ := zuj hx hy hr h
theorem m01 {t : TypeId} {x : Operand} {vx : EV} {r : Option (List AV)} {cs : List AV} (h : K ⟨(dd, .loc dd 0) :: e, (dd, cs) :: L, H⟩) (hx : St.ev ⟨e, L, H⟩ x = vx := by (conv => {lhs; whnf}); done) (hr : vx.asV.bind AV.cells = r := by exact rfl) (hcs : r = some cs := by exact rfl) (hesc : cfg.esc = false := by exact rfl) (hn : zf3 dd e = true := by exact rfl) : opX P cfg ⟨some dd, .box t x, ty, pos, aft, gd⟩ K ⟨e, L, H⟩ := zxa hx hr hcs hesc hn h
theorem m02 {x t n : Nat} {rs : List ResultVar} {acc : List AV} {k : List AV → Prop} [ti : TyI P t n true] {key off : Nat} {cs l : List AV} (h : rK P rs (acc ++ [.agg l]) k ⟨e, L, H⟩) (hx : St.ev ⟨e, L, H⟩ (.tmp x) = .loc key off := by (conv => {lhs; whnf}); done) (hc : lk L key = some cs := by exact rfl) (hl : gc cs off n = some l := by exact rfl) : rK P (.cell x t :: rs) acc k ⟨e, L, H⟩ := zqn hx hc hl h
theorem m03 {x t : Nat} {rs : List ResultVar} {acc : List AV} {k : List AV → Prop} [ti : TyI P t 1 false] {key off : Nat} {cs : List AV} {v : AV} (h : rK P rs (acc ++ [v]) k ⟨e, L, H⟩) (hx : St.ev ⟨e, L, H⟩ (.tmp x) = .loc key off := by (conv => {lhs; whnf}); done) (hc : lk L key = some cs := by exact rfl) (hl : cs[off]? = some v := by exact rfl) : rK P (.cell x t :: rs) acc k ⟨e, L, H⟩ := zqm hx hc hl h
theorem m04 {t : Nat} {rs : List ResultVar} {acc : List AV} {k : List AV → Prop} {v : AV} (h : rK P rs (acc ++ [v]) k ⟨e, L, H⟩) (hv : St.ev ⟨e, L, H⟩ (.tmp t) = .val v := by (conv => {lhs; whnf}); done) : rK P (.tmp t :: rs) acc k ⟨e, L, H⟩ := zwk hv h
theorem m05 {fn : Func} {H₀ H' : List (List AV)} {r : AV} {x : XE} {rs : List ResultVar} (h : rK P rs [] (zg7 H₀ r H' H) ⟨e, L, H⟩) (hx : x = .ret ∨ x = .normal := by simp) (hf : fn.results.toList = rs := by (conv => {lhs; whnf}); done) : zfs P fn H₀ r H' x ⟨e, L, H⟩ := zuy hx hf h
theorem m06 {c : Operand} {x y : Code} {v : EV} (h : zda P cfg dr x y Q ⟨e, L, H⟩ v) (hv : St.ev ⟨e, L, H⟩ c = v := by (conv => {lhs; whnf}); done) : Ex P cfg dr (.cond c x y) Q ⟨e, L, H⟩ := b_cond hv h
theorem m07 {t : TypeId} {x : Operand} {v : EV} (h : zbt P t dd K ⟨e, L, H⟩ v) (hv : St.ev ⟨e, L, H⟩ x = v := by (conv => {lhs; whnf}); done) : opX P cfg ⟨some dd, .load t x, ty, pos, aft, gd⟩ K ⟨e, L, H⟩ := zuu hv h
theorem m08 {x : Operand} {v : EV} (h : K ⟨(dd, v) :: e, L, H⟩) (hv : St.ev ⟨e, L, H⟩ x = v := by (conv => {lhs; whnf}); done) : opX P cfg ⟨some dd, .assign x, ty, pos, aft, gd⟩ K ⟨e, L, H⟩ := zf7 hv h
theorem m09 {t j' : Nat} {b' : Bool} {v : EV} (h : zbc P cfg ops ⟨d, o, ty, pos, aft, some (j, want)⟩ j want t rest K ⟨e, L, H⟩ v) (ht : (ops[j]?).bind (·.dst) = some t := by exact rfl) (hd : (d == some t) = false := by exact rfl) (hj : (j' == j) = false := by exact rfl) (hv : St.ev ⟨e, L, H⟩ (.tmp t) = v := by (conv => {lhs; whnf}); done) : zas P cfg ops (some (j', b')) (⟨d, o, ty, pos, aft, some (j, want)⟩ :: rest) K ⟨e, L, H⟩ := zyt ht hd hj hv h
theorem m10 {t : Nat} {v : EV} (h : zbc P cfg ops ⟨d, o, ty, pos, aft, some (j, want)⟩ j want t rest K ⟨e, L, H⟩ v) (ht : (ops[j]?).bind (·.dst) = some t := by exact rfl) (hd : (d == some t) = false := by exact rfl) (hv : St.ev ⟨e, L, H⟩ (.tmp t) = v := by (conv => {lhs; whnf}); done) : zas P cfg ops none (⟨d, o, ty, pos, aft, some (j, want)⟩ :: rest) K ⟨e, L, H⟩ := zys ht hd hv h
theorem m11 {t : Nat} (h : zas P cfg ops kn rest K ⟨(dd, .val (.tup [])) :: e, L, H⟩) (ht : (ops[j]?).bind (·.dst) = some t := by exact rfl) (hd : (dd == t) = false := by exact rfl) (hk : kn ≠ some (j, want) ∧ kn ≠ some (j, !want) := by constructor <;> simp) (hv : St.ev ⟨e, L, H⟩ (.tmp t) = .val (.tup []) := by exact rfl) (hn : kn.any (fun p => ((ops[p.1]?).bind (·.dst)) == some dd) = false := by exact rfl) : zas P cfg ops kn (⟨some dd, o, ty, pos, aft, some (j, want)⟩ :: rest) K ⟨e, L, H⟩ := zyw ht hd hk hv hn h
theorem m12 {t : Nat} (h : zas P cfg ops (some (j, b)) rest K ⟨(dd, .val (.tup [])) :: e, L, H⟩) (ht : (ops[j]?).bind (·.dst) = some t := by exact rfl) (hd : (dd == t) = false := by exact rfl) (hb : b = !want := by exact rfl) : zas P cfg ops (some (j, b)) (⟨some dd, o, ty, pos, aft, some (j, want)⟩ :: rest) K ⟨e, L, H⟩ := zyu ht hd hb h
theorem m13 {t : Nat} (h : opX P cfg ⟨d, o, ty, pos, aft, some (j, want)⟩ (zas P cfg ops (some (j, want)) rest K) ⟨e, L, H⟩) (ht : (ops[j]?).bind (·.dst) = some t := by exact rfl) (hd : (d == some t) = false := by exact rfl) : zas P cfg ops (some (j, want)) (⟨d, o, ty, pos, aft, some (j, want)⟩ :: rest) K ⟨e, L, H⟩ := zyv ht hd h
theorem m14 {x : Operand} {v : EV} (h : K ⟨(dd, v) :: e, L, H⟩) (hv : St.ev ⟨e, L, H⟩ x = v := by (conv => {lhs; whnf}); done) : opX P cfg ⟨some dd, .move x, ty, pos, aft, gd⟩ K ⟨e, L, H⟩ := zmz hv h
theorem m15 {t : TypeId} {key off : Nat} {cs : List AV} {c : AV} [i : TyI P t 1 false] (hk : K ⟨(dd, .val c) :: e, L, H⟩) (h1 : lk L key = some cs := by exact rfl) (h2 : cs[off]? = some c := by exact rfl) : zbt P t dd K ⟨e, L, H⟩ (.loc key off) := zv3 h1 h2 hk
theorem m16 {t : TypeId} {key off n : Nat} {cs l : List AV} [i : TyI P t n true] (hk : K ⟨(dd, .val (.agg l)) :: e, L, H⟩) (h1 : lk L key = some cs := by exact rfl) (h2 : gc cs off n = some l := by exact rfl) : zbt P t dd K ⟨e, L, H⟩ (.loc key off) := zv4 h1 h2 hk
theorem m17 {t : TypeId} {x : Operand} {i off : Nat} {ft : TypeId} [fi : FldI P t i off ft] {v : EV} (h : faK dd K off ⟨e, L, H⟩ v) (hv : St.ev ⟨e, L, H⟩ x = v := by (conv => {lhs; whnf}); done) : opX P cfg ⟨some dd, .fieldAddr t x i, ty, pos, aft, gd⟩ K ⟨e, L, H⟩ := zyr hv h
theorem m18 {s : AV} {off o m : Nat} (h : K ⟨(dd, .val (.eptr s m)) :: e, L, H⟩) (hm : off + o = m := by (conv => {lhs; whnf}); done) : faK dd K o ⟨e, L, H⟩ (.val (.eptr s off)) := zxs hm h
theorem m19 {key off o m : Nat} (h : K ⟨(dd, .loc key m) :: e, L, H⟩) (hm : off + o = m := by (conv => {lhs; whnf}); done) : faK dd K o ⟨e, L, H⟩ (.loc key off) := zxr hm h
theorem m20 {op : UnOp} {t : TypeId} {x : Operand} {vx : EV} {r : Option (Prop × AV)} (h : zcd dd K ⟨e, L, H⟩ r) (hx : St.ev ⟨e, L, H⟩ x = vx := by (conv => {lhs; whnf}); done) (hr : unV op vx = r := by (conv => {lhs; whnf}); done) : opX P cfg ⟨some dd, .unOp op t x, ty, pos, aft, gd⟩ K ⟨e, L, H⟩ := zyx hx hr h
theorem m22 {x y z : Operand} {v : EV} (h : zc0 dd K y z ⟨e, L, H⟩ v) (hv : St.ev ⟨e, L, H⟩ x = v := by (conv => {lhs; whnf}); done) : opX P cfg ⟨some dd, .pick x y z, ty, pos, aft, gd⟩ K ⟨e, L, H⟩ := zuw hv h
theorem m24 {t : TypeId} {cs : List AV} [z : ZI P t cs] (h : K ⟨(dd, .loc dd 0) :: e, (dd, cs) :: L, H⟩) (hesc : cfg.esc = false := by exact rfl) (hn : zf3 dd e = true := by exact rfl) : opX P cfg ⟨some dd, .alloc t, ty, pos, aft, gd⟩ K ⟨e, L, H⟩ := zsc hesc hn h
theorem m26 {y z : Operand} {v : EV} (h : K ⟨(dd, v) :: e, L, H⟩) (hv : St.ev ⟨e, L, H⟩ y = v := by (conv => {lhs; whnf}); done) : zc0 dd K y z ⟨e, L, H⟩ (.val (.bool true)) := p_T hv h
theorem m27 {y z : Operand} {v : EV} (h : K ⟨(dd, v) :: e, L, H⟩) (hv : St.ev ⟨e, L, H⟩ z = v := by (conv => {lhs; whnf}); done) : zc0 dd K y z ⟨e, L, H⟩ (.val (.bool false)) := p_F hv h
theorem m38  (h : opX P cfg ⟨d, o, ty, pos, aft, none⟩ (zas P cfg ops (some (j, b)) rest K) ⟨e, L, H⟩) (hj : (((ops[j]?).bind (·.dst)) == d) = false := by exact rfl) : zas P cfg ops (some (j, b)) (⟨d, o, ty, pos, aft, none⟩ :: rest) K ⟨e, L, H⟩ := zyq hj h
theorem m40 {acc : List AV} {k : List AV → Prop} {x : Operand} {xs : List Operand} {v : AV} (h : gK xs (acc ++ [v]) k ⟨e, L, H⟩) (hv : St.ev ⟨e, L, H⟩ x = .val v := by (conv => {lhs; whnf}); done) : gK (x :: xs) acc k ⟨e, L, H⟩ := znl hv h
theorem m46 {src dst : TypeId} {x : Operand} {k k' : IntKind} {n : Int} {td : TypeDesc} [u : UI P dst (.int k)] [us : UI P src td] (h : zcd dd K ⟨e, L, H⟩ (some (True, .int k (k.wrap n)))) (hx : St.ev ⟨e, L, H⟩ x = .val (.int k' n) := by first | (conv => {lhs; whnf}; done) | exact (by exact rfl) | fail) : opX P cfg ⟨some dd, .convert src dst x, ty, pos, aft, gd⟩ K ⟨e, L, H⟩ := zup hx h
theorem m47 {p : Prop} [Decidable p] (h : K ⟨(dd, .val (.bool true)) :: e, L, H⟩) (hp : p := by omega) : zcd dd K ⟨e, L, H⟩ (some (True, .bool (decide p))) := v_T hp h
theorem m48 {p : Prop} [Decidable p] (h : K ⟨(dd, .val (.bool false)) :: e, L, H⟩) (hp : ¬ p := by omega) : zcd dd K ⟨e, L, H⟩ (some (True, .bool (decide p))) := v_F hp h
theorem m49 {n : Int} (h : K ⟨(dd, .val (.int .i64 n)) :: e, L, H⟩) (hw : -9223372036854775808 ≤ n ∧ n ≤ 9223372036854775807 := by omega) : zcd dd K ⟨e, L, H⟩ (some (True, .int .i64 (IntKind.i64.wrap n))) := v_w hw h
theorem m50 {n : Int} (h : K ⟨(dd, .val (.int .u64 n)) :: e, L, H⟩) (hw : 0 ≤ n ∧ n ≤ 18446744073709551615 := by omega) : zcd dd K ⟨e, L, H⟩ (some (True, .int .u64 (IntKind.u64.wrap n))) := zzh hw h
theorem m51 {c : Prop} {v : AV} (h : zcd dd K ⟨e, L, H⟩ (some (True, v))) (hc : c := by omega) : zcd dd K ⟨e, L, H⟩ (some (c, v)) := v_c hc h
theorem m57 {i k : Nat} (h : Q (.exit k) ⟨e, L, H⟩) (hik : (k == i) = false := by exact rfl) : zfl i Q (.exit k) ⟨e, L, H⟩ := zw9 hik h
theorem m58 {pl : List (Nat × Nat)} {zc zc' vs : List AV} {i off sz : Nat} {x : Operand} {ps : List (Nat × Operand)} {k : List AV → Prop} {v : AV} (h : fK pl zc' ps k ⟨e, L, H⟩) (hx : St.ev ⟨e, L, H⟩ x = .val v := by (conv => {lhs; whnf}); done) (hc : v.cells = some vs := by first | exact rfl | exact zdh (FL.len (by assumption)) | exact zdh (IL.len (by assumption)) | fail) (hp : pl[i]? = some (off, sz) := by exact rfl) (hl : (vs.length == sz && decide (off + vs.length ≤ zc.length)) = true := by exact rfl) (hz : sc zc off vs = zc' := by (conv => {lhs; simp only [sc, List.set_cons_zero, List.set_cons_succ]}); done) : fK pl zc ((i, x) :: ps) k ⟨e, L, H⟩ := zs3 hx hc hp hl hz h
end
section
theorem m21 {P : Program} {cfg : Cfg} {e : List (Nat × EV)} {L : List (Nat × List AV)} {H : List (List AV)} {K : St → Prop} {dd id : Nat} {acc : List AV} {x : Operand} {xs : List Operand} {v : AV} (h : ze5 P cfg id xs (acc ++ [v]) dd K ⟨e, L, H⟩) (hv : St.ev ⟨e, L, H⟩ x = .val v := by (conv => {lhs; whnf}); done) : ze5 P cfg id (x :: xs) acc dd K ⟨e, L, H⟩ := zmr hv h
theorem m35 {nY : NY} {K : St → Prop} {d : Option Tmp} {ty : TypeId} {pos : String} {aft : Array Edge} {gd : Option (Nat × Bool)} {t : TypeId} {x : Operand} {st s : St} {v : AV} (h : K s) (hv : St.ev st x = .val v := by (conv => {lhs; whnf}); done) : ckK (.ld true) nY ⟨d, .load t x, ty, pos, aft, gd⟩ st K s := zxx hv h
theorem m44 {e : List (Nat × EV)} {L : List (Nat × List AV)} {H : List (List AV)} {b : Nat} {xs : List Operand} {acc : List AV} {k : List AV → Prop} (h : gK xs (acc ++ [.flt b]) k ⟨e, L, H⟩) (hb : (decide (b < 2 ^ 64) && !isNaN b) = true := by kernel_rfl) : gK (.const (.float .f64 b) :: xs) acc k ⟨e, L, H⟩ := zpx hb h
theorem m56 {q : Bool} {nY : NY} {o : Oper} {e e' : List (Nat × EV)} {L : List (Nat × List AV)} {A N N' M : List (List AV)} {K : St → Prop} (h : K ⟨e', L, A ++ N'⟩) (hN : N ++ M = N' := by exact rfl) : ckK (.mn q) nY o ⟨e, L, A ++ N⟩ K ⟨e', L, A ++ N'⟩ := zxz hN h
end
section
variable {P : Program} {cfg : Cfg} {e e' : List (Nat × EV)} {L : List (Nat × List AV)} {H : List (List AV)} {Q : XE → St → Prop} {K : St → Prop}
variable {kn : Option (Nat × Bool)} {ops : Array Oper} {nY : NY} {d : Option Tmp} {o : Op} {ty : TypeId} {pos : String} {aft : Array Edge} {rest : List (Nat × DFl)} {i j : Nat} {f : DFl} {b want : Bool} {gd : Option (Nat × Bool)} {dd : Nat}
theorem m23 {x : Operand} {n : Nat} {vs : List AV} {v : AV} (h : K ⟨(dd, .val v) :: e, L, H⟩) (hx : St.ev ⟨e, L, H⟩ x = .val (.tup vs) := by (conv => {lhs; whnf}); done) (hv : vs[n]? = some v := by exact rfl) : opX P cfg ⟨some dd, .extract x n, ty, pos, aft, gd⟩ K ⟨e, L, H⟩ := zxb hx hv h
theorem m25 {t : TypeId} {x v : Operand} {key off n : Nat} {a : Bool} {cs vs cs' : List AV} [ti : TyI P t n a] {ev : EV} (h : K ⟨e, (key, cs') :: L, H⟩) (hx : St.ev ⟨e, L, H⟩ x = .loc key off := by (conv => {lhs; whnf}); done) (hv : St.ev ⟨e, L, H⟩ v = ev := by (conv => {lhs; whnf}); done) (hvs : ev.asV.bind AV.cells = some vs := by first | exact rfl | exact zdh (FL.len (by assumption)) | exact zdh (IL.len (by assumption)) | fail) (hn : vs.length = n := by exact rfl) (hc : lk L key = some cs := by exact rfl) (hle : off + vs.length ≤ cs.length := by exact Nat.le_of_ble_eq_true rfl) (hcs : sc cs off vs = cs' := by (conv => {lhs; simp only [sc, List.set_cons_zero, List.set_cons_succ]}); done) : opX P cfg ⟨none, .store t x v, ty, pos, aft, gd⟩ K ⟨e, L, H⟩ := zxg hx hv hvs hn hc hle hcs h
theorem m28 {t : Nat} {v : EV} (h : zbb P cfg ops nY f ⟨d, o, ty, pos, aft, some (j, want)⟩ j want t rest K ⟨e, L, H⟩ v) (ho : ops[i]? = some ⟨d, o, ty, pos, aft, some (j, want)⟩ := by exact rfl) (ht : (ops[j]?).bind (·.dst) = some t := by exact rfl) (hd : (d == some t) = false := by exact rfl) (hv : St.ev ⟨e, L, H⟩ (.tmp t) = v := by (conv => {lhs; whnf}); done) : exD P cfg ops nY none ((i, f) :: rest) K ⟨e, L, H⟩ := zy0 ho ht hd hv h
theorem m29 {t j' : Nat} {b' : Bool} {v : EV} (h : zbb P cfg ops nY f ⟨d, o, ty, pos, aft, some (j, want)⟩ j want t rest K ⟨e, L, H⟩ v) (ho : ops[i]? = some ⟨d, o, ty, pos, aft, some (j, want)⟩ := by exact rfl) (ht : (ops[j]?).bind (·.dst) = some t := by exact rfl) (hd : (d == some t) = false := by exact rfl) (hj : (j' == j) = false := by exact rfl) (hv : St.ev ⟨e, L, H⟩ (.tmp t) = v := by (conv => {lhs; whnf}); done) : exD P cfg ops nY (some (j', b')) ((i, f) :: rest) K ⟨e, L, H⟩ := zy1 ho ht hd hj hv h
theorem m30 {t : Nat} (h : exD P cfg ops nY kn rest K ⟨(dd, .val (.tup [])) :: e, L, H⟩) (ho : ops[i]? = some ⟨some dd, o, ty, pos, aft, some (j, want)⟩ := by exact rfl) (ht : (ops[j]?).bind (·.dst) = some t := by exact rfl) (hd : (dd == t) = false := by exact rfl) (hk : kn ≠ some (j, want) ∧ kn ≠ some (j, !want) := by constructor <;> simp) (hv : St.ev ⟨e, L, H⟩ (.tmp t) = .val (.tup []) := by exact rfl) (hn : kn.any (fun p => ((ops[p.1]?).bind (·.dst)) == some dd) = false := by exact rfl) : exD P cfg ops nY kn ((i, f) :: rest) K ⟨e, L, H⟩ := zy4 ho ht hd hk hv hn h
theorem m31 {t : Nat} (h : exD P cfg ops nY (some (j, b)) rest K ⟨(dd, .val (.tup [])) :: e, L, H⟩) (ho : ops[i]? = some ⟨some dd, o, ty, pos, aft, some (j, want)⟩ := by exact rfl) (ht : (ops[j]?).bind (·.dst) = some t := by exact rfl) (hd : (dd == t) = false := by exact rfl) (hb : b = !want := by exact rfl) : exD P cfg ops nY (some (j, b)) ((i, f) :: rest) K ⟨e, L, H⟩ := zy2 ho ht hd hb h
theorem m32 {t : Nat} (h : opX P cfg ⟨d, o, ty, pos, aft, some (j, want)⟩ (ckK f nY ⟨d, o, ty, pos, aft, some (j, want)⟩ ⟨e, L, H⟩ (exD P cfg ops nY (some (j, want)) rest K)) ⟨e, L, H⟩) (ho : ops[i]? = some ⟨d, o, ty, pos, aft, some (j, want)⟩ := by exact rfl) (ht : (ops[j]?).bind (·.dst) = some t := by exact rfl) (hd : (d == some t) = false := by exact rfl) : exD P cfg ops nY (some (j, want)) ((i, f) :: rest) K ⟨e, L, H⟩ := zy3 ho ht hd h
theorem m33 {hl : Bool} {op : BinOp} {t t' : TypeId} {x y : Operand} {st s : St} {v : EV} (h : K s) (hv : St.ev st x = v := by (conv => {lhs; whnf}); done) (hk : (hl || !zw3 v) = true := by exact rfl) : ckK (.ld hl) nY ⟨d, .binOp op t x y t', ty, pos, aft, gd⟩ st K s := zxw hv hk h
theorem m34 {hl : Bool} {t : TypeId} {x : Operand} {st s : St} {v : EV} (h : K s) (hv : St.ev st x = v := by (conv => {lhs; whnf}); done) (hk : zw5 nY hl v = true := by exact rfl) : ckK (.ld hl) nY ⟨d, .load t x, ty, pos, aft, gd⟩ st K s := k_ld hv hk h
theorem m36  (h : opX P cfg ⟨d, o, ty, pos, aft, none⟩ (ckK f nY ⟨d, o, ty, pos, aft, none⟩ ⟨e, L, H⟩ (exD P cfg ops nY none rest K)) ⟨e, L, H⟩) (ho : ops[i]? = some ⟨d, o, ty, pos, aft, none⟩ := by exact rfl) : exD P cfg ops nY none ((i, f) :: rest) K ⟨e, L, H⟩ := zyy ho h
theorem m37  (h : opX P cfg ⟨d, o, ty, pos, aft, none⟩ (ckK f nY ⟨d, o, ty, pos, aft, none⟩ ⟨e, L, H⟩ (exD P cfg ops nY (some (j, b)) rest K)) ⟨e, L, H⟩) (ho : ops[i]? = some ⟨d, o, ty, pos, aft, none⟩ := by exact rfl) (hj : (((ops[j]?).bind (·.dst)) == d) = false := by exact rfl) : exD P cfg ops nY (some (j, b)) ((i, f) :: rest) K ⟨e, L, H⟩ := zyz ho hj h
theorem m52 {x y : Int} (h : K ⟨(dd, .val (.bool true)) :: e, L, H⟩) (hp : x = y := by omega) : zcd dd K ⟨e, L, H⟩ (some (True, .bool (x == y))) := zzg hp h
theorem m53 {x y : Int} (h : K ⟨(dd, .val (.bool false)) :: e, L, H⟩) (hp : x ≠ y := by omega) : zcd dd K ⟨e, L, H⟩ (some (True, .bool (x == y))) := zzf hp h
theorem m54 {x y : Int} (h : K ⟨(dd, .val (.bool true)) :: e, L, H⟩) (hp : x ≠ y := by omega) : zcd dd K ⟨e, L, H⟩ (some (True, .bool (x != y))) := zya hp h
theorem m55 {x y : Int} (h : K ⟨(dd, .val (.bool false)) :: e, L, H⟩) (hp : x = y := by omega) : zcd dd K ⟨e, L, H⟩ (some (True, .bool (x != y))) := zx9 hp h
end
section
variable {P : Program} {cfg : Cfg} {dr : Array Oper → (St → Prop) → St → Prop} {e : List (Nat × EV)} {L : List (Nat × List AV)} {H : List (List AV)} {Q : XE → St → Prop} {K : St → Prop}
variable {d : Option Tmp} {ty : TypeId} {pos : String} {aft : Array Edge} {gd : Option (Nat × Bool)} {dd : Nat}
theorem m39 {f : Operand} {id : Nat} {first caps : List AV} {args : Array Operand} {ts : Array TypeId} (h : gK args.toList [] (fun vs => zcs P cfg id (first ++ vs ++ caps) dd K ⟨e, L, H⟩) ⟨e, L, H⟩) (hf : St.ev ⟨e, L, H⟩ f = .val (.func id first caps) := by first | (conv => {lhs; whnf}; done) | exact (by exact rfl) | fail) : opX P cfg ⟨some dd, .call { callee := .value f, args := args, argTypes := ts }, ty, pos, aft, gd⟩ K ⟨e, L, H⟩ := zse hf h
theorem m41 {b : Nat} (h : K ⟨(dd, .val (.flt b)) :: e, L, H⟩) (hb : (decide (b < 2 ^ 64) && !isNaN b) = true := by kernel_rfl) : opX P cfg ⟨some dd, .move (.const (.float .f64 b)), ty, pos, aft, gd⟩ K ⟨e, L, H⟩ := zsi hb h
theorem m42 {b : Nat} (h : K ⟨(dd, .val (.flt b)) :: e, L, H⟩) (hb : (decide (b < 2 ^ 64) && !isNaN b) = true := by kernel_rfl) : opX P cfg ⟨some dd, .assign (.const (.float .f64 b)), ty, pos, aft, gd⟩ K ⟨e, L, H⟩ := zmw hb h
theorem m43 {id : Nat} {xs : List Operand} {acc : List AV} {b : Nat} (h : ze5 P cfg id xs (acc ++ [.flt b]) dd K ⟨e, L, H⟩) (hb : (decide (b < 2 ^ 64) && !isNaN b) = true := by kernel_rfl) : ze5 P cfg id (.const (.float .f64 b) :: xs) acc dd K ⟨e, L, H⟩ := zr8 hb h
end
section
variable {P : Program} {cfg : Cfg} {e : List (Nat × EV)} {L : List (Nat × List AV)} {H : List (List AV)} {K : St → Prop} {ty : TypeId} {pos : String} {aft : Array Edge} {gd : Option (Nat × Bool)} {dd : Nat}
theorem m45 {t t' : TypeId} [u : UI P t .bool] {x y : Operand} {p q : Bool} (h : zcd dd K ⟨e, L, H⟩ (some (True, .bool (p == q)))) (hx : St.ev ⟨e, L, H⟩ x = .val (.bool p) := by first | (conv => {lhs; whnf}; done) | exact (by exact rfl) | fail) (hy : St.ev ⟨e, L, H⟩ y = .val (.bool q) := by first | (conv => {lhs; whnf}; done) | exact (by exact rfl) | fail) : opX P cfg ⟨some dd, .binOp .eql t x y t', ty, pos, aft, gd⟩ K ⟨e, L, H⟩ := zuk hx hy h
end
section
variable {P : Program} {f : Nat} {fn : Func} {body : Code} {args : List AV} {H H' : List (List AV)} {r : AV}
theorem Spec.go (hf : P.funcs[f]? = some fn) (esc : Bool) (fz : List Nat) (hdr : ∀ C : Cx, C.P = P → C.cfg = ⟨esc, H.length, fz⟩ → zgk C (zi9 P ⟨esc, H.length, fz⟩)) (h : Ex P ⟨esc, H.length, fz⟩ (zi9 P ⟨esc, H.length, fz⟩) body (zfs P fn H r H') ⟨zbf 0 args, [], H ++ []⟩) (hb : fn.body = some body := by rfl) (hd : zcu fn.ntmps body = true := by kernel_rfl) (hn : args.length ≤ fn.ntmps := by simp) : Spec P f args H r H' := Spec.intro' hf hb hd hn esc fz hdr h
theorem zab.go (he : Enters P f) (hf : P.funcs[f]? = some fn) (esc : Bool) (fz : List Nat) (hdr : ∀ C : Cx, C.P = P → C.cfg = ⟨esc, H.length, fz⟩ → zgk C (zi9 P ⟨esc, H.length, fz⟩)) (h : Ex P ⟨esc, H.length, fz⟩ (zi9 P ⟨esc, H.length, fz⟩) body (zfs P fn H r H') ⟨zbf 0 args, [], H ++ []⟩) (hb : fn.body = some body := by rfl) (hd : zcu fn.ntmps body = true := by kernel_rfl) (hn : args.length ≤ fn.ntmps := by simp) : zab P f args H r H' := .mk he (Spec.intro' hf hb hd hn esc fz hdr h)
theorem cA {cfg : Cfg} {e : List (Nat × EV)} {L : List (Nat × List AV)} {A N N' : List (List AV)} {K : St → Prop} {dd id : Nat} {vs : List AV} (hs : zab P id vs (A ++ N) r (A ++ N')) (h : K ⟨(dd, .val r) :: e, L, A ++ N'⟩) (ho : cfg.n0 ≤ A.length := by simp) : zcs P cfg id vs dd K ⟨e, L, A ++ N⟩ := c_call hs (zb7.app ho) h
end
end Go.Sx
set_option linter.unusedVariables false
set_option linter.unusedSimpArgs false
namespace Go.Sx
open Go.ChangeShapes Go.WideShapes Go.ChangeAt Go.RowKit Go.Deep
inductive Shp where
  | flt
  | bool
  | int (k : IntKind)
  | fls
  | ils
  | st (l : List Shp)
mutual
def Shp.n : Shp → Nat
  | .st l => Shp.ns l
  | _ => 1
def Shp.ns : List Shp → Nat
  | [] => 0
  | s :: r => s.n + Shp.ns r
end
def zyh (P : Program) (t : TypeId) (d : TypeDesc) : Bool :=
  match P.underlying t, d with
  | some (.float .f64), .float .f64 => true
  | some .bool, .bool => true
  | some (.int k), .int k' => decide (k = k')
  | _, _ => false
mutual
def Shp.ok (P : Program) : Nat → Shp → TypeId → Bool
  | 0, _, _ => false
  | d + 1, s, t =>
    match s, P.underlying t with
    | .flt, some (.float .f64) => P.cellsOf t == 1
    | .bool, some .bool => P.cellsOf t == 1
    | .int k, some (.int k') => decide (k = k') && P.cellsOf t == 1
    | .fls, some (.slice e) => zyh P e (.float .f64) && P.cellsOf e == 1 && P.cellsOf t == 1
    | .ils, some (.slice e) => zyh P e (.int .i64) && P.cellsOf e == 1 && P.cellsOf t == 1
    | .st l, some (.struct fs) => P.cellsOf t == Shp.ns l && Shp.oks P d l fs.toList 0
    | _, _ => false
def Shp.oks (P : Program) : Nat → List Shp → List Field → Nat → Bool
  | 0, _, _, _ => false
  | _ + 1, [], [], _ => true
  | d + 1, s :: r, f :: fs, o => f.offset == o && P.cellsOf f.type == s.n && Shp.ok P d s f.type && Shp.oks P d r fs (o + s.n)
  | _, _, _, _ => false
end
end Go.Sx
set_option linter.unusedVariables false
set_option linter.unusedSimpArgs false
namespace Go.Sx
open Ieee
theorem zsx : Ieee.double.signWeight = 9223372036854775808 := by decide
theorem zw2 : Ieee.double.binade = 4503599627370496 := by decide
theorem zt9 : Ieee.double.infRung = 9218868437227405312 := by decide
theorem zyf : Ieee.double.leastPlace = -1074 := by decide
theorem zy5 : Ieee.double.fractionBits = 52 := by decide
theorem zor (s : Bool) (k : Nat) (h : k ≤ 9218868437227405312) : Ieee.double.read (Ieee.double.word s k) = (if s then (Ieee.double.read k).opposite else Ieee.double.read k) := by
  have hk : k < 9223372036854775808 := by omega
  have h1 : (k / 9223372036854775808 % 2 == 1) = false := by rw [Nat.div_eq_of_lt hk]; rfl
  have h2 : k % 9223372036854775808 = k := Nat.mod_eq_of_lt hk
  cases s with
  | false =>
    have : Ieee.double.word false k = k := by simp [Ieee.Format.word, zsx]
    rw [this]; rfl
  | true =>
    have e : Ieee.double.word true k = 9223372036854775808 + k := by simp [Ieee.Format.word, zsx]
    rw [e]
    have h3 : ((9223372036854775808 + k) / 9223372036854775808 % 2 == 1) = true := by
      have : (9223372036854775808 + k) / 9223372036854775808 = 1 := by omega
      rw [this]; rfl
    have h4 : (9223372036854775808 + k) % 9223372036854775808 = k := by omega
    unfold Ieee.Format.read
    simp only [zsx, zw2, zt9, h1, h2, h3, h4, if_true]
    split
    · simp [Ieee.Datum.opposite]
    · split
      · simp [Ieee.Datum.opposite]
      · split
        · simp [Ieee.Datum.opposite]
        · simp [Ieee.Datum.opposite]
def zov (m : Nat) (p : Int) : Nat :=
  if m = 0 then 0 else
    let last := max (p + m.log2 - 52) (-1074)
    min ((last - (-1074)).toNat * 4503599627370496 + Toward.even.cut false (m <<< (p - last).toNat) (last - p).toNat) 9218868437227405312
theorem zpn (s : Bool) (n d : Nat) : Toward.even.cut s n d = Toward.even.cut false n d := rfl
theorem zho (s : Bool) (m : Nat) (p : Int) : Ieee.double.nearest s m p = Ieee.double.word s (zov m p) := by
  unfold Ieee.Format.nearest zov
  by_cases h : m = 0
  · simp [h]
  · simp only [h, if_false, zy5, zyf, zw2, zt9, zpn s]
    rfl
theorem ztf {n k : Nat} (h1 : 2 ^ k ≤ n) (h2 : n < 2 ^ (k + 1)) : n.log2 = k := by
  have hn : n ≠ 0 := by have := Nat.two_pow_pos k; omega
  exact (Nat.log2_eq_iff hn).2 ⟨h1, h2⟩
theorem zi8 {n : Nat} (h : 1 ≤ n) : Toward.even.cut false ((4503599627370496 * n) <<< 0) 52 = n := by
  have hl : 52 ≤ (4503599627370496 * n).log2 := by
    rw [Nat.le_log2 (by omega)]
    have : 2 ^ 52 = 4503599627370496 := by decide
    omega
  unfold Toward.cut
  have e0 : (4503599627370496 * n) <<< 0 = 4503599627370496 * n := rfl
  have e1 : min 52 ((4503599627370496 * n).log2 + 2) = 52 := by omega
  have e2 : (1 : Nat) <<< 52 = 4503599627370496 := by decide
  simp only [e0, e1, e2]
  have e3 : 4503599627370496 * n / 4503599627370496 = n := Nat.mul_div_cancel_left n (by decide)
  have e4 : 4503599627370496 * n % 4503599627370496 = 0 := Nat.mul_mod_right _ _
  rw [e3, e4]
  simp
theorem zmk {k : Nat} (h : k < 9218868437227405312) : ∃ m e, Ieee.double.read k = .number false m e ∧ zov (4503599627370496 * m) (e + -52) = k := by
  have hk : k < 9223372036854775808 := by omega
  have h1 : (k / 9223372036854775808 % 2 == 1) = false := by rw [Nat.div_eq_of_lt hk]; rfl
  have h2 : k % 9223372036854775808 = k := Nat.mod_eq_of_lt hk
  unfold Ieee.Format.read
  simp only [zsx, zw2, zt9, zyf, h1, h2]
  by_cases hB : k < 4503599627370496
  · rw [if_pos hB]
    refine ⟨k, -1074, rfl, ?_⟩
    by_cases h0 : k = 0
    · subst h0; decide
    · have hl2 : (4503599627370496 * k).log2 < 104 := by
        rw [Nat.log2_lt (by omega)]
        have : 2 ^ 104 = 4503599627370496 * 4503599627370496 := by decide
        omega
      unfold zov
      rw [if_neg (by omega)]
      have e1 : max (-1074 + -52 + (((4503599627370496 * k).log2 : Nat) : Int) - 52) (-1074) = -1074 := by omega
      simp only [e1]
      have e2 : ((-1074 : Int) + -52 - -1074).toNat = 0 := by decide
      have e3 : ((-1074 : Int) - (-1074 + -52)).toNat = 52 := by decide
      have e4 : ((-1074 : Int) - -1074).toNat = 0 := by decide
      rw [e2, e3, e4, zi8 (by omega)]
      omega
  · rw [if_neg hB, if_pos h]
    refine ⟨_, _, rfl, ?_⟩
    have hd := Nat.div_add_mod k 4503599627370496
    have hm := Nat.mod_lt k (show 0 < 4503599627370496 by decide)
    have hq : 1 ≤ k / 4503599627370496 := (Nat.le_div_iff_mul_le (by decide)).2 (by omega)
    generalize k % 4503599627370496 = r at hd hm
    generalize k / 4503599627370496 = q at hd hq
    have hl : (4503599627370496 * (4503599627370496 + r)).log2 = 104 := by
      apply ztf
      · have : 2 ^ 104 = 4503599627370496 * 4503599627370496 := by decide
        omega
      · have : 2 ^ (104 + 1) = 4503599627370496 * 9007199254740992 := by decide
        omega
    unfold zov
    rw [if_neg (by omega), hl]
    have e1 : max ((-1074 : Int) + ((q - 1 : Nat) : Int) + -52 + ((104 : Nat) : Int) - 52) (-1074) = -1074 + ((q - 1 : Nat) : Int) := by omega
    simp only [e1]
    have e2 : ((-1074 : Int) + ((q - 1 : Nat) : Int) + -52 - (-1074 + ((q - 1 : Nat) : Int))).toNat = 0 := by omega
    have e3 : ((-1074 : Int) + ((q - 1 : Nat) : Int) - (-1074 + ((q - 1 : Nat) : Int) + -52)).toNat = 52 := by omega
    have e4 : ((-1074 : Int) + ((q - 1 : Nat) : Int) - -1074).toNat = q - 1 := by omega
    rw [e2, e3, e4, zi8 (by omega)]
    have : (q - 1) * 4503599627370496 + (4503599627370496 + r) = k := by omega
    rw [this]; omega
theorem zti (x : Nat) {y : Nat} (h : isNaN y = true) : Ieee.double.mul x y = none ∧ Ieee.double.mul y x = none := by
  obtain ⟨s, t, hr⟩ := zdm h
  unfold Ieee.Format.mul
  rw [hr]
  constructor
  · cases Ieee.double.read x <;> rfl
  · rfl
end Go.Sx
set_option linter.unusedVariables false
set_option linter.unusedSimpArgs false
namespace Go.Sx
def loc (off ld : Int) (r c p : Nat) : Option (Nat × Nat) :=
  if 0 ≤ (p : Int) - off ∧ (((p : Int) - off) % ld).toNat < r ∧ (((p : Int) - off) / ld).toNat < c then some ((((p : Int) - off) % ld).toNat, (((p : Int) - off) / ld).toNat) else none
def zal (L : List Nat) (off ld : Int) (r c : Nat) (g : Nat → Nat → Nat) : List Nat :=
  rml (fun p => match loc off ld r c p with | some q => g q.1 q.2 | none => L.getD p 0) L.length
@[simp] theorem zqr (L : List Nat) (off ld : Int) (r c : Nat) (g : Nat → Nat → Nat) : (zal L off ld r c g).length = L.length := by simp [zal]
def pos (off ld : Int) (i j : Nat) : Nat := (off + (i : Int) + (j : Int) * ld).toNat
theorem zdc (l : List Nat) (off ld : Int) (i j : Nat) : mel l off ld i j = l.getD (pos off ld i j) 0 := rfl
section
variable {off ld : Int} {r c n : Nat}
theorem zfn (hG : zaa n off r c ld) {i j : Nat} (hi : i < r) (hj : j < c) : loc off ld r c (pos off ld i j) = some (i, j) := by
  obtain ⟨h1, h2, h3, h4, h5, h6⟩ := id hG
  have hp := zaj hG (i := (i : Int)) (j := (j : Int)) (by omega) (by omega) (by omega) (by omega)
  have e : ((pos off ld i j : Nat) : Int) - off = (i : Int) + (j : Int) * ld := by unfold pos; omega
  have e1 : ((i : Int) + (j : Int) * ld) % ld = i := by
    rw [Int.add_mul_emod_self_right]; exact Int.emod_eq_of_lt (by omega) (by omega)
  have e2 : ((i : Int) + (j : Int) * ld) / ld = j := by
    rw [Int.add_mul_ediv_right _ _ (by omega), Int.ediv_eq_zero_of_lt (by omega) (by omega)]; omega
  unfold loc
  rw [e, e1, e2]
  rw [if_pos ⟨by omega, by omega, by omega⟩]
  simp
theorem zdl {p i j : Nat} (h4 : 1 ≤ ld) (h3 : 0 ≤ off) (h : loc off ld r c p = some (i, j)) : i < r ∧ j < c ∧ p = pos off ld i j := by
  unfold loc at h
  split at h
  · rename_i hc
    simp only [Option.some.injEq, Prod.mk.injEq] at h
    obtain ⟨rfl, rfl⟩ := h
    refine ⟨hc.2.1, hc.2.2, ?_⟩
    unfold pos
    have e1 := Int.emod_nonneg ((p : Int) - off) (show ld ≠ 0 by omega)
    have e2 := Int.ediv_nonneg hc.1 (show 0 ≤ ld by omega)
    have e3 := Int.mul_ediv_add_emod ((p : Int) - off) ld
    rw [Int.toNat_of_nonneg e1, Int.toNat_of_nonneg e2]
    have : ((p : Int) - off) / ld * ld = ld * (((p : Int) - off) / ld) := Int.mul_comm _ _
    omega
  · cases h
theorem zjo (hG : zaa n off r c ld) {i j : Nat} (hi : i < r) (hj : j < c) : pos off ld i j < n := by
  have hp := zaj hG (i := (i : Int)) (j := (j : Int)) (by omega) (by omega) (by omega) (by omega)
  unfold pos; omega
theorem zgd {L : List Nat} {g : Nat → Nat → Nat} (hG : zaa L.length off r c ld) {i j : Nat} (hi : i < r) (hj : j < c) : mel (zal L off ld r c g) off ld i j = g i j := by
  rw [zdc, zal, zfq (zjo hG hi hj), zfn hG hi hj]
theorem zju {L : List Nat} {g g' : Nat → Nat → Nat} : zal (zal L off ld r c g) off ld r c g' = zal L off ld r c g' := by
  unfold zal
  rw [zt0]
  refine zec fun p hp => ?_
  cases h : loc off ld r c p with
  | some q => rfl
  | none => simp only; rw [zfq hp, h]
theorem za4 {L : List Nat} {g g' : Nat → Nat → Nat} (h4 : 1 ≤ ld) (h3 : 0 ≤ off) (h : ∀ i j, i < r → j < c → g i j = g' i j) : zal L off ld r c g = zal L off ld r c g' := by
  unfold zal
  refine zec fun p hp => ?_
  cases hl : loc off ld r c p with
  | some q =>
    obtain ⟨i, j⟩ := q
    obtain ⟨hi, hj, _⟩ := zdl h4 h3 hl
    exact h i j hi hj
  | none => rfl
theorem ziq {L : List Nat} (h4 : 1 ≤ ld) (h3 : 0 ≤ off) : zal L off ld r c (mel L off ld) = L := by
  apply List.ext_getElem
  · simp
  · intro p h1 h2
    have hp : p < L.length := h2
    have := zfq (g := fun p => match loc off ld r c p with | some q => mel L off ld q.1 q.2 | none => L.getD p 0) hp
    have e : (zal L off ld r c (mel L off ld)).getD p 0 = L.getD p 0 := by
      rw [zal, this]
      cases hl : loc off ld r c p with
      | some q =>
        obtain ⟨i, j⟩ := q
        obtain ⟨_, _, rfl⟩ := zdl h4 h3 hl
        rfl
      | none => rfl
    simpa [List.getD, h1, h2] using e
def zuf (g : Nat → Nat → Nat) (i j x : Nat) : Nat → Nat → Nat := fun i' j' => if i' = i ∧ j' = j then x else g i' j'
theorem zlp {L : List Nat} {g : Nat → Nat → Nat} (hG : zaa L.length off r c ld) {i j x : Nat} (hi : i < r) (hj : j < c) : (zal L off ld r c g).set (pos off ld i j) x = zal L off ld r c (zuf g i j x) := by
  obtain ⟨h1, h2, h3, h4, h5, h6⟩ := id hG
  apply List.ext_getElem
  · simp
  · intro p k1 k2
    simp only [zqr] at k2
    rw [List.getElem_set]
    have val : ∀ g : Nat → Nat → Nat, (zal L off ld r c g)[p]'(by simpa using k2) = match loc off ld r c p with | some q => g q.1 q.2 | none => L.getD p 0 := by
      intro g; simp [zal, rml]
    rw [val, val]
    split
    · rename_i hp
      subst hp
      rw [zfn hG hi hj]
      simp [zuf]
    · rename_i hp
      cases hl : loc off ld r c p with
      | some q =>
        obtain ⟨i', j'⟩ := q
        obtain ⟨hi', hj', rfl⟩ := zdl h4 h3 hl
        simp only [zuf]
        rw [if_neg]
        rintro ⟨rfl, rfl⟩; exact hp rfl
      | none => rfl
def zd4 (g g' : Nat → Nat → Nat) (i0 j0 r' c' : Nat) : Nat → Nat → Nat := fun i j => if i0 ≤ i ∧ i < i0 + r' ∧ j0 ≤ j ∧ j < j0 + c' then g' (i - i0) (j - j0) else g i j
theorem zik {off ld : Int} {i0 j0 i j : Nat} : pos (off + ((i0 : Int) + (j0 : Int) * ld)) ld i j = pos off ld (i0 + i) (j0 + j) := by
  unfold pos
  congr 1
  have : (((j0 + j : Nat)) : Int) * ld = (j0 : Int) * ld + (j : Int) * ld := by rw [Int.natCast_add, Int.add_mul]
  rw [this]; omega
theorem zoy {L : List Nat} {g' : Nat → Nat → Nat} (hG : zaa L.length off r c ld) {i0 j0 r' c' : Nat} (hi : i0 + r' ≤ r) (hj : j0 + c' ≤ c) (hG' : zaa L.length (off + ((i0 : Int) + (j0 : Int) * ld)) r' c' ld) :
    zal L (off + ((i0 : Int) + (j0 : Int) * ld)) ld r' c' g' = zal L off ld r c (zd4 (mel L off ld) g' i0 j0 r' c') := by
  obtain ⟨h1, h2, h3, h4, h5, h6⟩ := id hG
  unfold zal
  refine zec fun p hp => ?_
  cases hl : loc (off + ((i0 : Int) + (j0 : Int) * ld)) ld r' c' p with
  | some q =>
    obtain ⟨i, j⟩ := q
    obtain ⟨hi', hj', rfl⟩ := zdl h4 hG'.2.2.1 hl
    rw [zik, zfn hG (by omega) (by omega)]
    simp only [zd4]
    rw [if_pos ⟨by omega, by omega, by omega, by omega⟩]
    congr 1 <;> omega
  | none =>
    cases hl' : loc off ld r c p with
    | some q =>
      obtain ⟨i, j⟩ := q
      obtain ⟨hi', hj', rfl⟩ := zdl h4 h3 hl'
      simp only [zd4]
      rw [if_neg]
      · rfl
      · rintro ⟨k1, k2, k3, k4⟩
        have := zfn hG' (i := i - i0) (j := j - j0) (by omega) (by omega)
        rw [zik, show i0 + (i - i0) = i from by omega, show j0 + (j - j0) = j from by omega, hl] at this
        cases this
    | none => rfl
theorem zld {L : List Nat} {i0 j0 i j : Nat} : mel L (off + ((i0 : Int) + (j0 : Int) * ld)) ld i j = mel L off ld (i0 + i) (j0 + j) := by
  rw [zdc, zdc, zik]
end
section
variable {P : Program} {cfg : Cfg} {e : List (Nat × EV)} {L : List (Nat × List AV)} {H N : List (List AV)} {K : St → Prop}
variable {ty : TypeId} {pos : String} {aft : Array Edge} {gd : Option (Nat × Bool)} {dd : Nat}
theorem zk7 {b : Nat} {cs : List AV} (h : b < H.length) : (H.set b cs)[b]? = some cs := by simp [h]
theorem zzc {t : TypeId} {b g o len sz k : Nat} {X : List Nat} [i : TyI P t 1 false] (hb : b < H.length) (hg : X.length = g) (hk : o + k < X.length) (h : K ⟨(dd, .val (.flt (X.getD (o + k) 0))) :: e, L, H.set b (fl X) ++ N⟩) :
    zbt P t dd K ⟨e, L, H.set b (fl X) ++ N⟩ (.val (.eptr (.slm b g o len sz) k)) :=
  zjj (by simp only [zb4, zdj (zk7 hb), Option.bind_some, zjb, hg, if_true]; exact zjd (znh hk)) h
theorem zpj {t : TypeId} {x v : Operand} {b g o len sz k : Nat} {X X' : List Nat} {f : Nat} [ti : TyI P t 1 false] (hx : St.ev ⟨e, L, H.set b (fl X) ++ N⟩ x = .val (.eptr (.slm b g o len sz) k)) (hv : St.ev ⟨e, L, H.set b (fl X) ++ N⟩ v = .val (.flt f)) (hb : b < H.length)
    (hg : X.length = g) (hk : o + k < X.length) (hX : X.set (o + k) f = X') (h : K ⟨e, L, H.set b (fl X') ++ N⟩) : opX P cfg ⟨none, .store t x v, ty, pos, aft, gd⟩ K ⟨e, L, H.set b (fl X) ++ N⟩ := by
  refine zu0 hx hv (zk7 hb) hg hk hX ?_
  rw [List.set_set]; exact h
theorem zrd {x : Operand} {s : AV} {o : Nat} (hx : St.ev ⟨e, L, H⟩ x = .val (.eptr s o)) (h : K ⟨(dd, .val (.eptr s o)) :: e, L, H⟩) : opX P cfg ⟨some dd, .nilCheck x, ty, pos, aft, gd⟩ K ⟨e, L, H⟩ := by
  rw [zbs P cfg e L H K _ _ _ _ _ _ rfl]
  simp only [zak, hx]
  exact ⟨trivial, h⟩
theorem zpi {m : Nat} {t el : TypeId} {x y : Operand} [si : SlI P t el 1] {s : AV} {k : IntKind} {i : Int} {len : Nat} (hx : St.ev ⟨e, L, H⟩ x = .val s) (hy : St.ev ⟨e, L, H⟩ y = .val (.int k i)) (hl : slen s = some len) (hi : i = (m : Int)) (hm : m < len)
    (h : K ⟨(dd, .val (.eptr s m)) :: e, L, H⟩) : opX P cfg ⟨some dd, .indexAddr t x y, ty, pos, aft, gd⟩ K ⟨e, L, H⟩ :=
  zsh (i := m) hx hy hl hi hm (by simpa using h)
theorem FL.set {b g q : Nat} {X : List Nat} (hb : b < H.length) (hg : g = X.length) (hq : q = X.length) : FL (H.set b (fl X) ++ N) (.slm b g 0 q 1) X :=
  (FL.old (zk7 hb) hg hq).app N
end
theorem zb7.set2 {H N N' : List (List AV)} {n b : Nat} {X Y : List AV} (hb : b < H.length) (h : n ≤ H.length) (hm : mxL Y ≤ n) : zb7 n (H.set b X ++ N) (H.set b Y ++ N') := by
  have := zb7.set (A := H.set b X) (N := N) (N' := N') (n := n) (i := b) (cs := Y) (by simpa using h) hm
  rwa [List.set_set] at this
theorem zvu {H N : List (List AV)} {b : Nat} {X : List AV} (h : b < H.length) : (H.set b X ++ N)[b]? = some X := zdj (zk7 h)
theorem zwn {cs xs : List AV} (h : xs.length = cs.length) : sc cs 0 xs = xs := by
  apply List.ext_getElem?
  intro i
  rw [zow _ _ _ _ (by omega)]
  by_cases hi : i < xs.length
  · rw [if_pos (by omega)]; simp
  · rw [if_neg (by omega), List.getElem?_eq_none (by omega), List.getElem?_eq_none (by omega)]
section
variable {P : Program} {cfg : Cfg} {e : List (Nat × EV)} {L : List (Nat × List AV)} {H N : List (List AV)} {K : St → Prop}
variable {ty : TypeId} {pos : String} {aft : Array Edge} {gd : Option (Nat × Bool)} {dd : Nat}
theorem zuq {t tx el el' : TypeId} {z' : Nat} {s x : Operand} {n i g q m : Nat} {tag : Option (Nat × Nat)} {xs cs : List AV} {A N N' : List (List AV)} [si : SlI P t el 1] [sj : SlI P tx el' z'] (hs : St.ev ⟨e, L, A ++ N⟩ s = .val (.slm (n + i) g 0 q 1)) (hx : St.ev ⟨e, L, A ++ N⟩ x = .val (.sl tag m xs))
    (hA : A.length = n) (hc : N[i]? = some cs) (hg : cs.length = g) (hq : q = g) (hm : m = g) (hxl : xs.length = g) (hn : cfg.n0 = n) (hN : N.set i xs = N') (h : K ⟨(dd, .val (.int .i64 (g : Int))) :: e, L, A ++ N'⟩) :
    opX P cfg ⟨some dd, .call { callee := .builtin .copy, args := #[s, x], argTypes := #[t, tx] }, ty, pos, aft, gd⟩ K ⟨e, L, A ++ N⟩ := by
  subst hA
  have hsrc : zj5 (A ++ N) 1 (.sl tag m xs) = some (m, xs) := zg4 (by omega)
  simp only [opX, opE, List.map_cons, List.map_nil, hs, hx, EV.asV, si.h, si.z, sj.h, sj.z, Option.bind_some, hsrc, zpa, zau rfl hc]
  refine ⟨by omega, trivial, hg, .inl (by omega), by omega, ?_⟩
  have e1 : sc cs 0 (xs.take (min m q * 1)) = xs := by
    rw [show min m q * 1 = xs.length by omega, List.take_length]
    exact zwn (by omega)
  rw [e1, zet rfl hN, show min m q = g by omega]
  exact h
end
theorem zf4 {e : List (Nat × EV)} {L : List (Nat × List AV)} {H : List (List AV)} {K : St → Prop} {dd : Nat} (n' : Int) {n : Int} (hw : -9223372036854775808 ≤ n ∧ n ≤ 9223372036854775807) (hn : n = n') (h : K ⟨(dd, .val (.int .i64 n')) :: e, L, H⟩) : zcd dd K ⟨e, L, H⟩ (some (True, .int .i64 (IntKind.i64.wrap n))) := by
  subst hn; exact v_w hw h
theorem zff {m : Nat} {off ld : Int} {r c i0 j0 r' c' : Nat} (hG : zaa m off r c ld) (hi : i0 + r' ≤ r) (hj : j0 + c' ≤ c) (hr : 0 < r') (hc : 0 < c') : zaa m (off + ((i0 : Int) + (j0 : Int) * ld)) r' c' ld := by
  have h1 := zaj hG (i := ((i0 + (r' - 1) : Nat) : Int)) (j := ((j0 + (c' - 1) : Nat) : Int)) (by omega) (by omega) (by omega) (by omega)
  have h2 := zaj hG (i := (i0 : Int)) (j := (j0 : Int)) (by omega) (by omega) (by omega) (by omega)
  obtain ⟨g1, g2, g3, g4, g5, g6⟩ := hG
  have e : ((j0 + (c' - 1) : Nat) : Int) * ld = (j0 : Int) * ld + ((c' : Int) - 1) * ld := by
    rw [← Int.add_mul]; congr 1; omega
  have h3 : 0 ≤ ((c' : Int) - 1) * ld := Int.mul_nonneg (by omega) (by omega)
  refine ⟨by omega, by omega, by omega, g4, by omega, .inr (.inr ⟨by omega, by omega, by omega⟩)⟩
theorem zkj {m : Nat} {off ld : Int} {r c i0 j0 r' c' : Nat} (hI : MI m off r c ld) (hG : zaa m off r c ld) (hi : i0 + r' ≤ r) (hj : j0 + c' ≤ c) (hr : 0 < r') (hc : 0 < c') : MI m (off + ((i0 : Int) + (j0 : Int) * ld)) r' c' ld := by
  have h2 := zaj hG (i := (i0 : Int)) (j := (j0 : Int)) (by omega) (by omega) (by omega) (by omega)
  obtain ⟨h1, ho1, ho2, hr1, hr2, hc1, hc2, hl1, hl2⟩ := hI
  refine ⟨h1, by omega, by omega, by omega, by omega, by omega, by omega, hl1, hl2⟩
def zyl (p : List Int) : Prop := ∀ k, k < p.length → ((k : Int) ≤ p.getD k 0 ∧ p.getD k 0 < p.length)
instance (p : List Int) : Decidable (zyl p) := by unfold zyl; infer_instance
def zr5 (f : Nat → Nat) (i x : Nat) : Nat → Nat := fun k => if k = i then x else f k
def lo1 (a : Nat → Nat → Nat) (f : Nat → Nat) : Nat → Nat → Nat
  | 0 => f
  | j + 1 => fun i => if j < i then zyg (lo1 a f j i) (zjc (a i j) (lo1 a f j j)) else lo1 a f j i
def za6 (l : List Nat) (off inc : Int) (n : Nat) (f : Nat → Nat) : List Nat := zal l off inc 1 n (fun _ j => f j)
def vf (l : List Nat) (off inc : Int) : Nat → Nat := fun j => mel l off inc 0 j
@[simp] theorem zw7 (l : List Nat) (off inc : Int) (n : Nat) (f : Nat → Nat) : (za6 l off inc n f).length = l.length := by simp [za6]
theorem zaq.good {m : Nat} {off n inc : Int} (h : zaq m off n inc) : zaa m off 1 n inc := by
  obtain ⟨h1, h2, h3, h4⟩ := h
  refine ⟨by omega, h1, h3, h2, h2, ?_⟩
  rcases h4 with h4 | ⟨h4, h5⟩
  · exact .inr (.inl h4)
  · exact .inr (.inr ⟨h4, by omega, by omega⟩)
theorem zaq.goodN {m n : Nat} {off inc : Int} (h : zaq m off n inc) : zaa m off ((1 : Nat) : Int) (n : Int) inc := h.good
theorem VI.mat {m : Nat} {off n inc : Int} (h : VI m off n inc) : MI m off 1 n inc := by
  obtain ⟨a, b, c, d, e, f, g⟩ := h
  exact ⟨a, b, c, by omega, by omega, d, e, f, g⟩
section
variable {l : List Nat} {off inc : Int} {n : Nat} (hR : zaq l.length off n inc)
theorem zbh (h3 : 0 ≤ off) (h4 : 1 ≤ inc) {f g : Nat → Nat} (h : ∀ i, i < n → f i = g i) : za6 l off inc n f = za6 l off inc n g :=
  za4 h4 h3 fun i j hi hj => h j hj
include hR in
theorem zir {f : Nat → Nat} {i x : Nat} (hi : i < n) : (za6 l off inc n f).set (pos off inc 0 i) x = za6 l off inc n (zr5 f i x) := by
  have h := zlp (L := l) (g := fun _ j => f j) (r := 1) (c := n) hR.goodN (i := 0) (j := i) (x := x) (by omega) hi
  unfold za6
  rw [h]
  refine za4 hR.2.1 hR.2.2.1 fun i' j' hi' hj' => ?_
  have : i' = 0 := by omega
  subst this
  simp [zuf, zr5]
include hR in
theorem zqu {f : Nat → Nat} {k : Nat} (hk : k < n) : (za6 l off inc n f).getD (pos off inc 0 k) 0 = f k := by
  have h := zgd (L := l) (g := fun _ j => f j) (r := 1) (c := n) hR.goodN (i := 0) (j := k) (by omega) hk
  exact h
include hR in
theorem zfr {k : Nat} (hk : k < n) : pos off inc 0 k < l.length := zjo (r := 1) (c := n) hR.goodN (by omega) hk
include hR in
end
def msF (off r c : Int) : Int := if r = 0 ∨ c = 0 then 0 else off
def msT (off r c ld : Int) : Int := if r = 0 ∨ c = 0 then -1 else off + (c - 1) * ld + r - 1
def zcf (a b c d : Int) : Prop := a ≤ b ∧ c ≤ d ∧ a ≤ d ∧ c ≤ b
instance (a b c d : Int) : Decidable (zcf a b c d) := by unfold zcf; infer_instance
theorem zml {L : List Nat} {off ld : Int} {r c p : Nat} {g : Nat → Nat → Nat} (h3 : 0 ≤ off) (h4 : 1 ≤ ld) (h : ∀ i j, i < r → j < c → p ≠ pos off ld i j) : (zal L off ld r c g).getD p 0 = L.getD p 0 := by
  by_cases hp : p < L.length
  · unfold zal
    rw [zfq hp]
    cases e : loc off ld r c p with
    | none => rfl
    | some q =>
      obtain ⟨i, j⟩ := q
      obtain ⟨h1, h2, h5⟩ := zdl h4 h3 e
      exact absurd h5 (h i j h1 h2)
  · have h1 : (zal L off ld r c g).length ≤ p := by simp; omega
    simp only [List.getD_eq_getElem?_getD, List.getElem?_eq_none h1, List.getElem?_eq_none (show L.length ≤ p by omega)]
theorem zka {H : List (List AV)} {b g : Nat} {l : List Nat} (h : H[b]? = some (fl l)) (hg : l.length = g) : znb H b g = true := by
  simp [znb, h, hg]
theorem zjq {H : List (List AV)} {b c g g' o o' s s' z z' : Nat} {l l' : List Nat} (hb : H[b]? = some (fl l)) (hg : l.length = g) (hc : H[c]? = some (fl l')) (hg' : l'.length = g') (hn : b ≠ c) : ptrEq H (.slm b g o s z) 0 (.slm c g' o' s' z') 0 = some false := by
  simp [ptrEq, zka hb hg, zka hc hg', hn]
theorem zim {H : List (List AV)} {b g : Nat} {l : List Nat} (hb : H[b]? = some (fl l)) (hg : l.length = g) : ptrEq H (.slm b g 0 g 1) 0 (.slm b g 0 g 1) 0 = some true := by
  simp [ptrEq, zka hb hg]
theorem zhs : ∀ {l m : List Int}, l.Pairwise (· < ·) → m.Pairwise (· < ·) → (∀ x, x ∈ l ↔ x ∈ m) → l = m
  | [], [], _, _, _ => rfl
  | [], y :: m, _, _, h => by have := (h y).2 (by simp); simp at this
  | x :: l, [], _, _, h => by have := (h x).1 (by simp); simp at this
  | x :: l, y :: m, hl, hm, h => by
    have hl' := List.pairwise_cons.1 hl
    have hm' := List.pairwise_cons.1 hm
    have e : x = y := by
      have h1 := (h x).1 (by simp)
      have h2 := (h y).2 (by simp)
      rcases List.mem_cons.1 h1 with h1 | h1
      · exact h1
      · rcases List.mem_cons.1 h2 with h2 | h2
        · exact h2.symm
        · have := hm'.1 x h1; have := hl'.1 y h2; omega
    subst e
    congr 1
    refine zhs hl'.2 hm'.2 fun z => ⟨fun hz => ?_, fun hz => ?_⟩
    · rcases List.mem_cons.1 ((h z).1 (List.mem_cons_of_mem _ hz)) with rfl | h3
      · have := hl'.1 z hz; omega
      · exact h3
    · rcases List.mem_cons.1 ((h z).2 (List.mem_cons_of_mem _ hz)) with rfl | h3
      · have := hm'.1 z hz; omega
      · exact h3
def srt (l : List Int) : List Int := l.mergeSort fun x y => decide (x ≤ y)
theorem zks (l : List Int) : (srt l).length = l.length := List.length_mergeSort _
theorem zt5 {l : List Int} {x : Int} : x ∈ srt l ↔ x ∈ l := List.mem_mergeSort
theorem zht (l : List Int) : (srt l).Pairwise (· ≤ ·) := by
  have h := List.pairwise_mergeSort (le := fun (x y : Int) => decide (x ≤ y)) (fun a b c h1 h2 => by simp at *; omega) (fun a b => by simp; omega) l
  exact h.imp (by intro a b hab; simpa using hab)
theorem zdy (s : List Int) (hs : s.Pairwise (· ≤ ·)) : ∀ m, m ≤ s.length →
    (Lib.compactUpTo s.toArray m).Pairwise (· < ·) ∧ (∀ x, x ∈ Lib.compactUpTo s.toArray m ↔ ∃ j, j < m ∧ s.getD j 0 = x) ∧ (Lib.compactUpTo s.toArray m).length ≤ m
  | 0, _ => by simp [Lib.compactUpTo]
  | m + 1, hm => by
    obtain ⟨h1, h2, h3⟩ := zdy s hs m (by omega)
    have hg : ∀ j, j < s.length → s.toArray[j]! = s.getD j 0 := fun j hj => by simp [List.getD, hj, getElem!_def]
    have hle : ∀ i j, i ≤ j → j < s.length → s.getD i 0 ≤ s.getD j 0 := by
      intro i j hij hj
      rcases Nat.eq_or_lt_of_le hij with rfl | hlt
      · exact Int.le_refl _
      · have := List.pairwise_iff_getElem.1 hs i j (by omega) hj hlt
        simpa [List.getD, hj, show i < s.length by omega] using this
    rw [Lib.compactUpTo_succ]
    by_cases hk : Lib.keeps s.toArray m = true
    · rw [if_pos hk, hg m (by omega)]
      refine ⟨?_, ?_, by simp; omega⟩
      · rw [List.pairwise_append]
        refine ⟨h1, by simp, fun x hx y hy => ?_⟩
        simp only [List.mem_singleton] at hy; subst hy
        obtain ⟨j, hj, rfl⟩ := (h2 x).1 hx
        have hm0 : m ≠ 0 := by omega
        have h4 : s.getD m 0 ≠ s.getD (m - 1) 0 := by
          have : m = 0 ∨ s.toArray[m]! ≠ s.toArray[m - 1]! := by simpa [Lib.keeps] using hk
          rcases this with h | h
          · exact absurd h hm0
          · rwa [hg m (by omega), hg (m - 1) (by omega)] at h
        have h5 := hle j (m - 1) (by omega) (by omega)
        have h6 := hle (m - 1) m (by omega) (by omega)
        omega
      · intro x
        simp only [List.mem_append, List.mem_singleton]
        constructor
        · rintro (hx | rfl)
          · obtain ⟨j, hj, e⟩ := (h2 x).1 hx; exact ⟨j, by omega, e⟩
          · exact ⟨m, by omega, rfl⟩
        · rintro ⟨j, hj, rfl⟩
          by_cases e : j = m
          · subst e; exact .inr rfl
          · exact .inl ((h2 _).2 ⟨j, by omega, rfl⟩)
    · rw [if_neg hk, List.append_nil]
      refine ⟨h1, fun x => ?_, by omega⟩
      rw [h2 x]
      have h4 : ¬ (m = 0) ∧ s.getD m 0 = s.getD (m - 1) 0 := by
        have : ¬ (m = 0 ∨ s.toArray[m]! ≠ s.toArray[m - 1]!) := by simpa [Lib.keeps] using hk
        refine ⟨fun h => this (.inl h), ?_⟩
        have h5 : s.toArray[m]! = s.toArray[m - 1]! := Decidable.not_not.1 fun h => this (.inr h)
        rwa [hg m (by omega), hg (m - 1) (by omega)] at h5
      constructor
      · rintro ⟨j, hj, e⟩; exact ⟨j, by omega, e⟩
      · rintro ⟨j, hj, rfl⟩
        by_cases e : j = m
        · subst e; exact ⟨j - 1, by omega, h4.2.symm⟩
        · exact ⟨j, by omega, rfl⟩
theorem zfu (s : List Int) (hs : s.Pairwise (· ≤ ·)) : (Lib.compact s).Pairwise (· < ·) ∧ (∀ x, x ∈ Lib.compact s ↔ x ∈ s) ∧ (Lib.compact s).length ≤ s.length := by
  obtain ⟨h1, h2, h3⟩ := zdy s hs s.length (Nat.le_refl _)
  refine ⟨h1, fun x => ?_, h3⟩
  show x ∈ Lib.compactUpTo s.toArray s.length ↔ _
  rw [h2 x, List.mem_iff_getElem]
  constructor
  · rintro ⟨j, hj, rfl⟩; exact ⟨j, hj, by simp [List.getD, hj]⟩
  · rintro ⟨j, hj, rfl⟩; exact ⟨j, hj, by simp [List.getD, hj]⟩
theorem zhb (s : List Int) : (Lib.compact s).length ≤ s.length := by
  have : ∀ m, (Lib.compactUpTo s.toArray m).length ≤ m := by
    intro m
    unfold Lib.compactUpTo
    rw [List.length_map]
    exact Nat.le_trans (List.length_filter_le _ _) (by simp)
  exact this _
def cI (n m k : Nat) : List Int := (n : Int) :: (List.range k).map fun i => ((i * m : Nat) : Int)
def okB (n : Nat) (x : Int) : Bool := decide (0 ≤ x ∧ x ≤ n)
def cM (n m K : Nat) (more : List Int) (j : Nat) : List Int := cI n m K ++ (more.take j).filter (okB n)
def zt8 (n m : Nat) (more : List Int) (k : Int) : Prop := k = n ∨ (∃ i : Nat, i * m < n ∧ k = ((i * m : Nat) : Int)) ∨ (k ∈ more ∧ 0 ≤ k ∧ k ≤ n)
theorem zu9 {n m : Nat} (hm : 0 < m) (more : List Int) (x : Int) : x ∈ cM n m ((n + m - 1) / m) more more.length ↔ zt8 n m more x := by
  unfold cM cI zt8 okB
  rw [List.take_length]
  simp only [List.mem_append, List.mem_cons, List.mem_map, List.mem_range, List.mem_filter, decide_eq_true_eq]
  have hK : ∀ i, i < (n + m - 1) / m ↔ i * m < n := by
    intro i
    rw [Nat.lt_iff_add_one_le, Nat.le_div_iff_mul_le hm, Nat.add_mul]
    omega
  constructor
  · rintro ((rfl | ⟨i, hi, rfl⟩) | h)
    · exact .inl rfl
    · exact .inr (.inl ⟨i, (hK i).1 hi, rfl⟩)
    · exact .inr (.inr h)
  · rintro (rfl | ⟨i, hi, rfl⟩ | h)
    · exact .inl (.inl rfl)
    · exact .inl (.inr ⟨i, (hK i).2 hi, rfl⟩)
    · exact .inr h
def dL (n m : Nat) (more : List Int) : List Int := Lib.compact (srt (cM n m ((n + m - 1) / m) more more.length))
def ziv : List Int → List (Int × Int)
  | [] => []
  | [_] => []
  | x :: y :: l => (x, y - x) :: ziv (y :: l)
theorem zfg : ∀ l : List Int, (ziv l).length = l.length - 1
  | [] => rfl
  | [_] => rfl
  | x :: y :: l => by
    have := zfg (y :: l)
    simp only [ziv, List.length_cons] at *; omega
theorem zil : ∀ (l : List Int) (j : Nat), j + 1 < l.length → (ziv l)[j]? = some (l.getD j 0, l.getD (j + 1) 0 - l.getD j 0)
  | [], j, h => by simp at h
  | [_], j, h => by simp at h
  | x :: y :: l, 0, h => by simp [ziv, List.getD]
  | x :: y :: l, j + 1, h => by
    have := zil (y :: l) j (by simp at h ⊢; omega)
    simp only [ziv, List.getElem?_cons_succ, this, List.getD_cons_succ]
open Classical in
noncomputable def zpc (S : Int → Prop) : Nat → List Int
  | 0 => [0]
  | k + 1 => if S ((k + 1 : Nat) : Int) then zpc S k ++ [((k + 1 : Nat) : Int)] else zpc S k
theorem zfj (S : Int → Prop) (h0 : S 0) : ∀ k, (zpc S k).Pairwise (· < ·) ∧ (∀ x, x ∈ zpc S k ↔ (0 ≤ x ∧ x ≤ k ∧ S x)) ∧ zpc S k ≠ []
  | 0 => by
    refine ⟨by simp [zpc], fun x => ?_, by simp [zpc]⟩
    simp only [zpc, List.mem_singleton]
    constructor
    · rintro rfl; exact ⟨by omega, by omega, h0⟩
    · rintro ⟨h1, h2, _⟩; omega
  | k + 1 => by
    obtain ⟨h1, h2, h3⟩ := zfj S h0 k
    unfold zpc
    split
    · rename_i hS
      refine ⟨?_, fun x => ?_, by simp⟩
      · rw [List.pairwise_append]
        refine ⟨h1, by simp, fun x hx y hy => ?_⟩
        simp only [List.mem_singleton] at hy; subst hy
        have := (h2 x).1 hx; omega
      · simp only [List.mem_append, List.mem_singleton, h2 x]
        constructor
        · rintro (⟨a, b, c⟩ | rfl)
          · exact ⟨a, by omega, c⟩
          · exact ⟨by omega, by omega, hS⟩
        · rintro ⟨a, b, c⟩
          by_cases e : x = ((k + 1 : Nat) : Int)
          · exact .inr e
          · exact .inl ⟨a, by omega, c⟩
    · rename_i hS
      refine ⟨h1, fun x => ?_, h3⟩
      rw [h2 x]
      constructor
      · rintro ⟨a, b, c⟩; exact ⟨a, by omega, c⟩
      · rintro ⟨a, b, c⟩
        by_cases e : x = ((k + 1 : Nat) : Int)
        · subst e; exact absurd c hS
        · exact ⟨a, by omega, c⟩
theorem zos {n m : Nat} (hm : 0 < m) (hn : 0 < n) (more : List Int) : zpc (zt8 n m more) n = dL n m more := by
  have h0 : zt8 n m more 0 := .inr (.inl ⟨0, by omega, by simp⟩)
  obtain ⟨h1, h2, h3⟩ := zfj _ h0 n
  obtain ⟨h4, h5, h6⟩ := zfu _ (zht (cM n m ((n + m - 1) / m) more more.length))
  refine zhs h1 h4 fun x => ?_
  unfold dL
  rw [h2 x, h5 x, zt5, zu9 hm]
  constructor
  · exact fun h => h.2.2
  · intro h
    rcases h with rfl | ⟨i, hi, rfl⟩ | ⟨h, h', h''⟩
    · exact ⟨by omega, by omega, .inl rfl⟩
    · exact ⟨by omega, by omega, .inr (.inl ⟨i, hi, rfl⟩)⟩
    · exact ⟨h', h'', .inr (.inr ⟨h, h', h''⟩)⟩
end Go.Sx
namespace Go.Sx
@[simp] theorem zu8 (n m k : Nat) : (cI n m k).length = k + 1 := by simp [cI]
theorem zsp (n m k : Nat) : il (cI n m k) ++ [.int .i64 ((k * m : Nat) : Int)] = il (cI n m (k + 1)) := by
  simp [il, cI, List.range_succ]
theorem zsq (n m K : Nat) (more : List Int) : cM n m K more 0 = cI n m K := by simp [cM]
theorem zxm {n m K : Nat} {more : List Int} {j : Nat} (hj : j < more.length) (h : 0 ≤ more.getD j 0 ∧ more.getD j 0 ≤ n) : cM n m K more (j + 1) = cM n m K more j ++ [more.getD j 0] := by
  have e : more.getD j 0 = more[j] := by simp [List.getD, hj]
  rw [e] at h ⊢
  simp only [cM, List.take_add_one, List.getElem?_eq_getElem hj, Option.toList_some, List.filter_append, List.append_assoc]
  have : okB n more[j] = true := decide_eq_true h
  simp [this]
theorem zxl {n m K : Nat} {more : List Int} {j : Nat} (hj : j < more.length) (h : ¬ (0 ≤ more.getD j 0 ∧ more.getD j 0 ≤ n)) : cM n m K more (j + 1) = cM n m K more j := by
  have e : more.getD j 0 = more[j] := by simp [List.getD, hj]
  rw [e] at h
  simp only [cM, List.take_add_one, List.getElem?_eq_getElem hj, Option.toList_some, List.filter_append]
  have : okB n more[j] = false := decide_eq_false h
  simp [this]
theorem zm6 (n m K : Nat) (more : List Int) (j : Nat) : (cM n m K more j).length ≤ K + 1 + more.length := by
  simp only [cM, List.length_append, zu8]
  have h1 := List.length_filter_le (okB n) (more.take j)
  have h2 : (more.take j).length ≤ more.length := by simp; omega
  omega
theorem K_le {n m : Nat} (hm : 0 < m) : (n + m - 1) / m ≤ n := by
  rcases Nat.eq_zero_or_pos n with rfl | hn
  · rw [Nat.div_eq_of_lt (by omega)]; omega
  · refine Nat.div_le_of_le_mul ?_
    have h1 : n - 1 ≤ m * (n - 1) := Nat.le_mul_of_pos_left _ hm
    have h2 : m * n = m * (n - 1) + m := by rw [← Nat.mul_succ]; congr 1; omega
    omega
theorem zyp {n m i : Nat} (hm : 0 < m) : i < (n + m - 1) / m ↔ i * m < n := by
  rw [Nat.lt_iff_add_one_le, Nat.le_div_iff_mul_le hm, Nat.add_mul]
  omega
theorem zhz {n m : Nat} (hm : 0 < m) (hn : 0 < n) (more : List Int) : 2 ≤ (dL n m more).length ∧ (dL n m more).length ≤ (cM n m ((n + m - 1) / m) more more.length).length ∧
    (∀ j, j < (dL n m more).length → 0 ≤ (dL n m more).getD j 0 ∧ (dL n m more).getD j 0 ≤ n) ∧ (dL n m more).Pairwise (· < ·) := by
  obtain ⟨h4, h5, h6⟩ := zfu _ (zht (cM n m ((n + m - 1) / m) more more.length))
  have h0 : zt8 n m more 0 := .inr (.inl ⟨0, by omega, by simp⟩)
  obtain ⟨h1, h2, h3⟩ := zfj _ h0 n
  rw [zos hm hn] at h1 h2 h3
  have m0 := (h2 0).2 ⟨by omega, by omega, h0⟩
  have mn := (h2 n).2 ⟨by omega, by omega, .inl rfl⟩
  refine ⟨?_, by rw [zks] at h6; exact h6, fun j hj => ?_, h1⟩
  · match hd : dL n m more with
    | [] => rw [hd] at m0; simp at m0
    | [x] => rw [hd] at m0 mn; simp at m0 mn; omega
    | _ :: _ :: _ => simp
  · have e : (dL n m more).getD j 0 = (dL n m more)[j] := by simp [List.getD, hj]
    rw [e]
    have := (h2 _).1 (List.getElem_mem hj)
    exact ⟨this.1, this.2.1⟩
theorem zqz {d : List Int} {j : Nat} (h : j + 1 < d.length) : (ziv d).take j ++ [(d.getD j 0, d.getD (j + 1) 0 - d.getD j 0)] = (ziv d).take (j + 1) := by
  rw [List.take_add_one, zil d j h]; rfl
theorem zqy {d : List Int} : (ziv d).take (d.length - 1) = ziv d := by
  rw [← zfg]; exact List.take_length
theorem zg3 {d : List Int} (hd : d.Pairwise (· < ·)) {k : Nat} (hk : k + 1 < d.length) {y : Int} (hy : y ∈ d) (h : d.getD k 0 < y) : d.getD (k + 1) 0 ≤ y := by
  obtain ⟨j, hj, rfl⟩ := List.mem_iff_getElem.1 hy
  have e1 : d.getD k 0 = d[k] := by simp [List.getD, show k < d.length by omega]
  have e2 : d.getD (k + 1) 0 = d[k + 1] := by simp [List.getD, hk]
  rw [e1] at h; rw [e2]
  rcases Nat.lt_or_ge j (k + 1) with hlt | hge
  · rcases Nat.eq_or_lt_of_le (Nat.le_of_lt_succ hlt) with rfl | hl
    · omega
    · have := List.pairwise_iff_getElem.1 hd j k hj (by omega) hl; omega
  · rcases Nat.eq_or_lt_of_le hge with rfl | hl
    · exact Int.le_refl _
    · have := List.pairwise_iff_getElem.1 hd (k + 1) j hk hj hl; omega
theorem zsw {n m : Nat} (hm : 0 < m) (hn : 0 < n) (more : List Int) : (dL n m more).getD 0 0 = 0 ∧ (dL n m more).getD ((dL n m more).length - 1) 0 = n ∧
    ∀ k, k + 1 < (dL n m more).length → (dL n m more).getD k 0 < (dL n m more).getD (k + 1) 0 ∧ (dL n m more).getD (k + 1) 0 - (dL n m more).getD k 0 ≤ m := by
  obtain ⟨g1, g2, g3, g4⟩ := zhz (n := n) (m := m) hm hn more
  have h0 : zt8 n m more 0 := .inr (.inl ⟨0, by omega, by simp⟩)
  obtain ⟨h1, h2, h3⟩ := zfj _ h0 n
  rw [zos hm hn] at h1 h2 h3
  have m0 := (h2 0).2 ⟨by omega, by omega, h0⟩
  have mn := (h2 n).2 ⟨by omega, by omega, .inl rfl⟩
  have hge : ∀ j, (hj : j < (dL n m more).length) → (dL n m more).getD j 0 = (dL n m more)[j] := fun j hj => by simp [List.getD, hj]
  have hmono : ∀ i j, i < j → (hj : j < (dL n m more).length) → (dL n m more).getD i 0 < (dL n m more).getD j 0 := fun i j hij hj => by
    rw [hge i (by omega), hge j hj]; exact List.pairwise_iff_getElem.1 g4 i j (by omega) hj hij
  refine ⟨?_, ?_, fun k hk => ⟨hmono k (k + 1) (by omega) hk, ?_⟩⟩
  · obtain ⟨j, hj, e⟩ := List.mem_iff_getElem.1 m0
    rw [← hge j hj] at e
    rcases Nat.eq_zero_or_pos j with rfl | hp
    · exact e
    · have := hmono 0 j hp hj; have := g3 0 (by omega); omega
  · obtain ⟨j, hj, e⟩ := List.mem_iff_getElem.1 mn
    rw [← hge j hj] at e
    rcases Nat.eq_or_lt_of_le (show j ≤ (dL n m more).length - 1 by omega) with rfl | hp
    · exact e
    · have := hmono j _ hp (by omega); have := g3 ((dL n m more).length - 1) (by omega); omega
  · obtain ⟨a1, a2⟩ := g3 k (by omega)
    have hlt : (dL n m more).getD k 0 < n := by have := hmono k (k + 1) (by omega) hk; have := g3 (k + 1) hk; omega
    obtain ⟨x, hx⟩ : ∃ x : Nat, (dL n m more).getD k 0 = (x : Int) := ⟨((dL n m more).getD k 0).toNat, by omega⟩
    have hdm := Nat.div_add_mod x m
    have hml := Nat.mod_lt x hm
    have he : (x / m + 1) * m = m * (x / m) + m := by rw [Nat.add_mul, Nat.one_mul, Nat.mul_comm]
    by_cases hc : (x / m + 1) * m < n
    · have hin : (((x / m + 1) * m : Nat) : Int) ∈ dL n m more := (h2 _).2 ⟨by omega, by omega, .inr (.inl ⟨x / m + 1, hc, rfl⟩)⟩
      have := zg3 g4 hk hin (by omega)
      omega
    · have := zg3 g4 hk mn (by omega)
      omega
end Go.Sx
set_option linter.unusedVariables false
set_option linter.unusedSimpArgs false
namespace Go.Sx
structure DV where
  neg : Bool
  l : List Int
  e : Int
def zyo : List Int → Int
  | [] => 0
  | d :: l => d + 65536 * zyo l
def zr7 (l : List Int) : Prop := ∀ d ∈ l, 0 ≤ d ∧ d < 65536
def zxp (l : List Int) (a b : Nat) : List Int := (l.drop a).take (l.length - a - b)
@[simp] theorem zw1 (l : List Int) (a b : Nat) : (zxp l a b).length = l.length - a - b := by simp only [zxp, List.length_take, List.length_drop]; omega
structure Strip (l : List Int) (a b : Nat) : Prop where
  lt : a + b < l.length
  fst : ∀ k, k < a → l.getD k 0 = 0
  fne : l.getD a 0 ≠ 0
  lst : ∀ k, k < b → l.getD (l.length - 1 - k) 0 = 0
  lne : l.getD (l.length - 1 - b) 0 ≠ 0
def lead : List Int → Nat
  | [] => 0
  | d :: l => if d = 0 then lead l + 1 else 0
def mk (l : List Int) : List Int := zxp l (lead l) (lead l.reverse)
def mn (neg : Bool) (l : List Int) : Bool := if lead l = l.length then false else neg
def p2 (k : Int) : Rat := (2 : Rat) ^ k
def pw (e : Int) : Rat := p2 (16 * e)
def mag (d : DV) : Rat := ((zyo d.l : Int) : Rat) * pw d.e
def sgn (b : Bool) (x : Rat) : Rat := if b then -x else x
def V (d : DV) : Rat := sgn d.neg (mag d)
structure In (d : DV) (B : Int) : Prop where
  dig : zr7 d.l
  nil : d.l = [] → d.neg = false ∧ d.e = 0
  ne : d.l ≠ [] → d.l.getD 0 0 ≠ 0 ∧ d.l.getD (d.l.length - 1) 0 ≠ 0
  lo : d.l ≠ [] → -B ≤ d.e
  hi : d.l ≠ [] → d.e + d.l.length ≤ B
theorem In.mono {d : DV} {B C : Int} (h : In d B) (hBC : B ≤ C) : In d C :=
  ⟨h.dig, h.nil, h.ne, fun hl => by have := h.lo hl; omega, fun hl => by have := h.hi hl; omega⟩
theorem In.len {d : DV} {B : Int} (h : In d B) (h0 : 0 ≤ B) (hB : B ≤ 2 ^ 19) : d.l.length ≤ 2 ^ 20 := by
  by_cases hl : d.l = []
  · rw [hl]; simp
  · have := h.lo hl; have := h.hi hl; omega
theorem zr7.drop {l : List Int} (h : zr7 l) (k : Nat) : zr7 (l.drop k) := fun d hd => h d (List.mem_of_mem_drop hd)
theorem zr7.take {l : List Int} (h : zr7 l) (k : Nat) : zr7 (l.take k) := fun d hd => h d (List.mem_of_mem_take hd)
section
variable {a b : Nat → Int} (ha : ∀ j, 0 ≤ a j ∧ a j < 65536) (hb : ∀ j, 0 ≤ b j ∧ b j < 65536)
include ha hb in
end
def zyk (b : Nat) : Bool := decide ((b : Int) / 9223372036854775808 = 1)
def pE₀ (b : Nat) : Int := (b : Int) / 4503599627370496 % 2048
def pM₀ (b : Nat) : Int := (b : Int) % 4503599627370496
def pM (b : Nat) : Int := if pE₀ b = 2047 then 0 else if pE₀ b = 0 then pM₀ b else pM₀ b + 4503599627370496
def pE (b : Nat) : Int := if pE₀ b = 2047 then 0 else if pE₀ b = 0 then -1074 else pE₀ b - 1075
def pK (b : Nat) : Int := if pE₀ b = 2047 ∧ pM₀ b = 0 then 1 else if pE₀ b = 2047 then 2 else 0
def zyd (i0 j0 i j : Nat) : Prop := i < i0 ∨ (i = i0 ∧ j < j0)
instance (i0 j0 i j : Nat) : Decidable (zyd i0 j0 i j) := by unfold zyd; infer_instance
theorem zab.args {P : Program} {f : Nat} {a a' : List AV} {H H' : List (List AV)} {r : AV} (h : zab P f a H r H') (ha : ∀ w g vs, za7 w g a' vs → za7 w g a vs) : zab P f a' H r H' := by
  rcases h with ⟨he, h⟩ | ⟨he, h⟩
  · exact .inl ⟨he, fun w g c hw hl => h w g c hw (ha _ _ _ hl)⟩
  · exact .inr ⟨he, fun w g c hl => h w g c (ha _ _ _ hl)⟩
theorem zrf (b : Nat) : cn (cn b) = cn b := by
  rcases zcv b with ⟨h1, h2⟩ | ⟨h1, h2⟩
  · rw [h2]; decide
  · rw [h2, h2]
theorem zva {b : Nat} (h : b < 2 ^ 64) : cn b < 2 ^ 64 := by
  unfold cn; split
  · decide
  · exact h
end Go.Sx
set_option linter.unusedVariables false
set_option linter.unusedSimpArgs false
set_option maxRecDepth 20000
namespace Go.Sx
open Ieee
theorem zpp (x y : Nat) : cn (zpb x y) = zpb x y ∧ zpb x y < 2 ^ 64 := by
  unfold zpb fop
  split
  · rename_i r hr
    exact ⟨zrf _, zva (Ieee.Format.add_lt _ hr)⟩
  · exact ⟨by decide, by decide⟩
end Go.Sx
set_option linter.unusedVariables false
set_option linter.unusedSimpArgs false
namespace Go.Sx
def gmB (B y : Nat) : Nat := if feq B 0 = true then 0 else zjc B y
def gmS (A : Nat) (row x : Nat → Nat) (s : Nat) : Nat → Nat
  | 0 => s
  | k + 1 => zpb (gmS A row x s k) (zjc (zjc A (x k)) (row k))
theorem zoq : Ieee.double.read 4607182418800017408 = .number false 4503599627370496 (-52) := by decide
theorem zqa {k : Nat} (hk : k ≤ 9218868437227405312) (s : Bool) : Ieee.double.mul 4607182418800017408 (Ieee.double.word s k) = some (Ieee.double.word s k) := by
  unfold Ieee.Format.mul
  rw [zoq, zor _ _ hk]
  rcases Nat.lt_or_ge k 9218868437227405312 with h | h
  · obtain ⟨m, e, h1, h2⟩ := zmk h
    rw [h1]
    have e1 : (-52 + e : Int) = e + -52 := by omega
    cases s with
    | false => simp [Ieee.Datum.product, Ieee.Format.write, zho, e1, h2]
    | true => simp [Ieee.Datum.product, Ieee.Datum.opposite, Ieee.Format.write, zho, e1, h2]
  · have hke : k = 9218868437227405312 := by omega
    subst hke
    have hi : Ieee.double.read 9218868437227405312 = .infinity false := by decide
    rw [hi]
    cases s with
    | false => simp [Ieee.Datum.product, Ieee.Format.write, zt9]
    | true => simp [Ieee.Datum.product, Ieee.Datum.opposite, Ieee.Format.write, zt9]
theorem zq4 {x : Nat} (hn : isNaN x = false) (h2 : x < 2 ^ 64) : ∃ s k, k ≤ 9218868437227405312 ∧ x = Ieee.double.word s k := by
  have h3 : x % 9223372036854775808 ≤ 9218868437227405312 := by
    rcases Nat.lt_or_ge 9218868437227405312 (x % 9223372036854775808) with h | h
    · have : isNaN x = true := by
        unfold isNaN Ieee.Format.read
        simp only [zsx, zw2, zt9]
        rw [if_neg (by omega), if_neg (by omega), if_neg (by omega)]
        rfl
      rw [this] at hn; cases hn
    · exact h
  by_cases h : x < 9223372036854775808
  · refine ⟨false, x, by omega, ?_⟩
    simp [Ieee.Format.word, zsx]
  · refine ⟨true, x - 9223372036854775808, by omega, ?_⟩
    simp [Ieee.Format.word, zsx]; omega
theorem zqf {x : Nat} (h : cn x = x) (h2 : x < 2 ^ 64) : zjc 4607182418800017408 x = x := by
  have ff : ∀ (f : Nat → Nat → Option Nat) a b, fop f a b = (match f a b with | some r => cn r | none => qn) := fun _ _ _ => rfl
  show fop _ _ _ = _
  rw [ff]
  rcases zcv x with ⟨h3, h4⟩ | ⟨h3, h4⟩
  · rw [(zti _ h3).1]; rw [← h, h4]
  · obtain ⟨s, k, hk, e⟩ := zq4 (by simpa using h3) h2
    subst e
    rw [zqa hk]; exact h
def zha (g : Nat → Nat → Nat) (r0 m j0 : Nat) (f : Nat → Nat) : Nat → Nat → Nat := fun i j => if j = j0 ∧ r0 ≤ i ∧ i < r0 + m then f (i - r0) else g i j
theorem zmh {k : Nat} {off xl : Int} {n c r0 m j : Nat} (hG : zaa k off n c xl) (hr : r0 + m ≤ n) (hj : j < c) (hm : 0 < m) : zaq k (off + ((r0 : Int) + (j : Int) * xl)) m 1 := by
  have h1 := zaj hG (i := ((r0 + (m - 1) : Nat) : Int)) (j := (j : Int)) (by omega) (by omega) (by omega) (by omega)
  have h2 := zaj hG (i := (r0 : Int)) (j := (j : Int)) (by omega) (by omega) (by omega) (by omega)
  obtain ⟨g1, g2, g3, g4, g5, g6⟩ := hG
  refine ⟨by omega, by omega, by omega, .inr ⟨by omega, by omega⟩⟩
theorem zof {k : Nat} {off xl : Int} {n c r0 m j : Nat} (hG : zaa k off n c xl) (hr : r0 + m ≤ n) (hj : j < c) (hm : 0 < m) : zaa k (off + ((r0 : Int) + (j : Int) * xl)) 1 m 1 := (zmh hG hr hj hm).good
theorem zog {off xl : Int} {r0 j k : Nat} : pos (off + ((r0 : Int) + (j : Int) * xl)) 1 0 k = pos off xl (r0 + k) j := by
  unfold pos; congr 1; omega
theorem zqs {L : List Nat} {off xl : Int} {n c r0 m j : Nat} {f : Nat → Nat} (hG : zaa L.length off n c xl) (hr : r0 + m ≤ n) (hj : j < c) (hm : 0 < m) :
    za6 L (off + ((r0 : Int) + (j : Int) * xl)) 1 m f = zal L off xl n c (zha (mel L off xl) r0 m j f) := by
  have hC := zof hG hr hj hm
  obtain ⟨h1, h2, h3, h4, h5, h6⟩ := id hG
  unfold za6 zal
  refine zec fun p hp => ?_
  cases hl : loc (off + ((r0 : Int) + (j : Int) * xl)) 1 1 m p with
  | some q =>
    obtain ⟨i, k⟩ := q
    obtain ⟨hi', hj', rfl⟩ := zdl (by omega) hC.2.2.1 hl
    have : i = 0 := by omega
    subst this
    rw [zog, zfn hG (by omega) hj]
    simp only [zha]
    rw [if_pos ⟨trivial, by omega, by omega⟩]
    congr 1; omega
  | none =>
    cases hl' : loc off xl n c p with
    | some q =>
      obtain ⟨i', j'⟩ := q
      obtain ⟨hi', hj', rfl⟩ := zdl h4 h3 hl'
      simp only [zha]
      rw [if_neg]
      · rfl
      · rintro ⟨k1, k2, k3⟩
        subst k1
        have := zfn (r := 1) (c := m) hC (i := 0) (j := i' - r0) (by omega) (by omega)
        rw [zog, show r0 + (i' - r0) = i' from by omega, hl] at this
        cases this
    | none => rfl
theorem zoz {l : List Nat} {off xl : Int} {n c r0 m j : Nat} {g : Nat → Nat → Nat} {f : Nat → Nat} (hG : zaa l.length off n c xl) (hr : r0 + m ≤ n) (hj : j < c) (hm : 0 < m) :
    za6 (zal l off xl n c g) (off + ((r0 : Int) + (j : Int) * xl)) 1 m f = zal l off xl n c (zha g r0 m j f) := by
  rw [zqs (by simpa using hG) hr hj hm, zju]
  refine za4 hG.2.2.2.1 hG.2.2.1 fun i k hi hk => ?_
  unfold zha
  split
  · rfl
  · exact zgd hG hi hk
def Can (x : Nat) : Prop := cn x = x ∧ x < 2 ^ 64
theorem zs4 (h : Nat → Nat → Option Nat) (hl : ∀ x y r, h x y = some r → r < 2 ^ 64) (x y : Nat) : Can (fop h x y) := by
  unfold fop
  split
  · rename_i r hr; exact ⟨zrf _, zva (hl _ _ _ hr)⟩
  · exact ⟨by decide, by decide⟩
theorem zng (x y : Nat) : Can (zpb x y) := zpp x y
theorem zni (x y : Nat) : Can (zjc x y) := zs4 _ (fun x y r h => Ieee.Format.mul_lt Ieee.double h) x y
theorem zs9 {x : Nat} (h : Can x) : gmB 4607182418800017408 x = x := by
  unfold gmB
  rw [if_neg (by decide +kernel), zqf h.1 h.2]
def wrC (g g' : Nat → Nat → Nat) (k : Nat) : Nat → Nat → Nat := fun i j => if j < k then g' i j else g i j
theorem zlv {g g' : Nat → Nat → Nat} (i j : Nat) : wrC g g' 0 i j = g i j := by simp [wrC]
theorem zo8 {g g' : Nat → Nat → Nat} {c i j : Nat} (h : j < c) : wrC g g' c i j = g' i j := by simp [wrC, h]
theorem zw0 {g g' : Nat → Nat → Nat} {c i : Nat} : wrC g g' c i c = g i c := by simp [wrC]
theorem zlu {g g' : Nat → Nat → Nat} {k r0 m n : Nat} {f : Nat → Nat} (h : ∀ i, i < n → g' i k = (if r0 ≤ i ∧ i < r0 + m then f (i - r0) else g i k)) (i j : Nat) (hi : i < n) : zha (wrC g g' k) r0 m k f i j = wrC g g' (k + 1) i j := by
  unfold zha wrC
  by_cases hj : j = k
  · subst hj
    rw [if_pos (show j < j + 1 by omega), h i hi]
    by_cases hr : r0 ≤ i ∧ i < r0 + m
    · rw [if_pos ⟨rfl, hr⟩, if_pos hr]
    · rw [if_neg (fun q => hr q.2), if_neg hr, if_neg (by omega)]
  · rw [if_neg (fun q => hj q.1)]
    by_cases h2 : j < k
    · rw [if_pos h2, if_pos (by omega)]
    · rw [if_neg h2, if_neg (by omega)]
end Go.Sx
