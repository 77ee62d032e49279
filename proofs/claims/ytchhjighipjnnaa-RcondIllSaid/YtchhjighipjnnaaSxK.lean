/- A part of the proofs of this seat: SxK. No condition is set. -/
import Derived.Test.YtchhjighipjnnaaSxJ
set_option linter.unusedVariables false
namespace Go.Sx

/-! ### what is known of types, found by instance -/
class TyI (P : Program) (t : TypeId) (sz : outParam Nat) (agg : outParam Bool) : Prop where
  sz : tsz P t = some sz
  kind : tkind P t = some agg
class FldI (P : Program) (t : TypeId) (i : Nat) (off : outParam Nat) (ft : outParam TypeId) : Prop where
  h : fieldOff P t i = some (off, ft)
  pos : (tsz P ft).any (0 < ·) = true
class SlI (P : Program) (t : TypeId) (el : outParam TypeId) (z : outParam Nat) : Prop where
  h : telem P t = some el
  z : tsz P el = some z
class ZI (P : Program) (t : TypeId) (cs : outParam (List AV)) : Prop where
  h : (tzero P t).bind AV.cells = some cs
class PtI (P : Program) (t : TypeId) : Prop where
  h : ptrTy P t = true
class EI (P : Program) (t : TypeId) (s by_ : outParam Nat) (zc : outParam (List AV)) : Prop where
  h : einfo P t = some (s, by_, zc)

section
variable {P : Program} {cfg : Cfg} {dr : Array Oper → (St → Prop) → St → Prop} {e : List (Nat × EV)} {L : List (Nat × List AV)} {H : List (List AV)} {Q : XE → St → Prop} {K : St → Prop}
variable {kn : Option (Nat × Bool)} {ops : Array Oper} {d : Option Tmp} {o : Op} {ty : TypeId} {pos : String} {aft : Array Edge} {rest : List Oper} {j : Nat} {b want : Bool} {gd : Option (Nat × Bool)} {dd : Nat}

/-! the steps, backwards -/
theorem b_seq {x y : Code} (h : Ex P cfg dr x (thenX P cfg dr y Q) ⟨e, L, H⟩) : Ex P cfg dr (.seq x y) Q ⟨e, L, H⟩ := h
theorem b_block {id : Nat} {c : Code} (h : Ex P cfg dr c (blkX id Q) ⟨e, L, H⟩) : Ex P cfg dr (.block id c) Q ⟨e, L, H⟩ := h
theorem b_skip (h : Q .normal ⟨e, L, H⟩) : Ex P cfg dr .skip Q ⟨e, L, H⟩ := h
theorem b_ret (h : Q .ret ⟨e, L, H⟩) : Ex P cfg dr .ret Q ⟨e, L, H⟩ := h
theorem b_exit {i : Nat} (h : Q (.exit i) ⟨e, L, H⟩) : Ex P cfg dr (.exit i) Q ⟨e, L, H⟩ := h
theorem b_region {id : Nat} {ops : List Oper} (h : exOps P cfg ops.toArray none ops (Q .normal) ⟨e, L, H⟩) : Ex P cfg dr (.region id ops.toArray false) Q ⟨e, L, H⟩ := h
theorem b_thn {y : Code} (h : Ex P cfg dr y Q ⟨e, L, H⟩) : thenX P cfg dr y Q .normal ⟨e, L, H⟩ := h
theorem b_thr {y : Code} (h : Q .ret ⟨e, L, H⟩) : thenX P cfg dr y Q .ret ⟨e, L, H⟩ := h
theorem b_the {y : Code} {i : Nat} (h : Q (.exit i) ⟨e, L, H⟩) : thenX P cfg dr y Q (.exit i) ⟨e, L, H⟩ := h
theorem b_bln {i : Nat} (h : Q .normal ⟨e, L, H⟩) : blkX i Q .normal ⟨e, L, H⟩ := h
theorem b_blr {i : Nat} (h : Q .ret ⟨e, L, H⟩) : blkX i Q .ret ⟨e, L, H⟩ := h
theorem b_ble {i : Nat} (h : Q .normal ⟨e, L, H⟩) : blkX i Q (.exit i) ⟨e, L, H⟩ := by simp [blkX]; exact h
theorem b_blo {i k : Nat} (hik : (k == i) = false) (h : Q (.exit k) ⟨e, L, H⟩) : blkX i Q (.exit k) ⟨e, L, H⟩ := by
  have : k ≠ i := by simpa using hik
  simp [blkX, this]; exact h
/-- a test, its value found -/
def condK (P : Program) (cfg : Cfg) (dr : Array Oper → (St → Prop) → St → Prop) (x y : Code) (Q : XE → St → Prop) (st : St) (v : EV) : Prop :=
  match v.asB with
  | some b => (b = true → Ex P cfg dr x Q st) ∧ (b = false → Ex P cfg dr y Q st)
  | none => False
theorem b_cond {c : Operand} {x y : Code} {v : EV} (hv : St.ev ⟨e, L, H⟩ c = v) (h : condK P cfg dr x y Q ⟨e, L, H⟩ v) : Ex P cfg dr (.cond c x y) Q ⟨e, L, H⟩ := by subst hv; exact h
theorem c_T {x y : Code} (h : Ex P cfg dr x Q ⟨e, L, H⟩) : condK P cfg dr x y Q ⟨e, L, H⟩ (.val (.bool true)) := ⟨fun _ => h, (fun h => Bool.noConfusion h)⟩
theorem c_F {x y : Code} (h : Ex P cfg dr y Q ⟨e, L, H⟩) : condK P cfg dr x y Q ⟨e, L, H⟩ (.val (.bool false)) := ⟨(fun h => Bool.noConfusion h), fun _ => h⟩
theorem c_P {x y : Code} {p : Prop} [Decidable p] (h1 : p → Ex P cfg dr x Q ⟨e, L, H⟩) (h2 : ¬ p → Ex P cfg dr y Q ⟨e, L, H⟩) : condK P cfg dr x y Q ⟨e, L, H⟩ (.val (.bool (decide p))) :=
  ⟨fun h => h1 (of_decide_eq_true h), fun h => h2 (of_decide_eq_false h)⟩
theorem c_B {x y : Code} {b : Bool} (h1 : b = true → Ex P cfg dr x Q ⟨e, L, H⟩) (h2 : b = false → Ex P cfg dr y Q ⟨e, L, H⟩) : condK P cfg dr x y Q ⟨e, L, H⟩ (.val (.bool b)) := ⟨h1, h2⟩
theorem b_nil (h : K ⟨e, L, H⟩) : exOps P cfg ops kn [] K ⟨e, L, H⟩ := h
theorem b_c0 (h : opX P cfg ⟨d, o, ty, pos, aft, none⟩ (exOps P cfg ops none rest K) ⟨e, L, H⟩) : exOps P cfg ops none (⟨d, o, ty, pos, aft, none⟩ :: rest) K ⟨e, L, H⟩ := h
theorem b_c1 (hj : (((ops[j]?).bind (·.dst)) == d) = false) (h : opX P cfg ⟨d, o, ty, pos, aft, none⟩ (exOps P cfg ops (some (j, b)) rest K) ⟨e, L, H⟩) :
    exOps P cfg ops (some (j, b)) (⟨d, o, ty, pos, aft, none⟩ :: rest) K ⟨e, L, H⟩ := by
  rw [ops_cons1, hj]; exact h
theorem upd_same {t : Nat} {v : EV} : ∀ {e : List (Nat × EV)}, lk e t = some v → upd t v e = e
  | [], h => by simp [lk] at h
  | (k, x) :: r, h => by
    simp only [lk] at h
    simp only [upd]
    split
    · rename_i hk; simp only [hk, if_true, Option.some.injEq] at h; rw [h]
    · rename_i hk; simp only [hk, if_false] at h; rw [upd_same h]
theorem ev_lk {t : Nat} {b : Bool} (h : St.ev ⟨e, L, H⟩ (.tmp t) = .val (.bool b)) : lk e t = some (.val (.bool b)) := by
  simp only [St.ev] at h
  cases hl : lk e t with
  | none => simp [hl] at h
  | some x => simp [hl] at h; rw [h]
/-- a guard, its slot found -/
def guardK (P : Program) (cfg : Cfg) (ops : Array Oper) (o : Oper) (j : Nat) (want : Bool) (t : Nat) (rest : List Oper) (K : St → Prop) (st : St) (v : EV) : Prop :=
  St.ev st (.tmp t) = v →
  match v.asB with
  | none => False
  | some b =>
    (b = want → opX P cfg o (exOps P cfg ops (some (j, want)) rest K) ⟨upd t (.val (.bool want)) st.env, st.L, st.H⟩) ∧
    (b = !want → exOps P cfg ops (some (j, !want)) rest K (St.put ⟨upd t (.val (.bool (!want))) st.env, st.L, st.H⟩ o.dst (.val (.tup []))))
theorem b_gT {t : Nat} (ht : (ops[j]?).bind (·.dst) = some t) (hd : (d == some t) = false) (h : opX P cfg ⟨d, o, ty, pos, aft, some (j, want)⟩ (exOps P cfg ops (some (j, want)) rest K) ⟨e, L, H⟩) :
    exOps P cfg ops (some (j, want)) (⟨d, o, ty, pos, aft, some (j, want)⟩ :: rest) K ⟨e, L, H⟩ := by
  have hd' : d ≠ some t := by simpa using hd
  rw [ops_guard, ht, skip_some]
  simp only [hd', if_false, if_true]; exact h
theorem b_gF {t : Nat} (ht : (ops[j]?).bind (·.dst) = some t) (hd : (dd == t) = false) (hb : b = !want) (h : exOps P cfg ops (some (j, b)) rest K ⟨(dd, .val (.tup [])) :: e, L, H⟩) :
    exOps P cfg ops (some (j, b)) (⟨some dd, o, ty, pos, aft, some (j, want)⟩ :: rest) K ⟨e, L, H⟩ := by
  have hd' : dd ≠ t := by simpa using hd
  subst hb
  rw [ops_guard, ht, skip_some]
  have h2 : ¬ (!want) = want := by cases want <;> simp
  simp only [Option.some.injEq, Prod.mk.injEq, hd', h2, and_false, if_false, if_true]; exact h
theorem guardK_X {t : Nat} {kn' : Option (Nat × Bool)} (h : guardK P cfg ops ⟨d, o, ty, pos, aft, gd⟩ j want t rest K ⟨e, L, H⟩ (St.ev ⟨e, L, H⟩ (.tmp t))) : guardX P cfg ops ⟨d, o, ty, pos, aft, gd⟩ j want t kn' rest K ⟨e, L, H⟩ ((St.ev ⟨e, L, H⟩ (.tmp t)).asB) := by
  have h' := h rfl
  unfold guardX
  cases hb : (St.ev ⟨e, L, H⟩ (.tmp t)).asB with
  | none => rw [hb] at h'; exact h'.elim
  | some b => rw [hb] at h'; exact h'
theorem b_g0 {t : Nat} {v : EV} (ht : (ops[j]?).bind (·.dst) = some t) (hd : (d == some t) = false) (hv : St.ev ⟨e, L, H⟩ (.tmp t) = v)
    (h : guardK P cfg ops ⟨d, o, ty, pos, aft, some (j, want)⟩ j want t rest K ⟨e, L, H⟩ v) :
    exOps P cfg ops none (⟨d, o, ty, pos, aft, some (j, want)⟩ :: rest) K ⟨e, L, H⟩ := by
  have hd' : d ≠ some t := by simpa using hd
  subst hv
  rw [ops_guard, ht, skip_some]
  simp only [hd', if_false, reduceCtorEq]
  exact guardK_X h
theorem b_g1 {t j' : Nat} {b' : Bool} {v : EV} (ht : (ops[j]?).bind (·.dst) = some t) (hd : (d == some t) = false) (hj : (j' == j) = false) (hv : St.ev ⟨e, L, H⟩ (.tmp t) = v)
    (h : guardK P cfg ops ⟨d, o, ty, pos, aft, some (j, want)⟩ j want t rest K ⟨e, L, H⟩ v) :
    exOps P cfg ops (some (j', b')) (⟨d, o, ty, pos, aft, some (j, want)⟩ :: rest) K ⟨e, L, H⟩ := by
  have hd' : d ≠ some t := by simpa using hd
  have hj' : j' ≠ j := by simpa using hj
  subst hv
  rw [ops_guard, ht, skip_some]
  simp only [hd', if_false, Option.some.injEq, Prod.mk.injEq, hj', false_and]
  exact guardK_X h
/-- the guard's own operation was passed over -/
theorem b_gU {t : Nat} (ht : (ops[j]?).bind (·.dst) = some t) (hd : (dd == t) = false) (hk : kn ≠ some (j, want) ∧ kn ≠ some (j, !want)) (hv : St.ev ⟨e, L, H⟩ (.tmp t) = .val (.tup [])) (hn : kn.any (fun p => ((ops[p.1]?).bind (·.dst)) == some dd) = false)
    (h : exOps P cfg ops kn rest K ⟨(dd, .val (.tup [])) :: e, L, H⟩) : exOps P cfg ops kn (⟨some dd, o, ty, pos, aft, some (j, want)⟩ :: rest) K ⟨e, L, H⟩ := by
  have hd' : dd ≠ t := by simpa using hd
  rw [ops_guard, ht, skip_some]
  simp only [Option.some.injEq, hd', if_false, hk.1, hk.2, hv, EV.asB, guardX, EV.isU, if_true, hn, Bool.false_eq_true]
  exact h
theorem g_TT {t : Nat} (h : opX P cfg ⟨d, o, ty, pos, aft, gd⟩ (exOps P cfg ops (some (j, true)) rest K) ⟨e, L, H⟩) : guardK P cfg ops ⟨d, o, ty, pos, aft, gd⟩ j true t rest K ⟨e, L, H⟩ (.val (.bool true)) :=
  fun hv => ⟨fun _ => by rw [upd_same (ev_lk hv)]; exact h, (fun h => Bool.noConfusion h)⟩
theorem g_FF {t : Nat} (h : opX P cfg ⟨d, o, ty, pos, aft, gd⟩ (exOps P cfg ops (some (j, false)) rest K) ⟨e, L, H⟩) : guardK P cfg ops ⟨d, o, ty, pos, aft, gd⟩ j false t rest K ⟨e, L, H⟩ (.val (.bool false)) :=
  fun hv => ⟨fun _ => by rw [upd_same (ev_lk hv)]; exact h, (fun h => Bool.noConfusion h)⟩
theorem g_TF {t : Nat} (h : exOps P cfg ops (some (j, true)) rest K ⟨(dd, .val (.tup [])) :: e, L, H⟩) : guardK P cfg ops ⟨some dd, o, ty, pos, aft, gd⟩ j false t rest K ⟨e, L, H⟩ (.val (.bool true)) :=
  fun hv => ⟨(fun h => Bool.noConfusion h), fun _ => by simp only [Bool.not_false]; rw [upd_same (ev_lk hv)]; exact h⟩
theorem g_FT {t : Nat} (h : exOps P cfg ops (some (j, false)) rest K ⟨(dd, .val (.tup [])) :: e, L, H⟩) : guardK P cfg ops ⟨some dd, o, ty, pos, aft, gd⟩ j true t rest K ⟨e, L, H⟩ (.val (.bool false)) :=
  fun hv => ⟨(fun h => Bool.noConfusion h), fun _ => by simp only [Bool.not_true]; rw [upd_same (ev_lk hv)]; exact h⟩
theorem g_PT {t : Nat} {p : Prop} [Decidable p] (h1 : p → opX P cfg ⟨some dd, o, ty, pos, aft, gd⟩ (exOps P cfg ops (some (j, true)) rest K) ⟨upd t (.val (.bool true)) e, L, H⟩)
    (h2 : ¬ p → exOps P cfg ops (some (j, false)) rest K ⟨(dd, .val (.tup [])) :: upd t (.val (.bool false)) e, L, H⟩) :
    guardK P cfg ops ⟨some dd, o, ty, pos, aft, gd⟩ j true t rest K ⟨e, L, H⟩ (.val (.bool (decide p))) :=
  fun _ => ⟨fun h => h1 (of_decide_eq_true h), fun h => h2 (of_decide_eq_false h)⟩
theorem g_PF {t : Nat} {p : Prop} [Decidable p] (h1 : ¬ p → opX P cfg ⟨some dd, o, ty, pos, aft, gd⟩ (exOps P cfg ops (some (j, false)) rest K) ⟨upd t (.val (.bool false)) e, L, H⟩)
    (h2 : p → exOps P cfg ops (some (j, true)) rest K ⟨(dd, .val (.tup [])) :: upd t (.val (.bool true)) e, L, H⟩) :
    guardK P cfg ops ⟨some dd, o, ty, pos, aft, gd⟩ j false t rest K ⟨e, L, H⟩ (.val (.bool (decide p))) :=
  fun _ => ⟨fun h => h1 (of_decide_eq_false h), fun h => h2 (of_decide_eq_true h)⟩
theorem g_BT {t : Nat} {b : Bool} (h1 : b = true → opX P cfg ⟨some dd, o, ty, pos, aft, gd⟩ (exOps P cfg ops (some (j, true)) rest K) ⟨upd t (.val (.bool true)) e, L, H⟩)
    (h2 : b = false → exOps P cfg ops (some (j, false)) rest K ⟨(dd, .val (.tup [])) :: upd t (.val (.bool false)) e, L, H⟩) :
    guardK P cfg ops ⟨some dd, o, ty, pos, aft, gd⟩ j true t rest K ⟨e, L, H⟩ (.val (.bool b)) := fun _ => ⟨h1, h2⟩
theorem g_BF {t : Nat} {b : Bool} (h1 : b = false → opX P cfg ⟨some dd, o, ty, pos, aft, gd⟩ (exOps P cfg ops (some (j, false)) rest K) ⟨upd t (.val (.bool false)) e, L, H⟩)
    (h2 : b = true → exOps P cfg ops (some (j, true)) rest K ⟨(dd, .val (.tup [])) :: upd t (.val (.bool true)) e, L, H⟩) :
    guardK P cfg ops ⟨some dd, o, ty, pos, aft, gd⟩ j false t rest K ⟨e, L, H⟩ (.val (.bool b)) := fun _ => ⟨h1, h2⟩

/-! operations -/
theorem b_move {x : Operand} {v : EV} (hv : St.ev ⟨e, L, H⟩ x = v) (h : K ⟨(dd, v) :: e, L, H⟩) : opX P cfg ⟨some dd, .move x, ty, pos, aft, gd⟩ K ⟨e, L, H⟩ := by
  subst hv; rw [op_move]; exact h
theorem b_assign {x : Operand} {v : EV} (hv : St.ev ⟨e, L, H⟩ x = v) (h : K ⟨(dd, v) :: e, L, H⟩) : opX P cfg ⟨some dd, .assign x, ty, pos, aft, gd⟩ K ⟨e, L, H⟩ := by
  subst hv; rw [op_assign]; exact h
/-- a value, found; what it asks is asked -/
def valK (dd : Nat) (K : St → Prop) (st : St) (r : Option (Prop × AV)) : Prop :=
  match r with
  | some (c, v) => c ∧ K ⟨(dd, .val v) :: st.env, st.L, st.H⟩
  | none => False
theorem b_bin {op : BinOp} {t t' : TypeId} {x y : Operand} {vx vy : EV} (hx : St.ev ⟨e, L, H⟩ x = vx) (hy : St.ev ⟨e, L, H⟩ y = vy) {r : Option (Prop × AV)} (hr : binV P op t vx vy = r) (h : valK dd K ⟨e, L, H⟩ r) :
    opX P cfg ⟨some dd, .binOp op t x y t', ty, pos, aft, gd⟩ K ⟨e, L, H⟩ := by
  subst hr hx hy; rw [op_bin]
  cases hb : binV P op t (St.ev ⟨e, L, H⟩ x) (St.ev ⟨e, L, H⟩ y) with
  | none => rw [hb] at h; exact h.elim
  | some p => obtain ⟨c, v⟩ := p; rw [hb] at h; exact h
/-- two pointers, are they one? -/
theorem b_ptr {t t' : TypeId} [pt : PtI P t] {x y : Operand} {s s' : AV} {a a' : Nat} (hx : St.ev ⟨e, L, H⟩ x = .val (.eptr s a)) (hy : St.ev ⟨e, L, H⟩ y = .val (.eptr s' a')) {r : Bool} (hr : ptrEq H s a s' a' = some r) (h : K ⟨(dd, .val (.bool r)) :: e, L, H⟩) :
    opX P cfg ⟨some dd, .binOp .eql t x y t', ty, pos, aft, gd⟩ K ⟨e, L, H⟩ := by
  rw [op_bin, hx, hy]
  have : binV P .eql t (.val (.eptr s a)) (.val (.eptr s' a')) = none := by simp [binV, AV.asF, othV, nilEq]
  rw [this]
  simp only [ptrV, pt.h, if_true, hr, Option.map_some, pureK]
  exact ⟨trivial, h⟩
theorem b_un {op : UnOp} {t : TypeId} {x : Operand} {vx : EV} (hx : St.ev ⟨e, L, H⟩ x = vx) {r : Option (Prop × AV)} (hr : unV op vx = r) (h : valK dd K ⟨e, L, H⟩ r) :
    opX P cfg ⟨some dd, .unOp op t x, ty, pos, aft, gd⟩ K ⟨e, L, H⟩ := by
  subst hr hx; rw [op_un]
  cases hb : unV op (St.ev ⟨e, L, H⟩ x) with
  | none => rw [hb] at h; exact h
  | some p => obtain ⟨c, v⟩ := p; rw [hb] at h; exact h
/-! what a value comes to, where arithmetic knows it; a sum that does not wrap -/
theorem v_w {n : Int} (hw : -9223372036854775808 ≤ n ∧ n ≤ 9223372036854775807) (h : K ⟨(dd, .val (.int .i64 n)) :: e, L, H⟩) : valK dd K ⟨e, L, H⟩ (some (True, .int .i64 (IntKind.i64.wrap n))) := by
  rw [IntWalk.i64_in n hw]; exact ⟨trivial, h⟩
theorem v_T {p : Prop} [Decidable p] (hp : p) (h : K ⟨(dd, .val (.bool true)) :: e, L, H⟩) : valK dd K ⟨e, L, H⟩ (some (True, .bool (decide p))) := by
  rw [decide_eq_true hp]; exact ⟨trivial, h⟩
theorem v_F {p : Prop} [Decidable p] (hp : ¬ p) (h : K ⟨(dd, .val (.bool false)) :: e, L, H⟩) : valK dd K ⟨e, L, H⟩ (some (True, .bool (decide p))) := by
  rw [decide_eq_false hp]; exact ⟨trivial, h⟩
theorem v_eq {x y : Int} (h : valK dd K ⟨e, L, H⟩ (some (True, .bool (decide (x = y))))) : valK dd K ⟨e, L, H⟩ (some (True, .bool (x == y))) := h
theorem v_ne {x y : Int} (h : valK dd K ⟨e, L, H⟩ (some (True, .bool (decide (x ≠ y))))) : valK dd K ⟨e, L, H⟩ (some (True, .bool (x != y))) := by
  have : (x != y) = decide (x ≠ y) := by simp only [bne, ne_eq, decide_not]; rfl
  rw [this]; exact h
theorem v_nT (h : K ⟨(dd, .val (.bool false)) :: e, L, H⟩) : valK dd K ⟨e, L, H⟩ (some (True, .bool (!true))) := ⟨trivial, h⟩
theorem v_nF (h : K ⟨(dd, .val (.bool true)) :: e, L, H⟩) : valK dd K ⟨e, L, H⟩ (some (True, .bool (!false))) := ⟨trivial, h⟩
theorem v_nP {p : Prop} [Decidable p] (h : K ⟨(dd, .val (.bool (decide (¬ p)))) :: e, L, H⟩) : valK dd K ⟨e, L, H⟩ (some (True, .bool (!(decide p)))) := by
  rw [← decide_not]; exact ⟨trivial, h⟩
theorem v_k {v : AV} (h : K ⟨(dd, .val v) :: e, L, H⟩) : valK dd K ⟨e, L, H⟩ (some (True, v)) := ⟨trivial, h⟩
theorem v_c {c : Prop} {v : AV} (hc : c) (h : valK dd K ⟨e, L, H⟩ (some (True, v))) : valK dd K ⟨e, L, H⟩ (some (c, v)) := ⟨hc, h.2⟩

def pickK (dd : Nat) (K : St → Prop) (y z : Operand) (st : St) (v : EV) : Prop :=
  match v.asB with
  | some b => K ⟨(dd, if b then St.ev st y else St.ev st z) :: st.env, st.L, st.H⟩
  | none => False
theorem b_pick {x y z : Operand} {v : EV} (hv : St.ev ⟨e, L, H⟩ x = v) (h : pickK dd K y z ⟨e, L, H⟩ v) : opX P cfg ⟨some dd, .pick x y z, ty, pos, aft, gd⟩ K ⟨e, L, H⟩ := by
  subst hv
  rw [op_pick]
  unfold pickK at h
  cases hb : (St.ev ⟨e, L, H⟩ x).asB with
  | none => rw [hb] at h; exact h
  | some b => rw [hb] at h; exact ⟨trivial, h⟩
theorem p_T {y z : Operand} {v : EV} (hv : St.ev ⟨e, L, H⟩ y = v) (h : K ⟨(dd, v) :: e, L, H⟩) : pickK dd K y z ⟨e, L, H⟩ (.val (.bool true)) := by subst hv; exact h
theorem p_F {y z : Operand} {v : EV} (hv : St.ev ⟨e, L, H⟩ z = v) (h : K ⟨(dd, v) :: e, L, H⟩) : pickK dd K y z ⟨e, L, H⟩ (.val (.bool false)) := by subst hv; exact h

/-- a load, its address found -/
def loadK (P : Program) (t : TypeId) (dd : Nat) (K : St → Prop) (st : St) (v : EV) : Prop :=
  match v with
  | .loc key off => ∃ cs n l v', lk st.L key = some cs ∧ tsz P t = some n ∧ gc cs off n = some l ∧ ldv P t l = some v' ∧ K ⟨(dd, .val v') :: st.env, st.L, st.H⟩
  | .val (.eptr s off) => ∃ n l v', tsz P t = some n ∧ sread st.H s off n = some l ∧ ldv P t l = some v' ∧ K ⟨(dd, .val v') :: st.env, st.L, st.H⟩
  | _ => False
theorem b_load {t : TypeId} {x : Operand} {v : EV} (hv : St.ev ⟨e, L, H⟩ x = v) (h : loadK P t dd K ⟨e, L, H⟩ v) : opX P cfg ⟨some dd, .load t x, ty, pos, aft, gd⟩ K ⟨e, L, H⟩ := by
  subst hv
  rw [op_pure P cfg e L H K _ _ _ _ _ _ rfl]
  simp only [pureV]
  unfold loadK at h
  split at h
  · rename_i key off he
    obtain ⟨cs, n, l, v', h1, h2, h3, h4, hk⟩ := h
    rw [he]; simp only at h1 ⊢
    rw [h1, h2]; simp only [Option.bind_some, h3, h4, Option.map_some]
    exact ⟨trivial, hk⟩
  · rename_i s off he
    obtain ⟨n, l, v', h2, h3, h4, hk⟩ := h
    rw [he]; simp only at h3 ⊢
    rw [h2]; simp only [Option.bind_some, h3, h4, Option.map_some]
    exact ⟨trivial, hk⟩
  · exact h.elim
theorem l_loc1 {t : TypeId} {key off : Nat} {cs : List AV} {c : AV} [i : TyI P t 1 false] (h1 : lk L key = some cs) (h2 : cs[off]? = some c) (hk : K ⟨(dd, .val c) :: e, L, H⟩) : loadK P t dd K ⟨e, L, H⟩ (.loc key off) :=
  ⟨cs, 1, [c], c, h1, i.sz, by simp [gc, h2], by simp [ldv, i.kind], hk⟩
theorem l_locA {t : TypeId} {key off n : Nat} {cs l : List AV} [i : TyI P t n true] (h1 : lk L key = some cs) (h2 : gc cs off n = some l) (hk : K ⟨(dd, .val (.agg l)) :: e, L, H⟩) : loadK P t dd K ⟨e, L, H⟩ (.loc key off) :=
  ⟨cs, n, l, .agg l, h1, i.sz, h2, by simp [ldv, i.kind], hk⟩
theorem l_ptr1 {t : TypeId} {s : AV} {off : Nat} {c : AV} [i : TyI P t 1 false] (h2 : sread H s off 1 = some [c]) (hk : K ⟨(dd, .val c) :: e, L, H⟩) : loadK P t dd K ⟨e, L, H⟩ (.val (.eptr s off)) :=
  ⟨1, [c], c, i.sz, h2, by simp [ldv, i.kind], hk⟩
theorem l_ptrA {t : TypeId} {s : AV} {off n : Nat} {l : List AV} [i : TyI P t n true] (h2 : sread H s off n = some l) (hk : K ⟨(dd, .val (.agg l)) :: e, L, H⟩) : loadK P t dd K ⟨e, L, H⟩ (.val (.eptr s off)) :=
  ⟨n, l, .agg l, i.sz, h2, by simp [ldv, i.kind], hk⟩

/-- an address within an address -/
def faK (dd : Nat) (K : St → Prop) (o : Nat) (st : St) (v : EV) : Prop :=
  match v with
  | .loc key off => K ⟨(dd, .loc key (off + o)) :: st.env, st.L, st.H⟩
  | .val (.eptr s off) => K ⟨(dd, .val (.eptr s (off + o))) :: st.env, st.L, st.H⟩
  | _ => False
theorem b_fa {t : TypeId} {x : Operand} {i off : Nat} {ft : TypeId} [fi : FldI P t i off ft] {v : EV} (hv : St.ev ⟨e, L, H⟩ x = v) (h : faK dd K off ⟨e, L, H⟩ v) : opX P cfg ⟨some dd, .fieldAddr t x i, ty, pos, aft, gd⟩ K ⟨e, L, H⟩ := by
  subst hv
  rw [op_pure P cfg e L H K _ _ _ _ _ _ rfl]
  simp only [pureV, fi.h, Option.bind_some, fi.pos, if_true]
  unfold faK at h
  split at h
  · rename_i key off he; rw [he]; exact ⟨trivial, h⟩
  · rename_i s off he; rw [he]; exact ⟨trivial, h⟩
  · exact h.elim
theorem f_loc {key off o m : Nat} (hm : off + o = m) (h : K ⟨(dd, .loc key m) :: e, L, H⟩) : faK dd K o ⟨e, L, H⟩ (.loc key off) := by subst hm; exact h
theorem f_ptr {s : AV} {off o m : Nat} (hm : off + o = m) (h : K ⟨(dd, .val (.eptr s m)) :: e, L, H⟩) : faK dd K o ⟨e, L, H⟩ (.val (.eptr s off)) := by subst hm; exact h

theorem b_ia {t el : TypeId} {x y : Operand} {z : Nat} [si : SlI P t el z] {s : AV} {k : IntKind} {n : Int} {len i : Nat} (hx : St.ev ⟨e, L, H⟩ x = .val s) (hy : St.ev ⟨e, L, H⟩ y = .val (.int k n)) (hl : slen s = some len) (hn : n = (i : Int)) (hi : i < len)
    (h : K ⟨(dd, .val (.eptr s (i * z))) :: e, L, H⟩) : opX P cfg ⟨some dd, .indexAddr t x y, ty, pos, aft, gd⟩ K ⟨e, L, H⟩ := by
  subst hn
  rw [op_pure P cfg e L H K _ _ _ _ _ _ rfl]
  simp only [pureV, si.h, hx, hy, tailI, hl, Option.bind_some, si.z, Option.map_some, Int.toNat_natCast]
  exact ⟨by omega, h⟩

theorem b_box {t : TypeId} {x : Operand} {vx : EV} (hx : St.ev ⟨e, L, H⟩ x = vx) {r : Option (List AV)} (hr : vx.asV.bind AV.cells = r) {cs : List AV} (hcs : r = some cs) (hesc : cfg.esc = false) (hn : noLoc dd e = true)
    (h : K ⟨(dd, .loc dd 0) :: e, (dd, cs) :: L, H⟩) : opX P cfg ⟨some dd, .box t x, ty, pos, aft, gd⟩ K ⟨e, L, H⟩ := by
  subst hcs hx; simp only [opX, opE, hr, newX, hesc, Bool.false_eq_true, if_false]; exact ⟨.inl hn, h⟩
theorem b_alloc {t : TypeId} {cs : List AV} [z : ZI P t cs] (hesc : cfg.esc = false) (hn : noLoc dd e = true)
    (h : K ⟨(dd, .loc dd 0) :: e, (dd, cs) :: L, H⟩) : opX P cfg ⟨some dd, .alloc t, ty, pos, aft, gd⟩ K ⟨e, L, H⟩ := by
  simp only [opX, opE, z.h, newX, hesc, Bool.false_eq_true, if_false]; exact ⟨.inl hn, h⟩
theorem b_len {x : Operand} {ts : Array TypeId} {t : TypeId} {el z : Nat} [si : SlI P t el z] (hts : ts[0]? = some t) {s : AV} {n : Nat} (hx : St.ev ⟨e, L, H⟩ x = .val s) (hs : slen s = some n) (h : K ⟨(dd, .val (.int .i64 n)) :: e, L, H⟩) :
    opX P cfg ⟨some dd, .call { callee := .builtin .len, args := #[x], argTypes := ts }, ty, pos, aft, gd⟩ K ⟨e, L, H⟩ := by
  rw [op_pure P cfg e L H K _ _ _ _ _ _ rfl]
  have hu := telem_eq si.h
  simp only [pureV, hts, Option.bind_some, hu, hx, EV.asV, hs, Option.map_some]
  exact ⟨trivial, h⟩
theorem b_call {id : Nat} {args : Array Operand} {ts : Array TypeId} {ra : Option (List AV)} (ha : argsX (St.ev ⟨e, L, H⟩) args.toList = ra) {vs : List AV} (hvs : ra = some vs) {r : AV} {H' : List (List AV)}
    (hs : CSpec P id vs H r H') (ho : OldOk cfg.n0 H H') (h : K ⟨(dd, .val r) :: e, L, H'⟩) :
    opX P cfg ⟨some dd, .call { callee := .value (.func id), args := args, argTypes := ts }, ty, pos, aft, gd⟩ K ⟨e, L, H⟩ := by
  subst hvs; simp only [opX, opE, ev_func, ha]; exact ⟨r, H', by simpa using hs, ho, h⟩

/-! the end -/
theorem b_ret1 {fn : Func} {H₀ H' : List (List AV)} {r v : AV} {t : Nat} {x : XE} (hx : x = .ret ∨ x = .normal) (hf : fn.results = #[.tmp t]) (hv : St.ev ⟨e, L, H⟩ (.tmp t) = .val v) (hH : H = H') (hH0 : H' = H₀) (hm : mx v ≤ H₀.length) (hr : v = r) :
    RetQ P fn H₀ r H' x ⟨e, L, H⟩ := by
  subst hH hH0 hr
  refine ⟨by rcases hx with rfl | rfl <;> trivial, [v], [], ?_, List.nodup_nil, by simp, by simp [frH], Fr.old hm⟩
  simp [hf, resV, hv, EV.asV]
end
end Go.Sx
