/- A part of the proofs of this seat: SxJ. No condition is set. -/
import Derived.Test.YtchhjighipjnnaaSxI
set_option linter.unusedVariables false
set_option linter.unusedSimpArgs false
namespace Go.Sx
section
variable (P : Program) (cfg : Cfg) (dr : Array Oper → (St → Prop) → St → Prop) (e : List (Nat × EV)) (L : List (Nat × List AV)) (H : List (List AV)) (Q : XE → St → Prop) (K : St → Prop)

/-! ### the rules by which a body is evaluated: each fires at a state that is written out -/
theorem ex_skip : Ex P cfg dr .skip Q ⟨e, L, H⟩ = Q .normal ⟨e, L, H⟩ := rfl
theorem ex_ret : Ex P cfg dr .ret Q ⟨e, L, H⟩ = Q .ret ⟨e, L, H⟩ := rfl
theorem ex_exit (i : Nat) : Ex P cfg dr (.exit i) Q ⟨e, L, H⟩ = Q (.exit i) ⟨e, L, H⟩ := rfl
def thenX (P : Program) (cfg : Cfg) (dr : Array Oper → (St → Prop) → St → Prop) (y : Code) (Q : XE → St → Prop) : XE → St → Prop := fun e s => match e with | .normal => Ex P cfg dr y Q s | e => Q e s
def blkX (id : Nat) (Q : XE → St → Prop) : XE → St → Prop := fun e s => match e with | .exit i => if i = id then Q .normal s else Q (.exit i) s | e => Q e s
theorem ex_seq (x y : Code) : Ex P cfg dr (.seq x y) Q ⟨e, L, H⟩ = Ex P cfg dr x (thenX P cfg dr y Q) ⟨e, L, H⟩ := rfl
theorem ex_block (id : Nat) (c : Code) : Ex P cfg dr (.block id c) Q ⟨e, L, H⟩ = Ex P cfg dr c (blkX id Q) ⟨e, L, H⟩ := rfl
theorem ex_cond (c : Operand) (x y : Code) : Ex P cfg dr (.cond c x y) Q ⟨e, L, H⟩ =
    match (St.ev ⟨e, L, H⟩ c).asB with
    | some b => (b = true → Ex P cfg dr x Q ⟨e, L, H⟩) ∧ (b = false → Ex P cfg dr y Q ⟨e, L, H⟩)
    | none => False := rfl
theorem ex_region (id : Nat) (ops : List Oper) : Ex P cfg dr (.region id ops.toArray false) Q ⟨e, L, H⟩ = exOps P cfg ops.toArray none ops (Q .normal) ⟨e, L, H⟩ := rfl
theorem ex_draw (id : Nat) (ops : Array Oper) : Ex P cfg dr (.region id ops true) Q ⟨e, L, H⟩ = dr ops (Q .normal) ⟨e, L, H⟩ := rfl
theorem then_normal (y : Code) : thenX P cfg dr y Q .normal ⟨e, L, H⟩ = Ex P cfg dr y Q ⟨e, L, H⟩ := rfl
theorem then_exit (y : Code) (i : Nat) : thenX P cfg dr y Q (.exit i) ⟨e, L, H⟩ = Q (.exit i) ⟨e, L, H⟩ := rfl
theorem then_ret (y : Code) : thenX P cfg dr y Q .ret ⟨e, L, H⟩ = Q .ret ⟨e, L, H⟩ := rfl
theorem blk_normal (i : Nat) : blkX i Q .normal ⟨e, L, H⟩ = Q .normal ⟨e, L, H⟩ := rfl
theorem blk_exit (i j : Nat) : blkX i Q (.exit j) ⟨e, L, H⟩ = if j = i then Q .normal ⟨e, L, H⟩ else Q (.exit j) ⟨e, L, H⟩ := rfl
theorem blk_ret (i : Nat) : blkX i Q .ret ⟨e, L, H⟩ = Q .ret ⟨e, L, H⟩ := rfl
variable (kn : Option (Nat × Bool))
theorem ops_nil (ops : Array Oper) : exOps P cfg ops kn [] K ⟨e, L, H⟩ = K ⟨e, L, H⟩ := rfl
theorem ops_cons0 (ops : Array Oper) (d : Option Tmp) (o : Op) (ty : TypeId) (pos : String) (aft : Array Edge) (rest : List Oper) :
    exOps P cfg ops none ({ dst := d, op := o, type := ty, pos := pos, after := aft, guard := none } :: rest) K ⟨e, L, H⟩ =
      opX P cfg { dst := d, op := o, type := ty, pos := pos, after := aft, guard := none } (exOps P cfg ops none rest K) ⟨e, L, H⟩ := rfl
theorem ops_cons1 (ops : Array Oper) (d : Option Tmp) (o : Op) (ty : TypeId) (pos : String) (aft : Array Edge) (j : Nat) (b : Bool) (rest : List Oper) :
    exOps P cfg ops (some (j, b)) ({ dst := d, op := o, type := ty, pos := pos, after := aft, guard := none } :: rest) K ⟨e, L, H⟩ =
      opX P cfg { dst := d, op := o, type := ty, pos := pos, after := aft, guard := none } (exOps P cfg ops (if ((ops[j]?).bind (·.dst)) == d then none else some (j, b)) rest K) ⟨e, L, H⟩ := rfl
/-- how a guard is met -/
def guardX (P : Program) (cfg : Cfg) (ops : Array Oper) (o : Oper) (j : Nat) (want : Bool) (t : Nat) (kn : Option (Nat × Bool)) (rest : List Oper) (K : St → Prop) (st : St) : Option Bool → Prop
  | none => if (st.ev (.tmp t)).isU then exOps P cfg ops (if kn.any (fun p => ((ops[p.1]?).bind (·.dst)) == o.dst) then none else kn) rest K (st.put o.dst (.val (.tup []))) else False
  | some b =>
    (b = want → opX P cfg o (exOps P cfg ops (some (j, want)) rest K) ⟨upd t (.val (.bool want)) st.env, st.L, st.H⟩) ∧
    (b = !want → exOps P cfg ops (some (j, !want)) rest K (St.put ⟨upd t (.val (.bool (!want))) st.env, st.L, st.H⟩ o.dst (.val (.tup []))))
def skipX (P : Program) (cfg : Cfg) (ops : Array Oper) (o : Oper) (j : Nat) (want : Bool) (kn : Option (Nat × Bool)) (rest : List Oper) (K : St → Prop) (st : St) : Option Nat → Prop
  | none => False
  | some t =>
    if o.dst = some t then False else
    if kn = some (j, want) then opX P cfg o (exOps P cfg ops kn rest K) st else
    if kn = some (j, !want) then exOps P cfg ops kn rest K (st.put o.dst (.val (.tup []))) else
    guardX P cfg ops o j want t kn rest K st ((st.ev (.tmp t)).asB)
theorem ops_guard (ops : Array Oper) (d : Option Tmp) (o : Op) (ty : TypeId) (pos : String) (aft : Array Edge) (j : Nat) (want : Bool) (rest : List Oper) :
    exOps P cfg ops kn ({ dst := d, op := o, type := ty, pos := pos, after := aft, guard := some (j, want) } :: rest) K ⟨e, L, H⟩ =
      skipX P cfg ops { dst := d, op := o, type := ty, pos := pos, after := aft, guard := some (j, want) } j want kn rest K ⟨e, L, H⟩ ((ops[j]?).bind (·.dst)) := by
  simp only [exOps, skipX, guardX]
  cases (ops[j]?).bind (·.dst) with
  | none => rfl
  | some t => cases (St.ev ⟨e, L, H⟩ (.tmp t)).asB <;> rfl
theorem skip_some (ops : Array Oper) (o : Oper) (j : Nat) (want : Bool) (rest : List Oper) (t : Nat) :
    skipX P cfg ops o j want kn rest K ⟨e, L, H⟩ (some t) = (if o.dst = some t then False else
    if kn = some (j, want) then opX P cfg o (exOps P cfg ops kn rest K) ⟨e, L, H⟩ else
    if kn = some (j, !want) then exOps P cfg ops kn rest K (St.put ⟨e, L, H⟩ o.dst (.val (.tup []))) else
    guardX P cfg ops o j want t kn rest K ⟨e, L, H⟩ ((St.ev ⟨e, L, H⟩ (.tmp t)).asB)) := rfl
theorem guard_some (ops : Array Oper) (o : Oper) (j : Nat) (want : Bool) (rest : List Oper) (t : Nat) (b : Bool) :
    guardX P cfg ops o j want t kn rest K ⟨e, L, H⟩ (some b) =
    ((b = want → opX P cfg o (exOps P cfg ops (some (j, want)) rest K) ⟨upd t (.val (.bool want)) e, L, H⟩) ∧
    (b = !want → exOps P cfg ops (some (j, !want)) rest K (St.put ⟨upd t (.val (.bool (!want))) e, L, H⟩ o.dst (.val (.tup []))))) := rfl
theorem upd_nil (t : Nat) (v : EV) : upd t v [] = [] := rfl
theorem upd_hit (t : Nat) (v x : EV) (r : List (Nat × EV)) : upd t v ((t, x) :: r) = (t, v) :: r := by simp [upd]
theorem upd_miss {k t : Nat} (h : (k == t) = false) (v x : EV) (r : List (Nat × EV)) : upd t v ((k, x) :: r) = (k, x) :: upd t v r := by
  have : k ≠ t := by simpa using h
  simp [upd, this]

theorem put_some (d : Nat) (v : EV) : St.put ⟨e, L, H⟩ (some d) v = ⟨(d, v) :: e, L, H⟩ := rfl
theorem put_none (v : EV) : St.put ⟨e, L, H⟩ none v = ⟨e, L, H⟩ := rfl
theorem ev_tmp (t : Nat) : St.ev ⟨e, L, H⟩ (.tmp t) = (lk e t).getD (.val .junk) := rfl
theorem ev_const (v : Value) : St.ev ⟨e, L, H⟩ (.const v) = .val (aOf v) := rfl
theorem ev_func (f : Nat) : St.ev ⟨e, L, H⟩ (.func f) = .val (.func f [] []) := rfl
theorem lk_hit {α : Type} (k : Nat) (v : α) (r : List (Nat × α)) : lk ((k, v) :: r) k = some v := by simp [lk]
theorem lk_miss {α : Type} {k t : Nat} (h : (k == t) = false) (v : α) (r : List (Nat × α)) : lk ((k, v) :: r) t = lk r t := by
  have : k ≠ t := by simpa using h
  simp [lk, this]
theorem aOf_bool (b : Bool) : aOf (.bool b) = .bool b := rfl
theorem aOf_int (k : IntKind) (n : Int) : aOf (.int k n) = .int k n := rfl
theorem aOf_nil : aOf (.slice none 0 0) = .slnil := rfl
theorem aOf_str (s : ByteArray) : aOf (.string s) = .str s := rfl

/-! operations, one by one -/
variable (d : Option Tmp) (ty : TypeId) (pos : String) (aft : Array Edge) (gd : Option (Nat × Bool))
/-- what a value that turns nothing leads to -/
def pureK (p : Option (Prop × EV)) (st : St) (d : Option Tmp) (K : St → Prop) : Prop :=
  match p with
  | some (c, v) => c ∧ K (st.put d v)
  | none => False
theorem pureK_some (c : Prop) (v : EV) : pureK (some (c, v)) ⟨e, L, H⟩ d K = (c ∧ K (St.put ⟨e, L, H⟩ d v)) := rfl
theorem app_val (v : EV) : St.app ⟨e, L, H⟩ d ⟨some v, none, H⟩ = St.put ⟨e, L, H⟩ d v := by cases d <;> rfl

theorem op_move (x : Operand) : opX P cfg ⟨d, .move x, ty, pos, aft, gd⟩ K ⟨e, L, H⟩ = K (St.put ⟨e, L, H⟩ d (St.ev ⟨e, L, H⟩ x)) := by
  simp [opX, opE, pureV, app_val]
theorem op_assign (x : Operand) : opX P cfg ⟨d, .assign x, ty, pos, aft, gd⟩ K ⟨e, L, H⟩ = K (St.put ⟨e, L, H⟩ d (St.ev ⟨e, L, H⟩ x)) := by
  simp [opX, opE, pureV, app_val]
theorem op_pick (c x y : Operand) : opX P cfg ⟨d, .pick c x y, ty, pos, aft, gd⟩ K ⟨e, L, H⟩ =
    pureK (((St.ev ⟨e, L, H⟩ c).asB).map fun b0 => (True, if b0 then St.ev ⟨e, L, H⟩ x else St.ev ⟨e, L, H⟩ y)) ⟨e, L, H⟩ d K := by
  simp only [opX, opE, pureV, pureK, app_val]; rfl
theorem op_bin (op : BinOp) (t t' : TypeId) (x y : Operand) : opX P cfg ⟨d, .binOp op t x y t', ty, pos, aft, gd⟩ K ⟨e, L, H⟩ =
    pureK (match binV P op t (St.ev ⟨e, L, H⟩ x) (St.ev ⟨e, L, H⟩ y) with
      | some (c, v) => some (c, .val v)
      | none => (ptrV P H op t (St.ev ⟨e, L, H⟩ x) (St.ev ⟨e, L, H⟩ y)).map fun v => (True, .val v)) ⟨e, L, H⟩ d K := by
  simp only [opX, opE, pureV, pureK, app_val]; rfl
theorem op_un (op : UnOp) (t : TypeId) (x : Operand) : opX P cfg ⟨d, .unOp op t x, ty, pos, aft, gd⟩ K ⟨e, L, H⟩ =
    pureK ((unV op (St.ev ⟨e, L, H⟩ x)).map fun (c, v) => (c, .val v)) ⟨e, L, H⟩ d K := by
  simp only [opX, opE, pureV, pureK, app_val]; rfl
/-- any other that turns nothing -/
def isPure : Op → Bool
  | .load .. | .nilCheck _ | .convert .. | .fieldAddr .. | .field .. | .indexAddr .. | .extract .. | .build .. | .makeFunc .. | .slice .. | .index .. => true
  | .call { callee := .builtin .len, .. } | .call { callee := .builtin .min, .. } | .call { callee := .builtin .max, .. } => true
  | _ => false
theorem op_pure (o : Op) (h : isPure o = true) : opX P cfg ⟨d, o, ty, pos, aft, gd⟩ K ⟨e, L, H⟩ = pureK (pureV P (St.ev ⟨e, L, H⟩) (lk L) H o) ⟨e, L, H⟩ d K := by
  simp only [opX, opE]
  split <;> first | (simp [isPure] at h; done) | (simp only [pureK, app_val]; rfl)

theorem op_effect (o : Op) (h : isPure o = false) : opX P cfg ⟨d, o, ty, pos, aft, gd⟩ K ⟨e, L, H⟩ =
    opE P cfg (St.ev ⟨e, L, H⟩) (fun d => noLoc d e = true ∨ NoLoc (St.ev ⟨e, L, H⟩) d) (lk L) H ⟨d, o, ty, pos, aft, gd⟩ fun f => K (St.app ⟨e, L, H⟩ d f) := rfl
theorem app_some (dd : Nat) (v : EV) (H' : List (List AV)) : St.app ⟨e, L, H⟩ (some dd) ⟨some v, none, H'⟩ = ⟨(dd, v) :: e, L, H'⟩ := rfl
theorem app_none (v : Option EV) (H' : List (List AV)) : St.app ⟨e, L, H⟩ none ⟨v, none, H'⟩ = ⟨e, L, H'⟩ := rfl
theorem app_noneL (v : Option EV) (x : Nat × List AV) (H' : List (List AV)) : St.app ⟨e, L, H⟩ none ⟨v, some x, H'⟩ = ⟨e, x :: L, H'⟩ := rfl
theorem app_someL (dd : Nat) (v : EV) (x : Nat × List AV) (H' : List (List AV)) : St.app ⟨e, L, H⟩ (some dd) ⟨some v, some x, H'⟩ = ⟨(dd, v) :: e, x :: L, H'⟩ := rfl
end
end Go.Sx
