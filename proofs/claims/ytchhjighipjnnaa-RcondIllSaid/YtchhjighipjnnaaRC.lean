/- A part of the proofs of this seat: RC. No condition is set. -/
import Derived.Test.YtchhjighipjnnaaRB
set_option linter.unusedVariables false
set_option linter.unusedSimpArgs false
namespace Go.Sx

/-! ### values made literal -/
def fN {α : Type} (n : Nat) (k : Nat → α) : α :=
  match n with
  | 0 => k 0
  | m + 1 => k (Nat.succ m)
theorem fN_eq {α : Type} (n : Nat) (k : Nat → α) : fN n k = k n := by cases n <;> rfl
def fI {α : Type} (n : Int) (k : Int → α) : α :=
  match n with
  | .ofNat a => fN a fun a => k (.ofNat a)
  | .negSucc a => fN a fun a => k (.negSucc a)
theorem fI_eq {α : Type} (n : Int) (k : Int → α) : fI n k = k n := by cases n <;> simp only [fI, fN_eq]
def fB {α : Type} (b : Bool) (k : Bool → α) : α :=
  match b with
  | true => k true
  | false => k false
theorem fB_eq {α : Type} (n : Bool) (k : Bool → α) : fB n k = k n := by cases n <;> rfl
def fT {α : Type} (t : Option (Nat × Nat)) (k : Option (Nat × Nat) → α) : α :=
  match t with
  | none => k none
  | some (a, b) => fN a fun a => fN b fun b => k (some (a, b))
theorem fT_eq {α : Type} (n : Option (Nat × Nat)) (k : Option (Nat × Nat) → α) : fT n k = k n := by rcases n with _ | ⟨a, b⟩ <;> simp only [fT, fN_eq]
def fBy {α : Type} (l : List UInt8) (k : List UInt8 → α) : α :=
  match l with
  | [] => k []
  | b :: r => fN b.toNat fun n => fBy r fun r => k (UInt8.ofNat n :: r)
theorem fBy_eq {α : Type} : ∀ (l : List UInt8) (k : List UInt8 → α), fBy l k = k l
  | [], k => rfl
  | b :: r, k => by simp only [fBy, fN_eq, fBy_eq r, UInt8.ofNat_toNat]
def fS {α : Type} (s : ByteArray) (k : ByteArray → α) : α :=
  match s with
  | ⟨⟨l⟩⟩ => fBy l fun l => k ⟨⟨l⟩⟩
theorem fS_eq {α : Type} (s : ByteArray) (k : ByteArray → α) : fS s k = k s := by obtain ⟨⟨l⟩⟩ := s; simp only [fS, fBy_eq]
mutual
def fV {α : Type} : AV → (AV → α) → α
  | .junk, k => k .junk
  | .bool b, k => fB b fun b => k (.bool b)
  | .int kd n, k => fI n fun n => k (.int kd n)
  | .flt x, k => fN x fun x => k (.flt x)
  | .fraw x, k => fN x fun x => k (.fraw x)
  | .str s, k => fS s fun s => k (.str s)
  | .slnil, k => k .slnil
  | .sl tag len cells, k => fT tag fun tag => fN len fun len => fL cells fun cells => k (.sl tag len cells)
  | .slm a b c d e, k => fN a fun a => fN b fun b => fN c fun c => fN d fun d => fN e fun e => k (.slm a b c d e)
  | .eptr s o, k => fV s fun s => fN o fun o => k (.eptr s o)
  | .agg cells, k => fL cells fun cells => k (.agg cells)
  | .tup cells, k => fL cells fun cells => k (.tup cells)
  | .func f a b, k => fN f fun f => fL a fun a => fL b fun b => k (.func f a b)
  | .raw v, k => k (.raw v)
def fL {α : Type} : List AV → (List AV → α) → α
  | [], k => k []
  | v :: r, k => fV v fun v => fL r fun r => k (v :: r)
end
mutual
theorem fV_eq {α : Type} : ∀ (v : AV) (k : AV → α), fV v k = k v
  | .junk, k => by simp only [fV]
  | .bool b, k => by simp only [fV, fB_eq]
  | .int kd n, k => by simp only [fV, fI_eq]
  | .flt x, k => by simp only [fV, fN_eq]
  | .fraw x, k => by simp only [fV, fN_eq]
  | .str s, k => by simp only [fV, fS_eq]
  | .slnil, k => by simp only [fV]
  | .sl tag len cells, k => by simp only [fV, fT_eq, fN_eq, fL_eq cells]
  | .slm a b c d e, k => by simp only [fV, fN_eq]
  | .eptr s o, k => by simp only [fV, fN_eq, fV_eq s]
  | .agg cells, k => by simp only [fV, fL_eq cells]
  | .tup cells, k => by simp only [fV, fL_eq cells]
  | .func f a b, k => by simp only [fV, fN_eq, fL_eq a, fL_eq b]
  | .raw v, k => by simp only [fV]
theorem fL_eq {α : Type} : ∀ (v : List AV) (k : List AV → α), fL v k = k v
  | [], k => by simp only [fL]
  | v :: r, k => by simp only [fL, fV_eq v, fL_eq r]
end
def fEV {α : Type} (v : EV) (k : EV → α) : α :=
  match v with
  | .val v => fV v fun v => k (.val v)
  | .loc a b => fN a fun a => fN b fun b => k (.loc a b)
theorem fEV_eq {α : Type} (v : EV) (k : EV → α) : fEV v k = k v := by cases v <;> simp only [fEV, fV_eq, fN_eq]
def fH {α : Type} (H : List (List AV)) (k : List (List AV) → α) : α :=
  match H with
  | [] => k []
  | cs :: r => fL cs fun cs => fH r fun r => k (cs :: r)
theorem fH_eq {α : Type} : ∀ (H : List (List AV)) (k : List (List AV) → α), fH H k = k H
  | [], k => rfl
  | cs :: r, k => by simp only [fH, fL_eq, fH_eq r]
def fE {α : Type} (e : EffR) (k : EffR → α) : α :=
  match e with
  | ⟨v, l, H⟩ =>
    (match v with
     | none => fun (k : Option EV → α) => k none
     | some v => fun k => fEV v fun v => k (some v)) fun v =>
    (match l with
     | none => fun (k : Option (Nat × List AV) → α) => k none
     | some (a, b) => fun k => fN a fun a => fL b fun b => k (some (a, b))) fun l =>
    (match H with
     | none => fun (k : Option (List (List AV)) → α) => k none
     | some a => fun k => fH a fun a => k (some a)) fun H => k ⟨v, l, H⟩
theorem fE_eq {α : Type} (e : EffR) (k : EffR → α) : fE e k = k e := by
  obtain ⟨v, l, H⟩ := e
  rcases v with _ | v <;> rcases l with _ | ⟨a, b⟩ <;> rcases H with _ | H <;> simp only [fE, fEV_eq, fN_eq, fL_eq, fH_eq]
def fLs {α : Type} (H : List (Nat × List AV)) (k : List (Nat × List AV) → α) : α :=
  match H with
  | [] => k []
  | (a, cs) :: r => fN a fun a => fL cs fun cs => fLs r fun r => k ((a, cs) :: r)
theorem fLs_eq {α : Type} : ∀ (H : List (Nat × List AV)) (k : List (Nat × List AV) → α), fLs H k = k H
  | [], k => rfl
  | (a, cs) :: r, k => by simp only [fLs, fN_eq, fL_eq, fLs_eq r]
def fEs {α : Type} (H : List (Nat × EV)) (k : List (Nat × EV) → α) : α :=
  match H with
  | [] => k []
  | (a, cs) :: r => fN a fun a => fEV cs fun cs => fEs r fun r => k ((a, cs) :: r)
theorem fEs_eq {α : Type} : ∀ (H : List (Nat × EV)) (k : List (Nat × EV) → α), fEs H k = k H
  | [], k => rfl
  | (a, cs) :: r, k => by simp only [fEs, fN_eq, fEV_eq, fEs_eq r]
def fNs {α : Type} (H : List Nat) (k : List Nat → α) : α :=
  match H with
  | [] => k []
  | a :: r => fN a fun a => fNs r fun r => k (a :: r)
theorem fNs_eq {α : Type} : ∀ (H : List Nat) (k : List Nat → α), fNs H k = k H
  | [], k => rfl
  | a :: r, k => by simp only [fNs, fN_eq, fNs_eq r]
def fSt {α : Type} (st : St) (k : St → α) : α :=
  match st with
  | ⟨e, L, H⟩ => fEs e fun e => fLs L fun L => fH H fun H => k ⟨e, L, H⟩
theorem fSt_eq {α : Type} (st : St) (k : St → α) : fSt st k = k st := by obtain ⟨e, L, H⟩ := st; simp only [fSt, fEs_eq, fLs_eq, fH_eq]

/-! ### the run -/
/-- what is known of a program's functions: which hold boxes that are led to from outside; the orders of drawn regions; those that the model answers -/
structure RunT where
  esc : Nat → Bool
  ord : Nat → Nat → Option (List Nat × (Bool × List Nat) × List Nat × List (Nat × DFl))
  intr : Nat → List AV → Option AV
  fz : Nat → List Nat := fun _ => []
  kp : Nat → Bool := fun _ => true

section
variable (P : Program) (cfg : Cfg) (call : CallR)
def nlR (st : St) (d : Nat) : Bool := noLoc d st.env
def oneR (o : Oper) (st : St) : Option EffR :=
  (opR P cfg call st.ev (nlR st) (lk st.L) st.H o).bind fun e => fE e some
/-- what a guard says -/
def guardR (ops : Array Oper) (o : Oper) (st : St) : Option Bool :=
  match o.guard with
  | none => some true
  | some (j, want) =>
    match (ops[j]?).bind (·.dst) with
    | none => none
    | some t =>
      if o.dst = some t then none else
      match st.ev (.tmp t) with
      | .val (.bool b) => some (b == want)
      | .val (.tup []) => some false
      | _ => none
def exOpsR (ops : Array Oper) : List Oper → St → Option St
  | [], st => some st
  | o :: rest, st =>
    match guardR ops o st with
    | none => none
    | some true =>
      match oneR P cfg call o st with
      | none => none
      | some e => exOpsR ops rest (st.app o.dst (e.eff st.H))
    | some false => exOpsR ops rest (st.put o.dst (.val (.tup [])))

mutual
def eqV : AV → AV → Bool
  | .junk, .junk => true
  | .bool a, .bool b => a == b
  | .int k a, .int k' b => decide (k = k') && decide (a = b)
  | .flt a, .flt b => a == b
  | .fraw a, .fraw b => a == b
  | .slnil, .slnil => true
  | .sl t n c, .sl t' n' c' => decide (t = t') && n == n' && eqL c c'
  | .slm a b c d e, .slm a' b' c' d' e' => a == a' && b == b' && c == c' && d == d' && e == e'
  | .eptr s o, .eptr s' o' => eqV s s' && o == o'
  | .agg c, .agg c' => eqL c c'
  | .tup c, .tup c' => eqL c c'
  | .func f a b, .func f' a' b' => f == f' && eqL a a' && eqL b b'
  | _, _ => false
def eqL : List AV → List AV → Bool
  | [], [] => true
  | a :: r, b :: r' => eqV a b && eqL r r'
  | _, _ => false
end
mutual
theorem eqV_eq : ∀ {a b : AV}, eqV a b = true → a = b
  | .junk, b, h => by cases b <;> simp_all [eqV]
  | .bool _, b, h => by cases b <;> simp_all [eqV]
  | .int _ _, b, h => by cases b <;> simp_all [eqV]
  | .flt _, b, h => by cases b <;> simp_all [eqV]
  | .fraw _, b, h => by cases b <;> simp_all [eqV]
  | .str _, b, h => by cases b <;> simp_all [eqV]
  | .raw _, b, h => by cases b <;> simp_all [eqV]
  | .slnil, b, h => by cases b <;> simp_all [eqV]
  | .sl t n c, b, h => by
    cases b <;> simp only [eqV, reduceCtorEq, Bool.and_eq_true, beq_iff_eq, decide_eq_true_eq, Bool.false_eq_true] at h
    rw [h.1.1, h.1.2, eqL_eq h.2]
  | .slm _ _ _ _ _, b, h => by cases b <;> simp_all [eqV]
  | .eptr s _, b, h => by
    cases b <;> simp only [eqV, reduceCtorEq, Bool.and_eq_true, beq_iff_eq, decide_eq_true_eq, Bool.false_eq_true] at h
    rw [eqV_eq h.1, h.2]
  | .agg c, b, h => by
    cases b <;> simp only [eqV, reduceCtorEq, Bool.and_eq_true, beq_iff_eq, decide_eq_true_eq, Bool.false_eq_true] at h
    rw [eqL_eq h]
  | .tup c, b, h => by
    cases b <;> simp only [eqV, reduceCtorEq, Bool.and_eq_true, beq_iff_eq, decide_eq_true_eq, Bool.false_eq_true] at h
    rw [eqL_eq h]
  | .func f a c, b, h => by
    cases b <;> simp only [eqV, reduceCtorEq, Bool.and_eq_true, beq_iff_eq, decide_eq_true_eq, Bool.false_eq_true] at h
    rw [h.1.1, eqL_eq h.1.2, eqL_eq h.2]
theorem eqL_eq : ∀ {a b : List AV}, eqL a b = true → a = b
  | [], b, h => by cases b <;> simp_all [eqL]
  | a :: r, b, h => by
    cases b <;> simp only [eqL, Bool.and_eq_true, Bool.false_eq_true] at h
    rw [eqV_eq h.1, eqL_eq h.2]
end
/-- are the blocks of the first list still there? -/
def preH : List (List AV) → List (List AV) → Bool
  | [], _ => true
  | a :: r, b :: r' => eqL a b && preH r r'
  | _ :: _, [] => false
theorem preH_ok : ∀ {a b : List (List AV)}, preH a b = true → ∀ id, id < a.length → b[id]? = a[id]?
  | [], _, _, id, h => by simp at h
  | a :: r, [], h, _, _ => by simp [preH] at h
  | a :: r, b :: r', h, id, hid => by
    simp only [preH, Bool.and_eq_true] at h
    cases id with
    | zero => simp [eqL_eq h.1]
    | succ id => simpa using preH_ok h.2 id (by simpa using hid)

def preW (W : Nat → Bool) : Nat → List (List AV) → List (List AV) → Bool
  | _, [], _ => true
  | i, a :: r, b :: r' => (!W i || eqL a b) && preW W (i + 1) r r'
  | _, _ :: _, [] => false
theorem preW_ok {W : Nat → Bool} : ∀ {i : Nat} {a b : List (List AV)}, preW W i a b = true → ∀ id, W (i + id) = true → id < a.length → b[id]? = a[id]?
  | _, [], _, _, id, _, h => by simp at h
  | _, a :: r, [], h, _, _, _ => by simp [preW] at h
  | i, a :: r, b :: r', h, id, hw, hid => by
    simp only [preW, Bool.and_eq_true, Bool.or_eq_true, Bool.not_eq_true'] at h
    cases id with
    | zero =>
      rcases h.1 with h1 | h1
      · rw [Nat.add_zero] at hw; rw [hw] at h1; cases h1
      · simp [eqL_eq h1]
    | succ id => simpa using preW_ok h.2 id (by rw [show i + 1 + id = i + (id + 1) by omega]; exact hw) (by simpa using hid)

def ckR (f : DFl) (nY : NY) (o : Oper) (st : St) (e : EffR) : Bool :=
  match f with
  | .lt => true
  | .bx => (match o.dst with | some d => nY.ks.contains d | none => true)
  | .ld hl =>
    match o.op with
    | .load _ x =>
      match st.ev x with
      | .loc k _ => !nY.ks.contains k
      | .val (.eptr (.slm id _ _ _ _) _) => hl || nY.W id
      | _ => true
    | .binOp op _ x _ _ => match op with
      | .eql | .neq => !isEp (st.ev x) || hl
      | _ => true
    | _ => true
  | .mn q => (match e.l with | none => true | some (k, _) => nY.ks.contains k) && (match e.H with | none => true | some H => if q then preH st.H H else preW nY.W 0 st.H H)
theorem ckR_ok {f : DFl} {nY : NY} {o : Oper} {st : St} {e : EffR} {d : Option Tmp} (h : ckR f nY o st e = true) : ckX f nY o st (st.app d (e.eff st.H)) := by
  unfold ckR at h; unfold ckX
  cases f with
  | lt => trivial
  | bx =>
    intro d' hd'
    dsimp only at h
    rw [hd'] at h
    simpa using h
  | ld hl =>
    obtain ⟨dd, op, ty, pos, aft, gd⟩ := o
    cases op <;> dsimp only at h ⊢
    case load t x =>
      split at h
      · rename_i he; rw [he]; simpa using h
      · rename_i he; rw [he]; simpa using h
      · rename_i h1 h2
        split
        · rename_i he; exact (h1 _ _ he).elim
        · rename_i he; exact (h2 _ _ _ _ _ _ he).elim
        · trivial
    case binOp op t x y t' =>
      cases op <;> dsimp only at h ⊢
      all_goals (intro hh; rw [hh] at h; simpa using h)
  | mn q =>
    simp only [Bool.and_eq_true] at h
    obtain ⟨h1, h2⟩ := h
    refine ⟨fun k hk => ?_, fun id hq hid => ?_⟩
    · simp only [St.app, EffR.eff]
      cases hl : e.l with
      | none => rfl
      | some p =>
        rw [hl] at h1
        simp only [lk]
        have h1' : p.1 ∈ nY.ks := by simpa using h1
        rw [if_neg]
        intro hh; rw [hh] at h1'; exact hk h1'
    · simp only [St.app, EffR.eff]
      cases hH : e.H with
      | none => rfl
      | some H =>
        rw [hH] at h2
        dsimp only at h2
        split at h2
        · exact preH_ok h2 id hid
        · rename_i hnq
          rcases hq with hq | hq
          · exact (hnq hq).elim
          · exact preW_ok h2 id (by rw [Nat.zero_add]; exact hq) hid

def exDR (ops : Array Oper) (nY : NY) : List (Nat × DFl) → St → Option St
  | [], st => some st
  | (i, f) :: rest, st =>
    match ops[i]? with
    | none => none
    | some o =>
      match guardR ops o st with
      | none => none
      | some true =>
        match oneR P cfg call o st with
        | none => none
        | some e => if ckR f nY o st e then exDR ops nY rest (st.app o.dst (e.eff st.H)) else none
      | some false => exDR ops nY rest (st.put o.dst (.val (.tup [])))

/-- the blocks that a region doesn't write: all that there are; those of some boxes -/
def wOf (wm : Bool × List Nat) (st : St) (id : Nat) : Bool :=
  (wm.1 && decide (id < st.H.length)) || wm.2.any fun t => match st.ev (.tmp t) with
    | .val (.eptr (.slm b _ _ _ _) _) => Nat.beq b id
    | _ => false
def roundsR (X : St → Option (XE × St)) (ks : List Nat) : Nat → St → Option (XE × St)
  | 0, _ => none
  | n + 1, st =>
    match X st with
    | some (.normal, s) => fSt (prune ks s) fun s => roundsR X ks n s
    | r => r
def keysR : List (Nat × EV) → List Nat → List Nat
  | [], ks => ks
  | (k, _) :: r, ks => keysR r (if ks.contains k then ks else k :: ks)
def keysL : List (Nat × List AV) → List Nat → List Nat
  | [], ks => ks
  | (k, _) :: r, ks => keysL r (if ks.contains k then ks else k :: ks)
def runC (ord : Nat → Option (List Nat × (Bool × List Nat) × List Nat × List (Nat × DFl))) (lf : Nat) : Code → St → Option (XE × St)
  | .skip, st => some (.normal, st)
  | .region id ops d, st =>
    if d then
      match ord id with
      | none => none
      | some (nY, wm, ch, fl) => if chkR cfg.esc ops ch fl && boxFree cfg.esc st.env ops.toList then (exDR P cfg call ops ⟨nY, wOf wm st⟩ fl st).map (.normal, ·) else none
    else (exOpsR P cfg call ops ops.toList st).map (.normal, ·)
  | .seq x y, st =>
    match runC ord lf x st with
    | some (.normal, s) => runC ord lf y s
    | r => r
  | .cond c x y, st =>
    match (st.ev c).asB with
    | some true => runC ord lf x st
    | some false => runC ord lf y st
    | none => none
  | .block id c, st =>
    match runC ord lf c st with
    | some (.exit i, s) => if i = id then some (.normal, s) else some (.exit i, s)
    | r => r
  | .loop c, st => fNs (keysL st.L (keysR st.env [])) fun ks => fSt (prune ks st) fun s => roundsR (runC ord lf c) ks lf s
  | .exit id, st => some (.exit id, st)
  | .ret, st => some (.ret, st)
  | _, _ => none
end
end Go.Sx
