/- A part of the proofs of this seat: YM. No condition is set. -/
import Derived.KernelRfl
import Derived.Test.YthjjpbcmimpjbaaGreatYE
import Derived.Test.YthjjpbcmimpjbaaGreatYF
import Derived.Test.YthjjpbcmimpjbaaGreatYJ
import Derived.Test.YthjjpbcmimpjbaaGreatYK
import Derived.Test.YthjjpbcmimpjbaaGreatYL
set_option maxHeartbeats 44000000
set_option linter.unusedVariables false
set_option linter.unusedSimpArgs false
namespace Go.Sx
def kN {α : Type} (n : Nat) (k : Nat → α) : α :=
  match n with
  | 0 => k 0
  | m + 1 => k (Nat.succ m)
theorem zgb {α : Type} (n : Nat) (k : Nat → α) : kN n k = k n := by cases n <;> rfl
def fI {α : Type} (n : Int) (k : Int → α) : α :=
  match n with
  | .ofNat a => kN a fun a => k (.ofNat a)
  | .negSucc a => kN a fun a => k (.negSucc a)
theorem z9f {α : Type} (n : Int) (k : Int → α) : fI n k = k n := by cases n <;> simp only [fI, zgb]
def kB {α : Type} (b : Bool) (k : Bool → α) : α :=
  match b with
  | true => k true
  | false => k false
theorem z9w {α : Type} (n : Bool) (k : Bool → α) : kB n k = k n := by cases n <;> rfl
def fT {α : Type} (t : Option (Nat × Nat)) (k : Option (Nat × Nat) → α) : α :=
  match t with
  | none => k none
  | some (a, b) => kN a fun a => kN b fun b => k (some (a, b))
theorem z9h {α : Type} (n : Option (Nat × Nat)) (k : Option (Nat × Nat) → α) : fT n k = k n := by rcases n with _ | ⟨a, b⟩ <;> simp only [fT, zgb]
def fBy {α : Type} (l : List UInt8) (k : List UInt8 → α) : α :=
  match l with
  | [] => k []
  | b :: r => kN b.toNat fun n => fBy r fun r => k (UInt8.ofNat n :: r)
theorem zxl {α : Type} : ∀ (l : List UInt8) (k : List UInt8 → α), fBy l k = k l
  | [], k => rfl
  | b :: r, k => by simp only [fBy, zgb, zxl r, UInt8.ofNat_toNat]
def fS {α : Type} (s : ByteArray) (k : ByteArray → α) : α :=
  match s with
  | ⟨⟨l⟩⟩ => fBy l fun l => k ⟨⟨l⟩⟩
theorem z9g {α : Type} (s : ByteArray) (k : ByteArray → α) : fS s k = k s := by obtain ⟨⟨l⟩⟩ := s; simp only [fS, zxl]
mutual
def fV {α : Type} : AV → (AV → α) → α
  | .junk, k => k .junk
  | .bool b, k => kB b fun b => k (.bool b)
  | .int kd n, k => fI n fun n => k (.int kd n)
  | .flt x, k => kN x fun x => k (.flt x)
  | .fraw x, k => kN x fun x => k (.fraw x)
  | .str s, k => fS s fun s => k (.str s)
  | .slnil, k => k .slnil
  | .sl tag len cells, k => fT tag fun tag => kN len fun len => fL cells fun cells => k (.sl tag len cells)
  | .slm a b c d e, k => kN a fun a => kN b fun b => kN c fun c => kN d fun d => kN e fun e => k (.slm a b c d e)
  | .eptr s o, k => fV s fun s => kN o fun o => k (.eptr s o)
  | .agg cells, k => fL cells fun cells => k (.agg cells)
  | .tup cells, k => fL cells fun cells => k (.tup cells)
  | .func f a b, k => kN f fun f => fL a fun a => fL b fun b => k (.func f a b)
  | .raw v, k => k (.raw v)
def fL {α : Type} : List AV → (List AV → α) → α
  | [], k => k []
  | v :: r, k => fV v fun v => fL r fun r => k (v :: r)
end
mutual
theorem zvg {α : Type} : ∀ (v : AV) (k : AV → α), fV v k = k v
  | .junk, k => by simp only [fV]
  | .bool b, k => by simp only [fV, z9w]
  | .int kd n, k => by simp only [fV, z9f]
  | .flt x, k => by simp only [fV, zgb]
  | .fraw x, k => by simp only [fV, zgb]
  | .str s, k => by simp only [fV, z9g]
  | .slnil, k => by simp only [fV]
  | .sl tag len cells, k => by simp only [fV, z9h, zgb, zjq cells]
  | .slm a b c d e, k => by simp only [fV, zgb]
  | .eptr s o, k => by simp only [fV, zgb, zvg s]
  | .agg cells, k => by simp only [fV, zjq cells]
  | .tup cells, k => by simp only [fV, zjq cells]
  | .func f a b, k => by simp only [fV, zgb, zjq a, zjq b]
  | .raw v, k => by simp only [fV]
theorem zjq {α : Type} : ∀ (v : List AV) (k : List AV → α), fL v k = k v
  | [], k => by simp only [fL]
  | v :: r, k => by simp only [fL, zvg v, zjq r]
end
def fEV {α : Type} (v : EV) (k : EV → α) : α :=
  match v with
  | .val v => fV v fun v => k (.val v)
  | .loc a b => kN a fun a => kN b fun b => k (.loc a b)
theorem zxm {α : Type} (v : EV) (k : EV → α) : fEV v k = k v := by cases v <;> simp only [fEV, zvg, zgb]
def fH {α : Type} (H : List (List AV)) (k : List (List AV) → α) : α :=
  match H with
  | [] => k []
  | cs :: r => fL cs fun cs => fH r fun r => k (cs :: r)
theorem zvf {α : Type} : ∀ (H : List (List AV)) (k : List (List AV) → α), fH H k = k H
  | [], k => rfl
  | cs :: r, k => by simp only [fH, zjq, zvf r]
def fE {α : Type} (e : EffR) (k : EffR → α) : α :=
  match e with
  | ⟨v, l, H⟩ =>
    (match v with
     | none => fun (k : Option EV → α) => k none
     | some v => fun k => fEV v fun v => k (some v)) fun v =>
    (match l with
     | none => fun (k : Option (Nat × List AV) → α) => k none
     | some (a, b) => fun k => kN a fun a => fL b fun b => k (some (a, b))) fun l =>
    (match H with
     | none => fun (k : Option (List (List AV)) → α) => k none
     | some a => fun k => fH a fun a => k (some a)) fun H => k ⟨v, l, H⟩
theorem z9e {α : Type} (e : EffR) (k : EffR → α) : fE e k = k e := by
  obtain ⟨v, l, H⟩ := e
  rcases v with _ | v <;> rcases l with _ | ⟨a, b⟩ <;> rcases H with _ | H <;> simp only [fE, zxm, zgb, zjq, zvf]
def fLs {α : Type} (H : List (Nat × List AV)) (k : List (Nat × List AV) → α) : α :=
  match H with
  | [] => k []
  | (a, cs) :: r => kN a fun a => fL cs fun cs => fLs r fun r => k ((a, cs) :: r)
theorem zxo {α : Type} : ∀ (H : List (Nat × List AV)) (k : List (Nat × List AV) → α), fLs H k = k H
  | [], k => rfl
  | (a, cs) :: r, k => by simp only [fLs, zgb, zjq, zxo r]
def fEs {α : Type} (H : List (Nat × EV)) (k : List (Nat × EV) → α) : α :=
  match H with
  | [] => k []
  | (a, cs) :: r => kN a fun a => fEV cs fun cs => fEs r fun r => k ((a, cs) :: r)
theorem zxn {α : Type} : ∀ (H : List (Nat × EV)) (k : List (Nat × EV) → α), fEs H k = k H
  | [], k => rfl
  | (a, cs) :: r, k => by simp only [fEs, zgb, zxm, zxn r]
def fNs {α : Type} (H : List Nat) (k : List Nat → α) : α :=
  match H with
  | [] => k []
  | a :: r => kN a fun a => fNs r fun r => k (a :: r)
theorem zr4 {α : Type} : ∀ (H : List Nat) (k : List Nat → α), fNs H k = k H
  | [], k => rfl
  | a :: r, k => by simp only [fNs, zgb, zr4 r]
def fSt {α : Type} (st : St) (k : St → α) : α :=
  match st with
  | ⟨e, L, H⟩ => fEs e fun e => fLs L fun L => fH H fun H => k ⟨e, L, H⟩
theorem zxp {α : Type} (st : St) (k : St → α) : fSt st k = k st := by obtain ⟨e, L, H⟩ := st; simp only [fSt, zxn, zxo, zvf]
structure RunT where
  esc : Nat → Bool
  ord : Nat → Nat → Option (List Nat × (Bool × List Nat) × List (Nat × List Nat) × List Nat × DTr)
  intr : Nat → List AV → Option AV
  fz : Nat → List Nat := fun _ => []
  kp : Nat → Bool := fun _ => true
section
variable (P : Program) (cfg : Cfg) (call : zpi)
def nlR (st : St) (d : Nat) : Bool := zhg d st.env
def zut (o : Oper) (st : St) : Option EffR :=
  (opR P cfg call st.ev (nlR st) (lk st.L) st.H o).bind fun e => fE e some
def zj1 (ops : Array Oper) (o : Oper) (st : St) : Option Bool :=
  match o.guard with
  | none => some true
  | some (j, want) =>
    match (ops[j]?).bind (·.dst) with
    | none => none
    | some t =>
      if o.dst = some t then none else
      match st.ev (.tmp t) with
      | .val (.bool b) => some (b == want)
      | .val (.tup []) => some false
      | _ => none
def zgw (ops : Array Oper) : List Oper → St → Option St
  | [], st => some st
  | o :: rest, st =>
    match zj1 ops o st with
    | none => none
    | some true =>
      match zut P cfg call o st with
      | none => none
      | some e => zgw ops rest (st.app o.dst (e.eff st.H))
    | some false => zgw ops rest (st.put o.dst (.val (.tup [])))
mutual
def eqV : AV → AV → Bool
  | .junk, .junk => true
  | .bool a, .bool b => a == b
  | .int k a, .int k' b => decide (k = k') && decide (a = b)
  | .flt a, .flt b => a == b
  | .fraw a, .fraw b => a == b
  | .slnil, .slnil => true
  | .sl t n c, .sl t' n' c' => decide (t = t') && n == n' && eqL c c'
  | .slm a b c d e, .slm a' b' c' d' e' => a == a' && b == b' && c == c' && d == d' && e == e'
  | .eptr s o, .eptr s' o' => eqV s s' && o == o'
  | .agg c, .agg c' => eqL c c'
  | .tup c, .tup c' => eqL c c'
  | .func f a b, .func f' a' b' => f == f' && eqL a a' && eqL b b'
  | _, _ => false
def eqL : List AV → List AV → Bool
  | [], [] => true
  | a :: r, b :: r' => eqV a b && eqL r r'
  | _, _ => false
end
mutual
theorem zrx : ∀ {a b : AV}, eqV a b = true → a = b
  | .junk, b, h => by cases b <;> simp_all [eqV]
  | .bool _, b, h => by cases b <;> simp_all [eqV]
  | .int _ _, b, h => by cases b <;> simp_all [eqV]
  | .flt _, b, h => by cases b <;> simp_all [eqV]
  | .fraw _, b, h => by cases b <;> simp_all [eqV]
  | .str _, b, h => by cases b <;> simp_all [eqV]
  | .raw _, b, h => by cases b <;> simp_all [eqV]
  | .slnil, b, h => by cases b <;> simp_all [eqV]
  | .sl t n c, b, h => by
    cases b <;> simp only [eqV, reduceCtorEq, Bool.and_eq_true, beq_iff_eq, decide_eq_true_eq, Bool.false_eq_true] at h
    rw [h.1.1, h.1.2, zhu h.2]
  | .slm _ _ _ _ _, b, h => by cases b <;> simp_all [eqV]
  | .eptr s _, b, h => by
    cases b <;> simp only [eqV, reduceCtorEq, Bool.and_eq_true, beq_iff_eq, decide_eq_true_eq, Bool.false_eq_true] at h
    rw [zrx h.1, h.2]
  | .agg c, b, h => by
    cases b <;> simp only [eqV, reduceCtorEq, Bool.and_eq_true, beq_iff_eq, decide_eq_true_eq, Bool.false_eq_true] at h
    rw [zhu h]
  | .tup c, b, h => by
    cases b <;> simp only [eqV, reduceCtorEq, Bool.and_eq_true, beq_iff_eq, decide_eq_true_eq, Bool.false_eq_true] at h
    rw [zhu h]
  | .func f a c, b, h => by
    cases b <;> simp only [eqV, reduceCtorEq, Bool.and_eq_true, beq_iff_eq, decide_eq_true_eq, Bool.false_eq_true] at h
    rw [h.1.1, zhu h.1.2, zhu h.2]
theorem zhu : ∀ {a b : List AV}, eqL a b = true → a = b
  | [], b, h => by cases b <;> simp_all [eqL]
  | a :: r, b, h => by
    cases b <;> simp only [eqL, Bool.and_eq_true, Bool.false_eq_true] at h
    rw [zrx h.1, zhu h.2]
end
def zye : List (List AV) → List (List AV) → Bool
  | [], _ => true
  | a :: r, b :: r' => eqL a b && zye r r'
  | _ :: _, [] => false
theorem znb : ∀ {a b : List (List AV)}, zye a b = true → ∀ id, id < a.length → b[id]? = a[id]?
  | [], _, _, id, h => by simp at h
  | a :: r, [], h, _, _ => by simp [zye] at h
  | a :: r, b :: r', h, id, hid => by
    simp only [zye, Bool.and_eq_true] at h
    cases id with
    | zero => simp [zhu h.1]
    | succ id => simpa using znb h.2 id (by simpa using hid)
def z5p (W : Nat → Bool) : Nat → List (List AV) → List (List AV) → Bool
  | _, [], _ => true
  | i, a :: r, b :: r' => (!W i || eqL a b) && z5p W (i + 1) r r'
  | _, _ :: _, [] => false
theorem ztk {W : Nat → Bool} : ∀ {i : Nat} {a b : List (List AV)}, z5p W i a b = true → ∀ id, W (i + id) = true → id < a.length → b[id]? = a[id]?
  | _, [], _, _, id, _, h => by simp at h
  | _, a :: r, [], h, _, _, _ => by simp [z5p] at h
  | i, a :: r, b :: r', h, id, hw, hid => by
    simp only [z5p, Bool.and_eq_true, Bool.or_eq_true, Bool.not_eq_true'] at h
    cases id with
    | zero =>
      rcases h.1 with h1 | h1
      · rw [Nat.add_zero] at hw; rw [hw] at h1; cases h1
      · simp [zhu h1]
    | succ id => simpa using ztk h.2 id (by rw [show i + 1 + id = i + (id + 1) by omega]; exact hw) (by simpa using hid)
def ckR (f : DFl) (nY : NY) (o : Oper) (st : St) (e : EffR) : Bool :=
  match f with
  | .lt => true
  | .fz => true
  | .bx => (match o.dst with | some d => nY.ks.contains d && (lk nY.kw d).isNone | none => true)
  | .lb k => (match o.op with | .load _ x => (match st.ev x with | .loc k' _ => Nat.beq k' k | _ => false) | _ => false)
  | .ms k => (match e.l with | none => true | some (k', _) => Nat.beq k' k) && (match e.H with | none => true | some _ => false)
  | .ld hl =>
    match o.op with
    | .load _ x =>
      match st.ev x with
      | .loc k _ => !nY.ks.contains k
      | .val (.eptr (.slm id _ _ _ _) _) => hl || nY.W id
      | _ => true
    | .binOp op _ x _ _ => match op with
      | .eql | .neq => !z4i (st.ev x) || hl
      | _ => true
    | _ => true
  | .mn q => (match e.l with | none => true | some (k, _) => nY.ks.contains k && (lk nY.kw k).isNone) && (match e.H with | none => true | some H => if q then zye st.H H else z5p nY.W 0 st.H H)
theorem z3m {f : DFl} {nY : NY} {o : Oper} {st : St} {e : EffR} {d : Option Tmp} (h : ckR f nY o st e = true) : ckX f nY o st (st.app d (e.eff st.H)) := by
  unfold ckR at h; unfold ckX
  cases f with
  | lt => trivial
  | fz => trivial
  | bx =>
    intro d' hd'
    dsimp only at h
    rw [hd'] at h
    simp only [Bool.and_eq_true] at h
    exact ⟨by simpa using h.1, by simpa using h.2⟩
  | lb k =>
    dsimp only at h ⊢
    split at h
    · rename_i hop
      rw [hop]
      dsimp only
      split at h
      · rename_i he; rw [he]; exact Nat.eq_of_beq_eq_true h
      · cases h
    · cases h
  | ms k =>
    simp only [Bool.and_eq_true] at h
    obtain ⟨h1, h2⟩ := h
    refine ⟨fun k' hk' _ => ?_, ?_⟩
    · simp only [St.app, EffR.eff]
      cases hl : e.l with
      | none => rfl
      | some p =>
        rw [hl] at h1
        obtain ⟨k1, c1⟩ := p
        have := Nat.eq_of_beq_eq_true h1
        subst this
        simp only [lk, Ne.symm hk', if_false]
    · simp only [St.app, EffR.eff]
      cases hH : e.H with
      | none => rfl
      | some H => rw [hH] at h2; cases h2
  | ld hl =>
    obtain ⟨dd, op, ty, pos, aft, gd⟩ := o
    cases op <;> dsimp only at h ⊢
    case load t x =>
      split at h
      · rename_i he; rw [he]; simpa using h
      · rename_i he; rw [he]; simpa using h
      · rename_i h1 h2
        split
        · rename_i he; exact (h1 _ _ he).elim
        · rename_i he; exact (h2 _ _ _ _ _ _ he).elim
        · trivial
    case binOp op t x y t' =>
      cases op <;> dsimp only at h ⊢
      all_goals (intro hh; rw [hh] at h; simpa using h)
  | mn q =>
    simp only [Bool.and_eq_true] at h
    obtain ⟨h1, h2⟩ := h
    refine ⟨fun k hk => ?_, fun id hq hid => ?_⟩
    · simp only [St.app, EffR.eff]
      cases hl : e.l with
      | none => rfl
      | some p =>
        rw [hl] at h1
        simp only [lk]
        simp only [Bool.and_eq_true] at h1
        have h1' : p.1 ∈ nY.ks := by simpa using h1.1
        rw [if_neg]
        intro hh
        rcases hk with hk | hk
        · rw [hh] at h1'; exact hk h1'
        · rw [← hh] at hk; have := h1.2; cases hq : lk nY.kw p.1 <;> rw [hq] at hk this <;> simp at hk this
    · simp only [St.app, EffR.eff]
      cases hH : e.H with
      | none => rfl
      | some H =>
        rw [hH] at h2
        dsimp only at h2
        split at h2
        · exact znb h2 id hid
        · rename_i hnq
          rcases hq with hq | hq
          · exact (hnq hq).elim
          · exact ztk h2 id (by rw [Nat.zero_add]; exact hq) hid
def zr1 (ops : Array Oper) (nY : NY) : List (Nat × DFl) → St → Option St
  | [], st => some st
  | (i, f) :: rest, st =>
    match ops[i]? with
    | none => none
    | some o =>
      match zj1 ops o st with
      | none => none
      | some true =>
        match zut P cfg call o st with
        | none => none
        | some e => if ckR f nY o st e then zr1 ops nY rest (st.app o.dst (e.eff st.H)) else none
      | some false => zr1 ops nY rest (st.put o.dst (.val (.tup [])))
def wOf (wm : Bool × List Nat) (st : St) (id : Nat) : Bool :=
  (wm.1 && decide (id < st.H.length)) || wm.2.any fun t => match st.ev (.tmp t) with
    | .val (.eptr (.slm b _ _ _ _) _) => Nat.beq b id
    | _ => false
mutual
def z3u (P : Program) (cfg : Cfg) (call : zpi) (ops : Array Oper) (nY : NY) : DTr → St → Option (List St)
  | .lin fl, st => (zr1 P cfg call ops nY fl st).map fun s => [s]
  | .alt fl bs, st => match zr1 P cfg call ops nY fl st with
    | none => none
    | some s => z7w P cfg call ops nY bs s
def z7w (P : Program) (cfg : Cfg) (call : zpi) (ops : Array Oper) (nY : NY) : DBr → St → Option (List St)
  | .nil, _ => some []
  | .cons i q t r, st => match zr1 P cfg call ops nY [(i, .mn q)] st with
    | none => none
    | some s => match z3u P cfg call ops nY t s with
      | none => none
      | some x => match z7w P cfg call ops nY r st with
        | none => none
        | some y => some (x ++ y)
end
abbrev zpl := List (XE × St)
def zps (f : XE → St → Option zpl) : zpl → Option zpl
  | [] => some []
  | (e, s) :: r => match f e s with
    | none => none
    | some x => match r with
      | [] => some x
      | r => match zps f r with
        | none => none
        | some y => some (x ++ y)
def zjd (X : St → Option zpl) (ks : List Nat) : Nat → St → Option zpl
  | 0, _ => none
  | n + 1, st =>
    match X st with
    | none => none
    | some o => zps (fun e s => match e with
      | .normal => fSt (prune ks s) fun s => zjd X ks n s
      | e => some [(e, s)]) o
def zvv : List (Nat × EV) → List Nat → List Nat
  | [], ks => ks
  | (k, _) :: r, ks => zvv r (if ks.contains k then ks else k :: ks)
def keysL : List (Nat × List AV) → List Nat → List Nat
  | [], ks => ks
  | (k, _) :: r, ks => keysL r (if ks.contains k then ks else k :: ks)
def zjm (ord : Nat → Option (List Nat × (Bool × List Nat) × List (Nat × List Nat) × List Nat × DTr)) (lf : Nat) : Code → St → Option zpl
  | .skip, st => some [(.normal, st)]
  | .region id ops d, st =>
    if d then
      match ord id with
      | none => none
      | some (nY, wm, kw, ch, t) =>
        if (cfg.esc || ops.toList.all (fun o => zfd o.op) || zqo ops ops.toList.zipIdx) && z2e cfg.esc cfg.fz kw ops ch t (Array.replicate ops.size false) && t.size == ops.size && kw.all (fun p => nY.contains p.1) && zfq cfg.esc st.env ops.toList then
          (z3u P cfg call ops ⟨nY, wOf wm st, kw⟩ t st).map fun l => l.map fun s => (.normal, s)
        else none
    else (zgw P cfg call ops ops.toList st).map fun s => [(.normal, s)]
  | .seq x y, st =>
    match zjm ord lf x st with
    | none => none
    | some o => zps (fun e s => match e with
      | .normal => zjm ord lf y s
      | e => some [(e, s)]) o
  | .cond c x y, st =>
    match (st.ev c).asB with
    | some true => zjm ord lf x st
    | some false => zjm ord lf y st
    | none => none
  | .block id c, st =>
    match zjm ord lf c st with
    | none => none
    | some o => zps (fun e s => match e with
      | .exit i => if i = id then some [(.normal, s)] else some [(.exit i, s)]
      | e => some [(e, s)]) o
  | .loop c, st => fNs (keysL st.L (zvv st.env [])) fun ks => fSt (prune ks st) fun s => zjd (zjm ord lf c) ks lf s
  | .exit id, st => some [(.exit id, st)]
  | .ret, st => some [(.ret, st)]
  | _, _ => none
end
section
variable {P : Program} {cfg : Cfg} {call : zpi} (hcall : ∀ f args H r H', call f args H = some (r, H') → zaa P f args H r H')
include hcall
theorem zhh {o : Oper} {st : St} {e : EffR} {K : St → Prop} (h : zut P cfg call o st = some e) (hK : K (st.app o.dst (e.eff st.H))) : opX P cfg o K st := by
  unfold zut at h
  rw [Option.bind_eq_some_iff] at h
  obtain ⟨e', h1, h2⟩ := h
  rw [z9e] at h2
  cases h2
  exact z5j (K := fun e => K (st.app o.dst e)) hcall (fun d hd => .inl hd) h1 hK
theorem zd7 {ops : Array Oper} {Q : St → Prop} {st' : St} (hQ : Q st') : ∀ (l : List Oper) (kn : Option (Nat × Bool)) (st : St), KnA ops kn st → zgw P cfg call ops l st = some st' → za3 P cfg ops kn l Q st
  | [], kn, st, hk, h => by
    simp only [zgw, Option.some.injEq] at h; subst h
    simpa [za3] using hQ
  | o :: rest, kn, st, hk, h => by
    unfold zgw at h
    unfold za3
    have kput : ∀ {kn : Option (Nat × Bool)} (s : St), KnA ops kn st → (∀ t, o.dst ≠ some t → lk s.env t = lk st.env t) → KnA ops (if kn.any (fun p => ((ops[p.1]?).bind (·.dst)) == o.dst) then none else kn) s := by
      intro kn s hkn ha
      split
      · trivial
      · rename_i hany
        cases kn with
        | none => trivial
        | some p =>
          obtain ⟨j, b⟩ := p
          obtain ⟨t, ht, hv⟩ := hkn
          exact zd0 ht (fun hd => hany (by simp [ht, hd])) hv ha
    cases hg : o.guard with
    | none =>
      simp only [zj1, hg] at h
      dsimp only
      cases h1 : zut P cfg call o st with
      | none => rw [h1] at h; cases h
      | some e =>
        rw [h1] at h
        exact zhh hcall h1 (zd7 hQ rest _ _ (kput _ hk fun t ht => zb2 ht) h)
    | some p =>
      obtain ⟨j, want⟩ := p
      simp only [zj1, hg] at h
      dsimp only
      cases ht : (ops[j]?).bind (·.dst) with
      | none => rw [ht] at h; cases h
      | some t =>
        rw [ht] at h
        dsimp only at h ⊢
        by_cases hd : o.dst = some t
        · rw [if_pos hd] at h; cases h
        rw [if_neg hd] at h ⊢
        have go : ∀ b, st.ev (.tmp t) = .val (.bool b) → (b = want → (∃ e, zut P cfg call o st = some e ∧ zgw P cfg call ops rest (st.app o.dst (e.eff st.H)) = some st')) ∧
            (b = !want → zgw P cfg call ops rest (st.put o.dst (.val (.tup []))) = some st') := by
          intro b hb
          rw [hb] at h
          dsimp only at h
          refine ⟨fun hw => ?_, fun hw => ?_⟩
          · subst hw
            rw [beq_self_eq_true] at h
            dsimp only at h
            cases h1 : zut P cfg call o st with
            | none => rw [h1] at h; cases h
            | some e => rw [h1] at h; exact ⟨e, rfl, h⟩
          · subst hw
            have : ((!want) == want) = false := by cases want <;> rfl
            rw [this] at h
            exact h
        split
        · rename_i hkn
          subst hkn
          obtain ⟨t', ht', hv⟩ := hk
          rw [ht] at ht'; simp only [Option.some.injEq] at ht'; subst ht'
          obtain ⟨e, h1, h2⟩ := (go _ hv).1 rfl
          exact zhh hcall h1 (zd7 hQ rest _ _ (zd0 ht hd hv fun t ht => zb2 ht) h2)
        split
        · rename_i hkn
          subst hkn
          obtain ⟨t', ht', hv⟩ := hk
          rw [ht] at ht'; simp only [Option.some.injEq] at ht'; subst ht'
          exact zd7 hQ rest _ _ (zd0 ht hd hv fun t ht => zbj ht) ((go _ hv).2 rfl)
        cases hb : (st.ev (.tmp t)).asB with
        | none =>
          dsimp only
          have hu : (st.ev (.tmp t)).isU = true ∧ zgw P cfg call ops rest (st.put o.dst (.val (.tup []))) = some st' := by
            split at h
            · cases h
            · rename_i heq
              split at heq
              · rename_i he; rw [he] at hb; cases hb
              · cases heq
              · cases heq
            · rename_i heq
              split at heq
              · rename_i he; rw [he] at hb; cases hb
              · rename_i he; rw [he]; exact ⟨rfl, h⟩
              · cases heq
          rw [if_pos hu.1]
          exact zd7 hQ rest _ _ (kput _ hk fun t ht => zbj ht) hu.2
        | some b =>
          dsimp only
          obtain ⟨hu, hv⟩ := zuk hb
          refine ⟨fun hw => ?_, fun hw => ?_⟩
          · obtain ⟨e, h1, h2⟩ := (go _ hv).1 hw
            subst hw
            rw [hu]
            exact zhh hcall h1 (zd7 hQ rest _ _ (zd0 ht hd hv fun t ht => zb2 ht) h2)
          · have h2 := (go _ hv).2 hw
            rw [← hw, hu]
            exact zd7 hQ rest _ _ (zd0 ht hd hv fun t ht => zbj ht) h2
theorem zfc {ops : Array Oper} {nY : NY} {Q : St → Prop} {st' : St} (hQ : Q st') : ∀ (l : List (Nat × DFl)) (kn : Option (Nat × Bool)) (st : St), KnA ops kn st → zr1 P cfg call ops nY l st = some st' → exD P cfg ops nY kn l Q st
  | [], kn, st, hk, h => by
    simp only [zr1, Option.some.injEq] at h; subst h
    simpa [exD] using hQ
  | (i, f) :: rest, kn, st, hk, h => by
    unfold zr1 at h
    unfold exD
    cases ho : ops[i]? with
    | none => rw [ho] at h; cases h
    | some o =>
    rw [ho] at h
    dsimp only at h ⊢
    have kput : ∀ {kn : Option (Nat × Bool)} (s : St), KnA ops kn st → (∀ t, o.dst ≠ some t → lk s.env t = lk st.env t) → KnA ops (if kn.any (fun p => ((ops[p.1]?).bind (·.dst)) == o.dst) then none else kn) s := by
      intro kn s hkn ha
      split
      · trivial
      · rename_i hany
        cases kn with
        | none => trivial
        | some p =>
          obtain ⟨j, b⟩ := p
          obtain ⟨t, ht, hv⟩ := hkn
          exact zd0 ht (fun hd => hany (by simp [ht, hd])) hv ha
    have one : ∀ e {x : Option St}, (if ckR f nY o st e then x else none) = some st' → ckX f nY o st (st.app o.dst (e.eff st.H)) ∧ x = some st' := by
      intro e x hh
      split at hh
      · rename_i hc; exact ⟨z3m hc, hh⟩
      · cases hh
    cases hg : o.guard with
    | none =>
      simp only [zj1, hg] at h
      dsimp only
      cases h1 : zut P cfg call o st with
      | none => rw [h1] at h; cases h
      | some e =>
        rw [h1] at h
        obtain ⟨h2, h3⟩ := one e h
        exact zhh hcall (K := fun s => ckX f nY o st s ∧ exD P cfg ops nY _ rest Q s) h1 ⟨h2, zfc hQ rest _ _ (kput _ hk fun t ht => zb2 ht) h3⟩
    | some p =>
      obtain ⟨j, want⟩ := p
      simp only [zj1, hg] at h
      dsimp only
      cases ht : (ops[j]?).bind (·.dst) with
      | none => rw [ht] at h; cases h
      | some t =>
        rw [ht] at h
        dsimp only at h ⊢
        by_cases hd : o.dst = some t
        · rw [if_pos hd] at h; cases h
        rw [if_neg hd] at h ⊢
        have go : ∀ b, st.ev (.tmp t) = .val (.bool b) → (b = want → (∃ e, zut P cfg call o st = some e ∧ ckX f nY o st (st.app o.dst (e.eff st.H)) ∧ zr1 P cfg call ops nY rest (st.app o.dst (e.eff st.H)) = some st')) ∧
            (b = !want → zr1 P cfg call ops nY rest (st.put o.dst (.val (.tup []))) = some st') := by
          intro b hb
          rw [hb] at h
          dsimp only at h
          refine ⟨fun hw => ?_, fun hw => ?_⟩
          · subst hw
            rw [beq_self_eq_true] at h
            dsimp only at h
            cases h1 : zut P cfg call o st with
            | none => rw [h1] at h; cases h
            | some e => rw [h1] at h; exact ⟨e, rfl, one e h⟩
          · subst hw
            have : ((!want) == want) = false := by cases want <;> rfl
            rw [this] at h
            exact h
        split
        · rename_i hkn
          subst hkn
          obtain ⟨t', ht', hv⟩ := hk
          rw [ht] at ht'; simp only [Option.some.injEq] at ht'; subst ht'
          obtain ⟨e, h1, h2, h3⟩ := (go _ hv).1 rfl
          exact zhh hcall (K := fun s => ckX f nY o st s ∧ exD P cfg ops nY _ rest Q s) h1 ⟨h2, zfc hQ rest _ _ (zd0 ht hd hv fun t ht => zb2 ht) h3⟩
        split
        · rename_i hkn
          subst hkn
          obtain ⟨t', ht', hv⟩ := hk
          rw [ht] at ht'; simp only [Option.some.injEq] at ht'; subst ht'
          exact zfc hQ rest _ _ (zd0 ht hd hv fun t ht => zbj ht) ((go _ hv).2 rfl)
        cases hb : (st.ev (.tmp t)).asB with
        | none =>
          dsimp only
          have hu : (st.ev (.tmp t)).isU = true ∧ zr1 P cfg call ops nY rest (st.put o.dst (.val (.tup []))) = some st' := by
            split at h
            · cases h
            · rename_i heq
              split at heq
              · rename_i he; rw [he] at hb; cases hb
              · cases heq
              · cases heq
            · rename_i heq
              split at heq
              · rename_i he; rw [he] at hb; cases hb
              · rename_i he; rw [he]; exact ⟨rfl, h⟩
              · cases heq
          rw [if_pos hu.1]
          exact zfc hQ rest _ _ (kput _ hk fun t ht => zbj ht) hu.2
        | some b =>
          dsimp only
          obtain ⟨hu, hv⟩ := zuk hb
          refine ⟨fun hw => ?_, fun hw => ?_⟩
          · obtain ⟨e, h1, h2, h3⟩ := (go _ hv).1 hw
            subst hw
            rw [hu]
            exact zhh hcall (K := fun s => ckX f nY o st s ∧ exD P cfg ops nY _ rest Q s) h1 ⟨h2, zfc hQ rest _ _ (zd0 ht hd hv fun t ht => zb2 ht) h3⟩
          · have h2 := (go _ hv).2 hw
            rw [← hw, hu]
            exact zfc hQ rest _ _ (zd0 ht hd hv fun t ht => zbj ht) h2
mutual
theorem zr3 {ops : Array Oper} {nY : NY} {Q : St → Prop} : ∀ (t : DTr) (st : St) (l : List St), z3u P cfg call ops nY t st = some l → (∀ s ∈ l, Q s) → exT P cfg ops nY t Q st
  | .lin fl, st, l, h, hQ => by
    simp only [z3u, Option.map_eq_some_iff] at h
    obtain ⟨s, h1, rfl⟩ := h
    simp only [exT]
    exact zfc hcall (hQ s (by simp)) fl none st trivial h1
  | .alt fl bs, st, l, h, hQ => by
    simp only [z3u] at h
    simp only [exT]
    split at h
    · cases h
    · rename_i s hs
      exact zfc hcall (Q := fun s => exB P cfg ops nY bs Q s) (zr0 bs s l h hQ) fl none st trivial hs
theorem zr0 {ops : Array Oper} {nY : NY} {Q : St → Prop} : ∀ (bs : DBr) (st : St) (l : List St), z7w P cfg call ops nY bs st = some l → (∀ s ∈ l, Q s) → exB P cfg ops nY bs Q st
  | .nil, st, l, h, hQ => by simp [exB]
  | .cons i q t r, st, l, h, hQ => by
    simp only [z7w] at h
    simp only [exB]
    split at h
    · cases h
    · rename_i s hs
      split at h
      · cases h
      · rename_i x hx
        split at h
        · cases h
        · rename_i y hy
          cases h
          exact ⟨zfc hcall (Q := fun s => exT P cfg ops nY t Q s) (zr3 t s x hx (fun s' hs' => hQ s' (by simp [hs']))) _ none st trivial hs, zr0 r st y hy (fun s' hs' => hQ s' (by simp [hs']))⟩
end
omit hcall in
theorem zia {f : XE → St → Option zpl} : ∀ {o o' : zpl}, zps f o = some o' → ∀ p ∈ o, ∃ x, f p.1 p.2 = some x ∧ ∀ q ∈ x, q ∈ o'
  | [], o', h, p, hp => by simp at hp
  | (e, s) :: r, o', h, p, hp => by
    unfold zps at h
    split at h
    · cases h
    · rename_i x hx
      split at h
      · cases h
        simp only [List.mem_singleton] at hp
        subst hp
        exact ⟨_, hx, fun q hq => hq⟩
      · split at h
        · cases h
        · rename_i y hy
          cases h
          rcases List.mem_cons.1 hp with rfl | hp
          · exact ⟨x, hx, fun q hq => by simp [hq]⟩
          · obtain ⟨z, h1, h2⟩ := zia hy p hp
            exact ⟨z, h1, fun q hq => by simp [h2 q hq]⟩
theorem zgp {ord : Nat → Option (List Nat × (Bool × List Nat) × List (Nat × List Nat) × List Nat × DTr)} {lf : Nat} : ∀ (c : Code) (Q : XE → St → Prop) (st : St) (o : zpl), zjm P cfg call ord lf c st = some o → (∀ p ∈ o, Q p.1 p.2) → Ex P cfg (zvc P cfg) c Q st
  | .skip, Q, st, o, h, hQ => by simp only [zjm, Option.some.injEq] at h; subst h; exact hQ (.normal, st) (by simp)
  | .exit id, Q, st, o, h, hQ => by simp only [zjm, Option.some.injEq] at h; subst h; exact hQ (.exit id, st) (by simp)
  | .ret, Q, st, o, h, hQ => by simp only [zjm, Option.some.injEq] at h; subst h; exact hQ (.ret, st) (by simp)
  | .region id ops d, Q, st, o, h, hQ => by
    unfold zjm at h; unfold Ex
    cases d with
    | true =>
      simp only [if_true] at h ⊢
      split at h
      · cases h
      · rename_i nY wm kw ch t ho
        split at h
        · rename_i hc
          simp only [Bool.and_eq_true, beq_iff_eq] at hc
          obtain ⟨⟨⟨⟨c1, c2⟩, c3⟩, c4⟩, c5⟩ := hc
          simp only [Option.map_eq_some_iff] at h
          obtain ⟨l, h1, rfl⟩ := h
          exact ⟨⟨nY, _, kw⟩, ch, t, c1, c2, c3, c4, c5, zr3 hcall t st l h1 (fun s hs => hQ (.normal, s) (by simp [hs]))⟩
        · cases h
    | false =>
      simp only [Bool.false_eq_true, if_false, Option.map_eq_some_iff] at h ⊢
      obtain ⟨s, h1, rfl⟩ := h
      exact zd7 hcall (hQ (.normal, s) (by simp)) _ _ _ trivial h1
  | .seq x y, Q, st, o, h, hQ => by
    unfold zjm at h; unfold Ex
    split at h
    · cases h
    · rename_i o1 h1
      refine zgp x _ st o1 h1 fun p hp => ?_
      obtain ⟨z, h2, h3⟩ := zia h p hp
      obtain ⟨e, s⟩ := p
      cases e with
      | normal => exact zgp y Q s z h2 (fun q hq => hQ q (h3 q hq))
      | exit i => simp only [Option.some.injEq] at h2; subst h2; exact hQ (.exit i, s) (h3 _ (by simp))
      | ret => simp only [Option.some.injEq] at h2; subst h2; exact hQ (.ret, s) (h3 _ (by simp))
  | .cond c x y, Q, st, o, h, hQ => by
    unfold zjm at h; unfold Ex
    split at h
    · rename_i hb; rw [hb]; exact ⟨fun _ => zgp x _ st _ h hQ, fun hh => by cases hh⟩
    · rename_i hb; rw [hb]; exact ⟨fun hh => (by cases hh), fun _ => zgp y _ st _ h hQ⟩
    · cases h
  | .block id c, Q, st, o, h, hQ => by
    unfold zjm at h; unfold Ex
    split at h
    · cases h
    · rename_i o1 h1
      refine zgp c _ st o1 h1 fun p hp => ?_
      obtain ⟨z, h2, h3⟩ := zia h p hp
      obtain ⟨e, s⟩ := p
      cases e with
      | normal => simp only [Option.some.injEq] at h2; subst h2; exact hQ (.normal, s) (h3 _ (by simp))
      | exit i =>
        dsimp only at h2 ⊢
        split at h2
        · rename_i hi; rw [if_pos hi]; simp only [Option.some.injEq] at h2; subst h2; exact hQ (.normal, s) (h3 _ (by simp))
        · rename_i hi; rw [if_neg hi]; simp only [Option.some.injEq] at h2; subst h2; exact hQ (.exit i, s) (h3 _ (by simp))
      | ret => simp only [Option.some.injEq] at h2; subst h2; exact hQ (.ret, s) (h3 _ (by simp))
  | .loop c, Q, st, o, h, hQ => by
    unfold zjm at h; unfold Ex
    rw [zr4, zxp] at h
    refine ⟨keysL st.L (zvv st.env []), lf, ?_⟩
    generalize keysL st.L (zvv st.env []) = ks at h ⊢
    have go : ∀ n s o, zjd (zjm P cfg call ord lf c) ks n s = some o → (∀ p ∈ o, Q p.1 p.2) → zff (Ex P cfg (zvc P cfg) c) ks Q n s := by
      intro n
      induction n with
      | zero => intro s o h; simp [zjd] at h
      | succ n ih =>
        intro s o h hQ
        unfold zjd at h
        unfold zff
        split at h
        · cases h
        · rename_i o1 h1
          refine zgp c _ s o1 h1 fun p hp => ?_
          obtain ⟨z, h2, h3⟩ := zia h p hp
          obtain ⟨e, s'⟩ := p
          cases e with
          | normal =>
            dsimp only at h2 ⊢
            rw [zxp] at h2
            exact ih _ z h2 (fun q hq => hQ q (h3 q hq))
          | exit i => simp only [Option.some.injEq] at h2; subst h2; exact hQ (.exit i, s') (h3 _ (by simp))
          | ret => simp only [Option.some.injEq] at h2; subst h2; exact hQ (.ret, s') (h3 _ (by simp))
    exact go lf _ o h hQ
  | .rangeFunc .., Q, st, o, h, hQ => by simp [zjm] at h
  | .scope _, Q, st, o, h, hQ => by simp [zjm] at h
  | .label _, Q, st, o, h, hQ => by simp [zjm] at h
  | .goto _, Q, st, o, h, hQ => by simp [zjm] at h
  | .refuse _, Q, st, o, h, hQ => by simp [zjm] at h
end
theorem enters_of {P : Program} {f : Nat} {fn : Func} (hf : P.funcs[f]? = some fn) (hb : fn.body.isSome = true) (hn : (fn.name == "runtime.NumGoroutine") = false) : Enters P f := by
  intro args w
  obtain ⟨c, hc⟩ := Option.isSome_iff_exists.1 hb
  have h1 : fn.name ≠ "runtime.NumGoroutine" := by simpa using hn
  simp [callFunc, hf, h1, hc]
def zxt : List Nat → Nat → Nat → Option Nat
  | [], _, _ => none
  | k :: r, id, j => if k = id then some j else zxt r id (j + 1)
theorem zi3 {id : Nat} : ∀ {l : List Nat} {j m : Nat}, zxt l id j = some m → ∃ i, m = j + i ∧ l[i]? = some id
  | [], j, m, h => by simp [zxt] at h
  | k :: r, j, m, h => by
    unfold zxt at h
    split at h
    · rename_i hk; cases h; exact ⟨0, rfl, by simp [hk]⟩
    · obtain ⟨i, h1, h2⟩ := zi3 h
      exact ⟨i + 1, by omega, by simpa using h2⟩
theorem zl4 {id : Nat} : ∀ {l : List Nat} {j : Nat}, zxt l id j = none → id ∉ l
  | [], j, h => by simp
  | k :: r, j, h => by
    unfold zxt at h
    split at h
    · cases h
    · rename_i hk
      simp only [List.mem_cons, not_or]
      exact ⟨fun hh => hk hh.symm, zl4 h⟩
def zx5 (f : AV → Option AV) : List AV → Option (List AV)
  | [] => some []
  | a :: r => match f a with
    | none => none
    | some b => match zx5 f r with
      | none => none
      | some r' => some (b :: r')
theorem zg3 {n₀ : Nat} {keep : List Nat} {H : List (List AV)} {f : AV → Option AV} (hf : ∀ v v', f v = some v' → Fr n₀ keep H v v') : ∀ {l l' : List AV}, zx5 f l = some l' → Frs n₀ keep H l l'
  | [], l', h => by simp only [zx5, Option.some.injEq] at h; subst h; exact Frs.nil
  | a :: r, l', h => by
    unfold zx5 at h
    split at h
    · cases h
    · rename_i b hb
      split at h
      · cases h
      · rename_i r' hr
        cases h
        exact Frs.cons (hf _ _ hb) (zg3 hf hr)
def frV (n₀ : Nat) (keep : List Nat) (H : List (List AV)) : Nat → AV → Option AV
  | 0, _ => none
  | d + 1, v =>
    if mx v ≤ n₀ then some v else
    match v with
    | .slm id gen off len sz =>
      match H[id]? with
      | none => none
      | some cs =>
        if cs.length = gen then
          match zxt keep id 0 with
          | some j => some (.slm (n₀ + j) gen off len sz)
          | none => if n₀ ≤ id then (match gc cs off (len * sz) with
            | none => none
            | some l => (zx5 (frV n₀ keep H d) l).map (.sl none len)) else none
        else none
    | .eptr (.slm id gen off len sz) o =>
      match H[id]?, zxt keep id 0 with
      | some cs, some j => if cs.length = gen then some (.eptr (.slm (n₀ + j) gen off len sz) o) else none
      | _, _ => none
    | .agg l => (zx5 (frV n₀ keep H d) l).map .agg
    | .tup l => (zx5 (frV n₀ keep H d) l).map .tup
    | _ => none
theorem zly {n₀ : Nat} {keep : List Nat} {H : List (List AV)} : ∀ {d : Nat} {v v' : AV}, frV n₀ keep H d v = some v' → Fr n₀ keep H v v'
  | 0, v, v', h => by simp [frV] at h
  | d + 1, v, v', h => by
    unfold frV at h
    split at h
    · rename_i hm; cases h; exact Fr.old hm
    split at h
    · split at h
      · cases h
      · rename_i cs hc
        split at h
        · rename_i hg
          split at h
          · rename_i j hj
            cases h
            obtain ⟨i, h1, h2⟩ := zi3 hj
            rw [h1, Nat.zero_add]
            exact Fr.kp h2 hc hg
          · rename_i hj
            split at h
            · rename_i hid
              split at h
              · cases h
              · rename_i l hl
                simp only [Option.map_eq_some_iff] at h
                obtain ⟨l', h1, rfl⟩ := h
                exact Fr.fz hid (zl4 hj) hc hg hl (zg3 (fun _ _ hh => zly hh) h1)
            · cases h
        · cases h
    · split at h
      · rename_i cs j hc hj
        split at h
        · rename_i hg
          cases h
          obtain ⟨i, h1, h2⟩ := zi3 hj
          rw [h1, Nat.zero_add]
          exact Fr.kpp h2 hc hg
        · cases h
      · cases h
    · simp only [Option.map_eq_some_iff] at h
      obtain ⟨l', h1, rfl⟩ := h
      exact Fr.agg (zg3 (fun _ _ hh => zly hh) h1)
    · simp only [Option.map_eq_some_iff] at h
      obtain ⟨l', h1, rfl⟩ := h
      exact Fr.tup (zg3 (fun _ _ hh => zly hh) h1)
    · cases h
mutual
def qah (sl : Bool) : AV → List Nat → List Nat
  | .slm id _ _ _ _, ks => if sl then (if ks.contains id then ks else ks ++ [id]) else ks
  | .eptr s _, ks => match s with
    | .slm id _ _ _ _ => if ks.contains id then ks else ks ++ [id]
    | _ => ks
  | .agg l, ks => zqj sl l ks
  | .tup l, ks => zqj sl l ks
  | _, ks => ks
def zqj (sl : Bool) : List AV → List Nat → List Nat
  | [], ks => ks
  | v :: r, ks => zqj sl r (qah sl v ks)
end
def zn3 (n₀ : Nat) (H : List (List AV)) : Nat → List Nat → List Nat → List Nat
  | 0, _, acc => acc
  | _ + 1, [], acc => acc
  | n + 1, k :: todo, acc => if k < n₀ || acc.contains k then zn3 n₀ H n todo acc else zn3 n₀ H n (zqj true ((H[k]?).getD []) [] ++ todo) (acc ++ [k])
def zta (n₀ : Nat) : Nat → List (List AV) → List Nat → List Nat
  | 0, _, ks => ks
  | _ + 1, [], ks => ks
  | n + 1, cs :: r, ks => zta n₀ n r (if mxL cs ≤ n₀ then ks else zqj true cs ks)
def frB (n₀ : Nat) (keep : List Nat) (H : List (List AV)) (cs : List AV) : Option (List AV) :=
  if mxL cs ≤ n₀ then some cs else zx5 (frV n₀ keep H 40) cs
def z2h (f : List AV → Option (List AV)) : List (List AV) → Option (List (List AV))
  | [] => some []
  | a :: r => match f a with
    | none => none
    | some b => match z2h f r with
      | none => none
      | some r' => some (b :: r')
theorem zm6 {f : List AV → Option (List AV)} : ∀ {l l' : List (List AV)}, z2h f l = some l' → l'.length = l.length ∧ ∀ (i : Nat) c', l'[i]? = some c' → ∃ c, l[i]? = some c ∧ f c = some c'
  | [], l', h => by simp only [z2h, Option.some.injEq] at h; subst h; exact ⟨rfl, fun i c' h => by simp at h⟩
  | a :: r, l', h => by
    unfold z2h at h
    split at h
    · cases h
    · rename_i b hb
      split at h
      · cases h
      · rename_i r' hr
        cases h
        obtain ⟨h1, h2⟩ := zm6 hr
        refine ⟨by simp [h1], fun i c' hc => ?_⟩
        cases i with
        | zero => simp at hc; subst hc; exact ⟨a, by simp, hb⟩
        | succ i => simpa using h2 i c' (by simpa using hc)
theorem zxs {n₀ : Nat} {keep : List Nat} {H : List (List AV)} {cs cs' : List AV} (h : frB n₀ keep H cs = some cs') : cs'.length = cs.length ∧ Frs n₀ keep H cs cs' := by
  unfold frB at h
  have key : Frs n₀ keep H cs cs' := by
    split at h
    · rename_i hm; cases h; exact Frs.old hm
    · exact zg3 (fun _ _ hh => zly hh) h
  exact ⟨by obtain ⟨d, h⟩ := key; exact h.1.symm, key⟩
def zor : List Nat → Bool
  | [] => true
  | a :: r => !r.contains a && zor r
theorem zma : ∀ {l : List Nat}, zor l = true → l.Nodup
  | [], _ => List.nodup_nil
  | a :: r, h => by
    simp only [zor, Bool.and_eq_true, Bool.not_eq_true'] at h
    exact List.nodup_cons.2 ⟨by simpa using h.1, zma h.2⟩
def z2k (P : Program) (sl : Bool) (fn : Func) (n₀ : Nat) (st : St) : Option (AV × List (List AV)) :=
  match (fn.results.toList.map (resV P st)).mapM id with
  | none => none
  | some vs =>
    fL vs fun vs => fNs (zn3 n₀ st.H 10000 (zta n₀ n₀ st.H (zqj sl vs [])) []) fun keep =>
    if zor keep && keep.all (fun k => decide (n₀ ≤ k) && decide (k < st.H.length)) && decide (n₀ ≤ st.H.length) then
      match frV n₀ keep st.H 40 (zaf vs), z2h (frB n₀ keep st.H) (st.H.take n₀), z2h (frB n₀ keep st.H) (keep.map fun k => (st.H[k]?).getD []) with
      | some r, some A, some B => fV r fun r => fH (A ++ B) fun H' => kN H'.length fun n => if H'.all (fun cs => decide (mxL cs ≤ n)) then some (r, H') else none
      | _, _, _ => none
    else none
theorem zts {P : Program} {sl : Bool} {fn : Func} {H₀ : List (List AV)} {st : St} {r : AV} {H' : List (List AV)} {e : XE} (he : match e with | .exit _ => False | _ => True) (h : z2k P sl fn H₀.length st = some (r, H')) : zys P fn H₀ r H' e st := by
  unfold z2k at h
  split at h
  · cases h
  · rename_i vs hv
    rw [zjq, zr4] at h
    generalize zn3 _ _ _ _ _ = keep at h
    split at h
    · rename_i hk
      simp only [Bool.and_eq_true, List.all_eq_true, decide_eq_true_eq] at hk
      obtain ⟨⟨hk1, hk2⟩, hk3⟩ := hk
      split at h
      · rename_i r' A B hr hA hB
        rw [zvg, zvf, zgb] at h
        split at h
        · rename_i hmx
          simp only [Option.some.injEq, Prod.mk.injEq] at h
          obtain ⟨rfl, rfl⟩ := h
          obtain ⟨a1, a2⟩ := zm6 hA
          obtain ⟨b1, b2⟩ := zm6 hB
          have hal : A.length = H₀.length := by rw [a1, List.length_take]; omega
          refine ⟨he, vs, keep, hv, zma hk1, fun k hkk => ?_, ⟨by simp [hal, b1], fun id cs' hc => ⟨?_, ?_⟩⟩, zly hr⟩
          · obtain ⟨h1, h2⟩ := hk2 k hkk
            exact ⟨h1, st.H[k], by simp [h2]⟩
          · simp only [List.all_eq_true, decide_eq_true_eq] at hmx
            exact hmx cs' (List.mem_of_getElem? hc)
          · by_cases hid : id < H₀.length
            · rw [List.getElem?_append_left (by omega)] at hc
              obtain ⟨cs, h1, h2⟩ := a2 id cs' hc
              rw [List.getElem?_take, if_pos hid] at h1
              exact ⟨id, cs, h1, .inl ⟨hid, rfl⟩, zxs h2⟩
            · rw [List.getElem?_append_right (by omega), hal] at hc
              obtain ⟨cs, h1, h2⟩ := b2 _ cs' hc
              rw [List.getElem?_map, Option.map_eq_some_iff] at h1
              obtain ⟨k, h3, h4⟩ := h1
              have hlt := (hk2 k (List.mem_of_getElem? h3)).2
              refine ⟨k, cs, ?_, .inr ⟨by omega, h3⟩, zxs h2⟩
              rw [List.getElem?_eq_getElem hlt] at h4 ⊢
              simpa using h4
        · cases h
      · cases h
    · cases h
def z2d (P : Program) (sl : Bool) (fn : Func) (n₀ : Nat) (r : AV) (H' : List (List AV)) : zpl → Bool
  | [] => true
  | (.exit _, _) :: _ => false
  | (_, st) :: l => (match z2k P sl fn n₀ st with
    | some (r', H'') => eqV r' r && H''.length == H'.length && zye H'' H'
    | none => false) && z2d P sl fn n₀ r H' l
def ztb (P : Program) (sl : Bool) (fn : Func) (n₀ : Nat) : zpl → Option (AV × List (List AV))
  | [] => none
  | (.exit _, _) :: _ => none
  | (_, st) :: l => match z2k P sl fn n₀ st with
    | none => none
    | some (r, H') => if z2d P sl fn n₀ r H' l then some (r, H') else none
theorem z0u {a b : List (List AV)} (hl : a.length = b.length) (h : zye a b = true) : a = b := by
  apply List.ext_getElem? 
  intro i
  rcases Nat.lt_or_ge i a.length with hi | hi
  · exact (znb h i hi).symm
  · rw [List.getElem?_eq_none hi, List.getElem?_eq_none (by omega)]
theorem zq2 {P : Program} {sl : Bool} {fn : Func} {H₀ : List (List AV)} {r : AV} {H' : List (List AV)} : ∀ {l : zpl}, z2d P sl fn H₀.length r H' l = true → ∀ p ∈ l, zys P fn H₀ r H' p.1 p.2
  | [], h, p, hp => by simp at hp
  | (e, st) :: l, h, p, hp => by
    have key : (match e with | .exit _ => False | _ => True) ∧ (match z2k P sl fn H₀.length st with | some (r', H'') => eqV r' r && H''.length == H'.length && zye H'' H' | none => false) = true ∧ z2d P sl fn H₀.length r H' l = true := by
      cases e <;> simp only [z2d, Bool.and_eq_true, Bool.false_eq_true] at h
      · exact ⟨trivial, h.1, h.2⟩
      · exact ⟨trivial, h.1, h.2⟩
    obtain ⟨h1, h2, h3⟩ := key
    rcases List.mem_cons.1 hp with rfl | hp
    · split at h2
      · rename_i r' H'' hr
        simp only [Bool.and_eq_true, beq_iff_eq] at h2
        have e1 := zrx h2.1.1
        have e2 := z0u h2.1.2 h2.2
        subst e1 e2
        exact zts (by cases e <;> exact h1) hr
      · cases h2
    · exact zq2 h3 p hp
theorem ztc {P : Program} {sl : Bool} {fn : Func} {H₀ : List (List AV)} {r : AV} {H' : List (List AV)} {l : zpl} (h : ztb P sl fn H₀.length l = some (r, H')) : ∀ p ∈ l, zys P fn H₀ r H' p.1 p.2 := by
  cases l with
  | nil => intro p hp; simp at hp
  | cons q l =>
    obtain ⟨e, st⟩ := q
    have key : (match e with | .exit _ => False | _ => True) ∧ z2k P sl fn H₀.length st = some (r, H') ∧ z2d P sl fn H₀.length r H' l = true := by
      cases e <;> simp only [ztb, reduceCtorEq] at h
      all_goals
        split at h
        · cases h
        · rename_i r' H'' hr
          split at h
          · rename_i ha; cases h; exact ⟨trivial, hr, ha⟩
          · cases h
    obtain ⟨h1, h2, h3⟩ := key
    intro p hp
    rcases List.mem_cons.1 hp with rfl | hp
    · exact zts (by cases e <;> exact h1) h2
    · exact zq2 h3 p hp
def z09 (P : Program) (T : RunT) (lf : Nat) : Nat → Nat → List AV → List (List AV) → Option (AV × List (List AV))
  | 0, _, _, _ => none
  | n + 1, f, args, H =>
    match T.intr f args with
    | some r => some (r, H)
    | none =>
      match P.funcs[f]? with
      | none => none
      | some fn =>
        match fn.body with
        | none => none
        | some body =>
          if zdg fn.ntmps body && decide (args.length ≤ fn.ntmps) && !(fn.name == "runtime.NumGoroutine") then
            kN H.length fun n₀ =>
            match zjm P ⟨T.esc f, 0, T.fz f⟩ (z09 P T lf n) (T.ord f) lf body ⟨za0 0 args, [], H⟩ with
            | none => none
            | some o => ztb P (T.kp f) fn n₀ o
          else none
theorem z1a {P : Program} {T : RunT} {lf : Nat} (hm : P.follows .mixedOrders = true) (hi : ∀ f args r H, T.intr f args = some r → zaa P f args H r H) :
    ∀ (n f : Nat) (args : List AV) (H : List (List AV)) (r : AV) (H' : List (List AV)), z09 P T lf n f args H = some (r, H') → zaa P f args H r H' := by
  intro n
  induction n with
  | zero => intro f args H r H' h; simp [z09] at h
  | succ n ih =>
    intro f args H r H' h
    unfold z09 at h
    split at h
    · rename_i r' hr; cases h; exact hi _ _ _ _ hr
    split at h
    · cases h
    rename_i fn hf
    split at h
    · cases h
    rename_i body hb
    split at h
    · rename_i hc
      simp only [Bool.and_eq_true, decide_eq_true_eq, Bool.not_eq_true'] at hc
      rw [zgb] at h
      refine .inl ⟨enters_of hf (by rw [hb]; rfl) hc.2, Spec.introL hf hb hc.1.1 hc.1.2 (T.esc f) (T.fz f) (draw := zvc P ⟨T.esc f, 0, T.fz f⟩) (fun C h1 h2 => ?_) ?_⟩
      · subst h1; rw [← h2]; exact zvd hm
      · split at h
        · cases h
        · rename_i o ho
          exact zgp (call := z09 P T lf n) ih body _ _ o ho (ztc h)
    · cases h
def gh0 (g : Gh) : Gh := ⟨fun _ _ => none, g.Fz⟩
def gh1 (g g' : Gh) : Gh := ⟨g.ρ, g'.Fz⟩
theorem zve (w : World) (g g' : Gh) (h : g.Fz = g'.Fz) : ExtN 0 w g w g' := ⟨fun b hb => h ▸ hb, fun _ _ => rfl, fun id _ _ hid => by omega, fun _ _ h => h⟩
theorem Spec.frame {P : Program} {f : Nat} {args : List AV} {r : AV} (h : Spec P f args [] r []) (ha : mxL args = 0) (hr : mx r = 0) (H : List (List AV)) : Spec P f args H r H := by
  intro w g cargs hw hl
  have hw0 : WRep w (gh0 g) [] := {
    blk := fun id cs hc => by simp at hc
    inj := fun id id' cs cs' b δ δ' hc => by simp at hc
    fzlt := hw.fzlt
    rholt := fun id gen b δ hh => by simp [gh0] at hh
    rhoid := fun id gen p hh => by simp [gh0] at hh }
  have hl0 : zbq w (gh0 g) args cargs.toList := zbq.extN (zve w g (gh0 g) rfl) _ _ (by omega) hl
  refine (h w (gh0 g) cargs hw0 hl0).mono fun e w' ⟨v, g', he, hw', hs, hv⟩ => ?_
  have keep : ∀ b, b < w.heap.size → w'.heap[b]? = w.heap[b]? := fun b hb => hs.keep b hb (by rintro ⟨id, cs, δ, hc, _⟩; simp at hc)
  have ex : Ext w g w' (gh1 g g') := ⟨hs.fz, fun b hb => keep b (hw.fzlt b hb), fun _ _ _ h => h, hs.bszk⟩
  refine ⟨v, gh1 g g', he, ?_, ?_, zay.extN (zve w' g' (gh1 g g') rfl) _ _ (by omega) hv⟩
  · exact {
      blk := fun id cs hc => by
        obtain ⟨b, δ, c, e, h1, h2, h3, h4, h5, h6⟩ := hw.blk id cs hc
        have hb := hw.rholt _ _ _ _ h1
        refine ⟨b, δ, c, e, h1, by rw [keep b hb]; exact h2, h3, zdi.ext ex (keep b hb) h4, fun hf => h5 (hs.fznew b hf hb), h6⟩
      inj := hw.inj
      fzlt := hw'.fzlt
      rholt := fun id gen b δ hh => Nat.lt_of_lt_of_le (hw.rholt _ _ _ _ hh) hs.sz
      rhoid := hw.rhoid }
  · exact {
      sz := hs.sz
      keep := fun b hb _ => keep b hb
      bszk := hs.bszk
      fro := hs.fro
      fz := hs.fz
      fznew := hs.fznew
      rho := fun _ _ _ h => h
      hbi := fun id cs b δ _ hc hh => ⟨cs, hc, hh⟩
      len := Nat.le_refl _
      same := hs.same }
theorem zaa.frame {P : Program} {f : Nat} {args : List AV} {r : AV} (h : zaa P f args [] r []) (ha : mxL args = 0) (hr : mx r = 0) (H : List (List AV)) : zaa P f args H r H := by
  rcases h with ⟨h1, h2⟩ | ⟨_, h2⟩
  · exact .inl ⟨h1, h2.frame ha hr H⟩
  · refine .inr ⟨rfl, fun w g cargs hl => ?_⟩
    obtain ⟨v, h3, h4⟩ := h2 w (gh0 g) cargs (zbq.extN (zve w g (gh0 g) rfl) _ _ (by omega) hl)
    exact ⟨v, h3, zay.extN (zve w (gh0 g) g rfl) _ _ (by omega) h4⟩
theorem z6f {P : Program} {T : RunT} (hm : P.follows .mixedOrders = true) (hi : ∀ f args r H, T.intr f args = some r → zaa P f args H r H) (lf n f : Nat) (args : List AV) (r : AV) (ha : mxL args = 0) (hr : mx r = 0)
    (h : z09 P T lf n f args [] = some (r, [])) (H : List (List AV)) : zaa P f args H r H := (z1a hm hi _ _ _ _ _ _ h).frame ha hr H
end Go.Sx
set_option linter.unusedVariables false
namespace Go.Sx
def qbt (l : List (Nat × Nat × List Nat × (Bool × List Nat) × List (Nat × List Nat) × List Nat × DTr)) (f id : Nat) : Option (List Nat × (Bool × List Nat) × List (Nat × List Nat) × List Nat × DTr) :=
  match l with
  | [] => none
  | (a, b, r) :: t => match Nat.beq a f && Nat.beq b id with
    | true => some r
    | false => qbt t f id
section
variable {P : Program} {f : Nat} {fn : Func} (h1 : P.funcs[f]? = some fn) (h2 : (fn.name == "runtime.NumGoroutine") = false) (h3 : fn.body.isNone = true) (h4 : Extern.findNext fn = none)
include h1 h2 h3 h4
theorem z3j (h5 : Extern.find fn = some Extern.MathFloatBits.float64bits) (b : Nat) (w : World) : (callFunc f #[.float .f64 b]).run P w = .ok (.value (.int .u64 b)) w := by
  rw [run_callFunc_extern h1 h2 h3 h4 h5]
  rfl
theorem z9s (h5 : Extern.find fn = some Extern.MathFloatBits.float64frombits) (n : Int) (w : World) : (callFunc f #[.int .u64 n]).run P w = .ok (.value (.float .f64 n.toNat)) w := by
  rw [run_callFunc_extern h1 h2 h3 h4 h5]
  rfl
theorem zuq (h5 : Extern.find fn = some Extern.MathFloatBits.float64bits) (H : List (List AV)) (b : Nat) : zaa P f [.fraw b] H (.int .u64 b) H := by
  refine .inr ⟨rfl, fun w g cargs h => ?_⟩
  simp only [zbq] at h
  obtain ⟨v, r, hv, h6, rfl⟩ := h
  simp only [zay] at h6
  obtain ⟨rfl, _⟩ := h6
  have : cargs = #[.float .f64 b] := Array.ext' hv
  subst this
  exact ⟨_, z3j h1 h2 h3 h4 h5 b w, by simp [zay]⟩
theorem zup (h5 : Extern.find fn = some Extern.MathFloatBits.float64bits) (H : List (List AV)) (b : Nat) (hn : ¬ isNaN b = true) : zaa P f [.flt b] H (.int .u64 b) H := by
  refine .inr ⟨rfl, fun w g cargs h => ?_⟩
  simp only [zbq] at h
  obtain ⟨v, r, hv, h6, rfl⟩ := h
  simp only [zay] at h6
  obtain ⟨c, rfl, _, hc⟩ := h6
  have hcb : c = b := by
    unfold cn at hc
    split at hc
    · exfalso; apply hn; rw [← hc]; decide
    · exact hc
  subst hcb
  have : cargs = #[.float .f64 c] := Array.ext' hv
  subst this
  exact ⟨_, z3j h1 h2 h3 h4 h5 c w, by simp [zay]⟩
theorem qbk (h5 : Extern.find fn = some Extern.MathFloatBits.float64frombits) (H : List (List AV)) (n : Int) (hn : 0 ≤ n ∧ n ≤ 18446744073709551615) : zaa P f [.int .u64 n] H (.fraw n.toNat) H := by
  refine .inr ⟨rfl, fun w g cargs h => ?_⟩
  simp only [zbq] at h
  obtain ⟨v, r, hv, h6, rfl⟩ := h
  simp only [zay] at h6
  subst h6
  have : cargs = #[.int .u64 n] := Array.ext' hv
  subst this
  exact ⟨_, z9s h1 h2 h3 h4 h5 n w, by simp only [zay]; exact ⟨trivial, by omega⟩⟩
end
theorem zay.fl {w : World} {g : Gh} {b x : Nat} {v : Value} (h : zay w g (.fraw b) v) (hx : cn b = x) : zay w g (.flt x) v := by
  simp only [zay] at h ⊢
  exact ⟨b, h.1, h.2, hx⟩
theorem zaa.fl {P : Program} {f : Nat} {args : List AV} {H H' : List (List AV)} {b x : Nat} (h : zaa P f args H (.fraw b) H') (hx : cn b = x) : zaa P f args H (.flt x) H' := by
  rcases h with ⟨h1, h2⟩ | ⟨rfl, h2⟩
  · exact .inl ⟨h1, fun w g cargs hw hl => (h2 w g cargs hw hl).mono fun e w' ⟨v, g', a, b, c, d⟩ => ⟨v, g', a, b, c, d.fl hx⟩⟩
  · exact .inr ⟨rfl, fun w g cargs hl => (h2 w g cargs hl).imp fun v h => ⟨h.1, h.2.fl hx⟩⟩
end Go.Sx
set_option linter.unusedVariables false
set_option maxRecDepth 20000
namespace Go.Sx
open Go.Proofs
def fzL : List (Nat × List Nat) := [(18, [13, 15, 24, 25]), (66, [46]), (101, [21]), (127, [35]), (130, [15]), (175, [12])]
def qci : List Nat := [21, 43, 65, 102, 148, 150, 152, 154, 166]
def qdd : List (Nat × Nat × List Nat × (Bool × List Nat) × List (Nat × List Nat) × List Nat × DTr) := [(39, 7, [], (false, []), [], [14], .lin [(0, .lt), (1, .ld true), (2, .lt), (3, .lt), (4, .lt), (5, .lt), (6, .lt), (7, .lt), (8, .lt), (9, .ld true), (10, .lt), (11, .lt), (12, .lt), (13, .lt), (14, .mn false)]),
  (65, 6, [], (false, [3, 10, 11]), [], [2, 5], .lin [(0, .ld true), (1, .ld true), (3, .ld false), (4, .ld false), (2, .mn false), (5, .mn false), (6, .lt), (7, .lt), (8, .lt)]),
  (66, 9, [], (false, []), [], [], .lin [(0, .lt), (2, .lt), (3, .lt), (4, .lt), (5, .lt), (6, .ld true), (7, .lt), (1, .mn true), (8, .lt), (9, .lt)]),
  (70, 4, [], (false, []), [], [14], .lin [(0, .lt), (1, .ld true), (2, .lt), (3, .ld true), (4, .lt), (5, .lt), (6, .lt), (7, .ld true), (8, .lt), (9, .lt), (10, .lt), (11, .ld true), (12, .lt), (13, .lt), (14, .mn false)]),
  (102, 10, [], (false, [2]), [], [7, 10], .lin [(0, .ld true), (1, .ld false), (2, .lt), (3, .lt), (4, .mn true), (5, .lt), (6, .lt), (7, .mn false), (8, .lt), (9, .lt), (10, .mn false)]),
  (102, 14, [], (false, [2]), [], [9], .lin [(0, .ld true), (1, .lt), (2, .mn true), (3, .mn true), (4, .lt), (5, .lt), (6, .lt), (7, .lt), (8, .lt), (9, .mn false)]),
  (102, 26, [], (false, [2]), [], [9], .lin [(0, .ld true), (1, .lt), (2, .mn true), (3, .mn true), (4, .lt), (5, .lt), (6, .lt), (7, .lt), (8, .lt), (9, .mn false)]),
  (102, 27, [], (false, [2]), [], [], .lin [(0, .lt), (1, .lt), (2, .lt), (3, .ld true), (5, .lt), (6, .ld true), (7, .lt), (8, .lt), (9, .ld true), (10, .lt), (11, .ld true), (4, .mn true), (12, .mn true), (13, .ld true), (14, .lt), (15, .ld true), (16, .lt), (17, .lt), (18, .ld true), (19, .lt), (20, .lt)]),
  (102, 32, [], (false, [2]), [], [11], .lin [(0, .ld true), (1, .lt), (2, .ld true), (3, .lt), (4, .lt), (5, .ld true), (6, .lt), (7, .lt), (8, .lt), (9, .lt), (10, .lt), (11, .mn false)]),
  (103, 1, [], (false, []), [], [], .lin [(0, .ld true), (1, .ld true), (3, .lt), (4, .ld true), (5, .lt), (6, .ld true), (7, .lt), (8, .ld true), (9, .lt), (10, .ld true), (11, .lt), (12, .ld true), (13, .lt), (2, .mn true), (14, .mn true), (15, .lt)]),
  (104, 7, [], (false, []), [], [], .lin [(0, .lt), (1, .ld true), (2, .lt), (3, .ld true), (4, .lt), (5, .lt), (6, .ld true), (7, .lt), (8, .lt), (9, .lt), (10, .lt), (11, .ld true), (12, .lt), (13, .ld true), (14, .lt), (15, .lt), (16, .lt), (17, .ld true), (18, .lt), (19, .ld true), (20, .lt), (21, .lt), (22, .lt), (23, .lt), (24, .lt)]),
  (104, 8, [], (false, []), [], [9, 11], .lin [(0, .lt), (1, .lt), (2, .lt), (3, .lt), (4, .ld true), (5, .lt), (6, .lt), (7, .ld true), (8, .lt), (9, .mn false), (10, .lt), (11, .mn false)]),
  (105, 6, [], (false, []), [], [], .lin [(0, .ld true), (2, .ld true), (1, .mn true), (3, .mn true), (4, .lt)]),
  (105, 10, [8], (false, []), [], [], .lin [(0, .ld true), (1, .ld true), (2, .lt), (3, .lt), (4, .ld true), (5, .bx), (6, .mn true), (7, .lt)]),
  (105, 19, [], (false, []), [], [7], .lin [(0, .ld true), (1, .lt), (2, .lt), (3, .ld true), (4, .lt), (5, .lt), (6, .mn true), (7, .mn false)]),
  (105, 25, [], (false, []), [], [11], .lin [(0, .ld true), (1, .lt), (5, .ld true), (6, .lt), (7, .lt), (2, .mn true), (3, .lt), (4, .ld true), (8, .mn true), (9, .lt), (10, .lt), (11, .mn false)]),
  (105, 29, [], (false, []), [], [7], .lin [(0, .ld true), (1, .lt), (2, .lt), (3, .ld true), (4, .lt), (5, .lt), (6, .mn true), (7, .mn false)]),
  (105, 38, [], (false, []), [], [7], .lin [(0, .ld true), (1, .lt), (2, .lt), (3, .ld true), (4, .lt), (5, .lt), (6, .mn true), (7, .mn false)]),
  (105, 46, [], (false, []), [], [7], .lin [(0, .ld true), (1, .lt), (2, .lt), (3, .ld true), (4, .lt), (5, .lt), (6, .mn true), (7, .mn false)]),
  (105, 48, [], (false, []), [], [11], .lin [(0, .ld true), (1, .lt), (5, .ld true), (6, .lt), (7, .lt), (2, .mn true), (3, .lt), (4, .ld true), (8, .mn true), (9, .lt), (10, .lt), (11, .mn false)]),
  (126, 1, [], (false, []), [], [], .lin [(0, .lt), (1, .lt), (3, .ld true), (4, .lt), (5, .lt), (6, .ld true), (2, .mn true), (7, .mn true), (8, .lt), (9, .lt), (10, .lt)]),
  (127, 9, [], (false, []), [], [], .lin [(0, .lt), (1, .ld true), (2, .lt), (3, .ld true), (4, .lt), (5, .lt), (7, .lt), (6, .mn true), (8, .mn true), (9, .lt)]),
  (138, 7, [], (false, []), [], [], .lin [(0, .lt), (1, .lt), (2, .lt), (3, .ld true), (4, .lt), (7, .ld true), (8, .lt), (5, .mn true), (6, .mn true), (9, .mn true), (10, .mn true), (11, .lt), (12, .lt)]),
  (142, 3, [], (false, []), [], [], .lin [(0, .lt), (1, .lt), (2, .lt), (3, .lt), (4, .lt), (5, .lt), (6, .ld true), (7, .lt), (8, .lt), (9, .ld true), (10, .lt), (11, .ld true), (12, .lt), (13, .lt), (14, .lt), (15, .lt), (16, .lt), (17, .lt), (18, .lt), (19, .lt), (20, .lt), (21, .lt), (22, .lt), (23, .lt)]),
  (148, 1, [], (false, [3]), [], [3, 9], .lin [(0, .ld false), (1, .lt), (2, .mn true), (3, .mn false), (4, .lt), (5, .lt), (6, .lt), (7, .lt), (8, .lt), (9, .mn false)]),
  (153, 6, [], (false, []), [], [], .lin [(0, .lt), (1, .lt), (2, .lt), (3, .ld true), (4, .lt), (5, .lt), (6, .lt), (7, .ld true), (8, .ld true)]),
  (159, 1, [], (false, []), [], [14], .lin [(0, .ld true), (1, .lt), (5, .lt), (6, .ld true), (7, .lt), (2, .mn true), (3, .lt), (4, .ld true), (8, .mn true), (9, .lt), (10, .ld true), (11, .lt), (12, .lt), (13, .lt), (14, .mn false)]),
  (171, 3, [], (false, []), [], [], .lin [(0, .lt), (1, .ld true), (2, .lt), (3, .ld true), (4, .lt), (5, .ld true), (6, .lt), (7, .lt), (8, .ld true), (9, .lt), (10, .lt), (11, .lt), (12, .ld true), (13, .lt), (14, .lt), (15, .lt), (16, .lt), (17, .lt)]),
  (181, 0, [], (false, []), [], [10], .lin [(0, .lt), (1, .lt), (2, .lt), (3, .ld true), (4, .ld true), (5, .lt), (6, .lt), (7, .ld true), (8, .mn true), (9, .lt), (10, .mn false)])]
def qcs : List Nat := [152]
def zz4 (f : Nat) (args : List AV) : Option AV :=
  if Nat.beq f 61 then (match args with
    | [.fraw b] => some (.int .u64 b)
    | [.flt b] => if isNaN b then none else some (.int .u64 b)
    | _ => none)
  else if Nat.beq f 80 then (match args with
    | [.int .u64 n] => if 0 ≤ n ∧ n ≤ 18446744073709551615 then some (.fraw n.toNat) else none
    | _ => none)
  else none
def runT : RunT := ⟨fun f => qci.contains f, qbt qdd, zz4, fun f => (lk fzL f).getD [], fun f => !qcs.contains f⟩
theorem zz5 (f : Nat) (args : List AV) (r : AV) (H : List (List AV)) (h : zz4 f args = some r) : zaa Tryz.prog f args H r H := by
  unfold zz4 at h
  split at h
  · rename_i hb
    have := Nat.eq_of_beq_eq_true hb; subst this
    split at h
    · cases h; exact zuq Tryz.func61 (by kernel_rfl) (by kernel_rfl) (by kernel_rfl) (by kernel_rfl) H _
    · split at h
      · cases h
      · rename_i hn; cases h; exact zup Tryz.func61 (by kernel_rfl) (by kernel_rfl) (by kernel_rfl) (by kernel_rfl) H _ hn
    · cases h
  · split at h
    · rename_i hb
      have := Nat.eq_of_beq_eq_true hb; subst this
      split at h
      · split at h
        · rename_i hn; cases h; exact qbk Tryz.func80 (by kernel_rfl) (by kernel_rfl) (by kernel_rfl) (by kernel_rfl) H _ hn
        · cases h
      · cases h
    · cases h
theorem z6g : z09 Tryz.prog runT 100000 60 18 [] [] = some (.bool true, []) := by kernel_rfl
theorem zwj (H : List (List AV)) : zaa Tryz.prog 18 [] H (.bool true) H := z6f fol zz5 100000 60 18 _ _ (by kernel_rfl) (by kernel_rfl) z6g H
end Go.Sx
set_option linter.unusedVariables false
set_option linter.unusedSimpArgs false
set_option maxRecDepth 20000
namespace Go.Sx
open Go.Proofs
attribute [local irreducible] Ex za3 exD opX opE zca zd3 zd4 Spec zaa Fr zb9 zbb zba ckK zb8 zb6 zbu faK zb4 zd1 gK fK rK zeq lpX prK
theorem zgz :
    (∀ (H : List (List AV)) (x : Nat × Nat) (l : List Nat) (off rows cols ld : Int) (hI : MI l.length off rows cols ld) (q : Nat × Nat) (la : List Nat) (ao ar ac al : Int) (hJ : MI la.length ao ar ac al) (q' : Nat × Nat) (p : List Int) (hpm : p.length ≤ 9223372036854775807) (Rv : AV) (rl : List Int) (hRl : ∀ H, IL H Rv rl) (Cv : AV) (cl : List Int) (hCl : ∀ H, IL H Cv cl) (hrm : rl.length ≤ 9223372036854775807) (hcm : cl.length ≤ 9223372036854775807) (hs : ¬ (l.length ≤ 1000 ∧ rows ≤ 20 ∧ cols ≤ 20 ∧ la.length ≤ 1000 ∧ ar ≤ 20 ∧ ac ≤ 20 ∧ p.length ≤ 60 ∧ rl.length ≤ 60 ∧ cl.length ≤ 60)), zaa Tryz.prog 19 [mt (aD x l) off rows cols ld, .agg [aD q la, .int .i64 ao, .int .i64 ar, .int .i64 ac, .int .i64 al, aI q' p], Rv, Cv] H (.bool true) H) ∧
    (∀ (H : List (List AV)) (x : Nat × Nat) (l : List Nat) (off rows cols ld : Int) (hI : MI l.length off rows cols ld) (q : Nat × Nat) (la : List Nat) (ao ar ac al : Int) (hJ : MI la.length ao ar ac al) (q' : Nat × Nat) (p : List Int) (hpm : p.length ≤ 9223372036854775807) (Rv : AV) (rl : List Int) (hRl : ∀ H, IL H Rv rl) (Cv : AV) (cl : List Int) (hCl : ∀ H, IL H Cv cl) (hrm : rl.length ≤ 9223372036854775807) (hcm : cl.length ≤ 9223372036854775807) (hs : (l.length ≤ 1000 ∧ rows ≤ 20 ∧ cols ≤ 20 ∧ la.length ≤ 1000 ∧ ar ≤ 20 ∧ ac ≤ 20 ∧ p.length ≤ 60 ∧ rl.length ≤ 60 ∧ cl.length ≤ 60)), zaa Tryz.prog 19 [mt (aD x l) off rows cols ld, .agg [aD q la, .int .i64 ao, .int .i64 ar, .int .i64 ac, .int .i64 al, aI q' p], Rv, Cv] H (.bool false) H) := by
  refine ⟨?_, ?_⟩
  (intro H x l off rows cols ld hI q la ao ar ac al hJ q' p hpm Rv rl hRl Cv cl hCl hrm hcm hs
   obtain ⟨hm, ho1, ho2, hr1, hr2, hc1, hc2, hl1, hl2⟩ := id hI
   obtain ⟨hm', ho1', ho2', hr1', hr2', hc1', hc2', hl1', hl2'⟩ := id hJ
   refine .go Tryz.call19 Tryz.func19 false [] dOk ?_
   simp only [za0, Nat.reduceAdd])
  rotate_left
  (intro H x l off rows cols ld hI q la ao ar ac al hJ q' p hpm Rv rl hRl Cv cl hCl hrm hcm hs
   obtain ⟨hm, ho1, ho2, hr1, hr2, hc1, hc2, hl1, hl2⟩ := id hI
   obtain ⟨hm', ho1', ho2', hr1', hr2', hc1', hc2', hl1', hl2'⟩ := id hJ
   refine .go Tryz.call19 Tryz.func19 false [] dOk ?_
   simp only [za0, Nat.reduceAdd])
  rotate_left
  all_goals (repeat' (first
 |(refine zav ?_; (first | refine zbd ?_ | refine zao ?_ | refine m13 ?_ | refine m12 ?_ | refine m11 ?_ | (refine m10 ?_; (first | refine zcv ?_ | refine zcq ?_ | refine zcu ?_ | refine zcr ?_ | refine zct ?_ ?_ | refine zcs ?_ ?_ | refine zcp ?_ ?_ | refine zco ?_ ?_ | fail)) | (refine m09 ?_; (first | refine zcv ?_ | refine zcq ?_ | refine zcu ?_ | refine zcr ?_ | refine zct ?_ ?_ | refine zcs ?_ ?_ | refine zcp ?_ ?_ | refine zco ?_ ?_ | fail)) | refine m38 ?_ | fail))
 |(refine zaw ?_; (first | refine m14 ?_ | (refine m17 ?_; first | refine m19 ?_ | refine m18 ?_) | (refine m07 ?_; (first | refine m15 ?_ | refine m16 ?_ | fail)) | refine zam (by (conv => {lhs; whnf}); done) (by exact (hRl []).len) ?_ | refine zam (by (conv => {lhs; whnf}); done) (by exact (hCl []).len) ?_ | refine zam (by (conv => {lhs; whnf}); done) (by exact (zbl [] q' p).len) ?_ | (refine m00 ?_; (first | refine m47 ?_ | refine m48 ?_ | refine m49 ?_ | refine m50 ?_ | refine v_k ?_ | refine m51 ?_ | fail)) | (refine m22 ?_; (first | refine m26 ?_ | refine m27 ?_ | fail)) | refine m42 ?_ | refine zab ?_ | refine zac ?_ | refine m08 ?_ | refine zaj ?_ | refine zam (by (conv => {lhs; whnf}); done) (by first | rfl | assumption) ?_ | refine m01 ?_ | fail))
 |refine zat ?_ | refine zau ?_ | refine zas ?_
 |(refine zax ?_; (first | refine zar ?_ | refine zad ?_ | (refine m06 ?_; (first | refine c_T ?_ | refine c_F ?_ | refine c_P ?_ ?_ | refine c_B ?_ ?_ | fail)) | refine zaq ?_ | refine zah ?_ | refine zae ?_ | refine b_exit ?_ | fail))
 |refine m21 ?_
 |refine za4 ?_
 |(refine za5 ?_; (first | refine cA (zoe _ (aD x l) l (zce _ x l) off rows cols ld hI) ?_ | refine cA (zoe _ (aD q la) la (zce _ q la) ao ar ac al hJ) ?_ | fail))
 |refine m05 ?_
 |refine m04 ?_ | refine m02 ?_ | refine m03 ?_ | refine zai ?_
 |intro _))
  all_goals first
    | (exfalso; contradiction)
    | (exfalso; omega)
    | (exfalso; simp_all; done)
    | (refine zal rfl (by first | (simp [mx, mxL, zaf, aOf, zbn]; done) | fail) ?_; exact rfl)
    | (refine zal rfl (by first | (simp [mx, mxL, zaf, aOf, zbn]; done) | fail) ?_; simp only [zaf, List.nil_append]; congr 1; simp; omega)
theorem zzx : type_of% @zgz.1 := @zgz.1
theorem zsd : type_of% @zgz.2 := @zgz.2
theorem zc5 :
    (∀ (H : List (List AV)) (x : Nat × Nat) (l : List Nat) (off rows cols ld : Int) (hI : MI l.length off rows cols ld) (q : Nat × Nat) (la : List Nat) (ao ar ac al : Int) (hJ : MI la.length ao ar ac al) (q' : Nat × Nat) (p : List Int) (hpm : p.length ≤ 9223372036854775807) (kr : Nat × Nat) (rl : List Int) (hrm : rl.length ≤ 9223372036854775807) (kc : Nat × Nat) (cl : List Int) (hcm : cl.length ≤ 9223372036854775807) (xx : Nat × Nat) (xl : List Nat) (hxm : xl.length ≤ 9223372036854775807) (xb : Nat × Nat) (bl : List Nat) (hbm : bl.length ≤ 9223372036854775807) (hs : ¬ (l.length ≤ 1000 ∧ rows ≤ 20 ∧ cols ≤ 20 ∧ la.length ≤ 1000 ∧ ar ≤ 20 ∧ ac ≤ 20 ∧ p.length ≤ 60 ∧ rl.length ≤ 60 ∧ cl.length ≤ 60)), Spec Tryz.prog 4 [mt (aD x l) off rows cols ld, .agg [aD q la, .int .i64 ao, .int .i64 ar, .int .i64 ac, .int .i64 al, aI q' p], aI kr rl, aI kc cl, aD xx xl, aD xb bl] H (.bool true) H) ∧
    (∀ (H : List (List AV)) (x : Nat × Nat) (l : List Nat) (off rows cols ld : Int) (hI : MI l.length off rows cols ld) (q : Nat × Nat) (la : List Nat) (ao ar ac al : Int) (hJ : MI la.length ao ar ac al) (q' : Nat × Nat) (p : List Int) (hpm : p.length ≤ 9223372036854775807) (kr : Nat × Nat) (rl : List Int) (hrm : rl.length ≤ 9223372036854775807) (kc : Nat × Nat) (cl : List Int) (hcm : cl.length ≤ 9223372036854775807) (xx : Nat × Nat) (xl : List Nat) (hxm : xl.length ≤ 9223372036854775807) (xb : Nat × Nat) (bl : List Nat) (hbm : bl.length ≤ 9223372036854775807) (hs : (l.length ≤ 1000 ∧ rows ≤ 20 ∧ cols ≤ 20 ∧ la.length ≤ 1000 ∧ ar ≤ 20 ∧ ac ≤ 20 ∧ p.length ≤ 60 ∧ rl.length ≤ 60 ∧ cl.length ≤ 60)) (hb : ¬ bl.length ≤ 60), Spec Tryz.prog 4 [mt (aD x l) off rows cols ld, .agg [aD q la, .int .i64 ao, .int .i64 ar, .int .i64 ac, .int .i64 al, aI q' p], aI kr rl, aI kc cl, aD xx xl, aD xb bl] H (.bool true) H) ∧
    (∀ (H : List (List AV)) (x : Nat × Nat) (l : List Nat) (off rows cols ld : Int) (hI : MI l.length off rows cols ld) (q : Nat × Nat) (la : List Nat) (ao ar ac al : Int) (hJ : MI la.length ao ar ac al) (q' : Nat × Nat) (p : List Int) (hpm : p.length ≤ 9223372036854775807) (kr : Nat × Nat) (rl : List Int) (hrm : rl.length ≤ 9223372036854775807) (kc : Nat × Nat) (cl : List Int) (hcm : cl.length ≤ 9223372036854775807) (xx : Nat × Nat) (xl : List Nat) (hxm : xl.length ≤ 9223372036854775807) (xb : Nat × Nat) (bl : List Nat) (hbm : bl.length ≤ 9223372036854775807) (hs : (l.length ≤ 1000 ∧ rows ≤ 20 ∧ cols ≤ 20 ∧ la.length ≤ 1000 ∧ ar ≤ 20 ∧ ac ≤ 20 ∧ p.length ≤ 60 ∧ rl.length ≤ 60 ∧ cl.length ≤ 60)) (hb : bl.length ≤ 60) (hx : ¬ xl.length ≤ 60), Spec Tryz.prog 4 [mt (aD x l) off rows cols ld, .agg [aD q la, .int .i64 ao, .int .i64 ar, .int .i64 ac, .int .i64 al, aI q' p], aI kr rl, aI kc cl, aD xx xl, aD xb bl] H (.bool true) H) ∧
    (∀ (H : List (List AV)) (x : Nat × Nat) (l : List Nat) (off rows cols ld : Int) (hI : MI l.length off rows cols ld) (q : Nat × Nat) (la : List Nat) (ao ar ac al : Int) (hJ : MI la.length ao ar ac al) (q' : Nat × Nat) (p : List Int) (hpm : p.length ≤ 9223372036854775807) (kr : Nat × Nat) (rl : List Int) (hrm : rl.length ≤ 9223372036854775807) (kc : Nat × Nat) (cl : List Int) (hcm : cl.length ≤ 9223372036854775807) (xx : Nat × Nat) (xl : List Nat) (hxm : xl.length ≤ 9223372036854775807) (xb : Nat × Nat) (bl : List Nat) (hbm : bl.length ≤ 9223372036854775807) (hs : (l.length ≤ 1000 ∧ rows ≤ 20 ∧ cols ≤ 20 ∧ la.length ≤ 1000 ∧ ar ≤ 20 ∧ ac ≤ 20 ∧ p.length ≤ 60 ∧ rl.length ≤ 60 ∧ cl.length ≤ 60)) (hb : bl.length ≤ 60) (hx : xl.length ≤ 60) (hbad : ¬ (zaz l.length off rows cols ld ∧ (zaz la.length ao ar ac al ∧ ar = ac ∧ ar = (p.length : Int) ∧ zdx p))), Spec Tryz.prog 4 [mt (aD x l) off rows cols ld, .agg [aD q la, .int .i64 ao, .int .i64 ar, .int .i64 ac, .int .i64 al, aI q' p], aI kr rl, aI kc cl, aD xx xl, aD xb bl] H (.bool true) H) ∧
    (∀ (H : List (List AV)) (x : Nat × Nat) (l : List Nat) (off rows cols ld : Int) (hI : MI l.length off rows cols ld) (q : Nat × Nat) (la : List Nat) (ao ar ac al : Int) (hJ : MI la.length ao ar ac al) (q' : Nat × Nat) (p : List Int) (hpm : p.length ≤ 9223372036854775807) (kr : Nat × Nat) (rl : List Int) (hrm : rl.length ≤ 9223372036854775807) (kc : Nat × Nat) (cl : List Int) (hcm : cl.length ≤ 9223372036854775807) (xx : Nat × Nat) (xl : List Nat) (hxm : xl.length ≤ 9223372036854775807) (xb : Nat × Nat) (bl : List Nat) (hbm : bl.length ≤ 9223372036854775807) (hs : (l.length ≤ 1000 ∧ rows ≤ 20 ∧ cols ≤ 20 ∧ la.length ≤ 1000 ∧ ar ≤ 20 ∧ ac ≤ 20 ∧ p.length ≤ 60 ∧ rl.length ≤ 60 ∧ cl.length ≤ 60)) (hb : bl.length ≤ 60) (hx : xl.length ≤ 60) (hg : zaz l.length off rows cols ld) (hr : (zaz la.length ao ar ac al ∧ ar = ac ∧ ar = (p.length : Int) ∧ zdx p)) (hz9 : ¬ (cols = rows ∧ 1 ≤ rows ∧ rows ≤ 64 ∧ ar = rows ∧ (rl.length : Int) = rows ∧ (cl.length : Int) = rows)), Spec Tryz.prog 4 [mt (aD x l) off rows cols ld, .agg [aD q la, .int .i64 ao, .int .i64 ar, .int .i64 ac, .int .i64 al, aI q' p], aI kr rl, aI kc cl, aD xx xl, aD xb bl] H (.bool true) H) ∧
    (∀ (H : List (List AV)) (x : Nat × Nat) (l : List Nat) (off ld : Int) (n : Nat) (hI : MI l.length off n n ld) (hG : zaz l.length off n n ld) (q : Nat × Nat) (la : List Nat) (ao al : Int) (hJ : MI la.length ao n n al) (hGa : zaz la.length ao n n al) (q' : Nat × Nat) (p : List Int) (hpm : p.length ≤ 9223372036854775807) (hpl : p.length = n) (hpv : zdx p) (kr : Nat × Nat) (rl : List Int) (hrm : rl.length ≤ 9223372036854775807) (kc : Nat × Nat) (cl : List Int) (hcm : cl.length ≤ 9223372036854775807) (hrl : rl.length = n) (hcl : cl.length = n) (hn1 : 1 ≤ n) (hn : n ≤ 64) (xx : Nat × Nat) (xl : List Nat) (hxm : xl.length ≤ 9223372036854775807) (xb : Nat × Nat) (bl : List Nat) (hbm : bl.length ≤ 9223372036854775807) (hs : (l.length ≤ 1000 ∧ (n : Int) ≤ 20 ∧ (n : Int) ≤ 20 ∧ la.length ≤ 1000 ∧ (n : Int) ≤ 20 ∧ (n : Int) ≤ 20 ∧ p.length ≤ 60 ∧ rl.length ≤ 60 ∧ cl.length ≤ 60)) (hb : bl.length ≤ 60) (hx : xl.length ≤ 60) (z : Nat) (hzn : z < n) (hz : ∀ k, k < z → feq ((mel la ao al) k k) 0 = false) (hz1 : feq ((mel la ao al) z z) 0 = true), Spec Tryz.prog 4 [mt (aD x l) off (n : Int) (n : Int) ld, .agg [aD q la, .int .i64 ao, .int .i64 (n : Int), .int .i64 (n : Int), .int .i64 al, aI q' p], aI kr rl, aI kc cl, aD xx xl, aD xb bl] H (.bool true) H) ∧
    (∀ (H : List (List AV)) (x : Nat × Nat) (l : List Nat) (off ld : Int) (n : Nat) (hI : MI l.length off n n ld) (hG : zaz l.length off n n ld) (q : Nat × Nat) (la : List Nat) (ao al : Int) (hJ : MI la.length ao n n al) (hGa : zaz la.length ao n n al) (q' : Nat × Nat) (p : List Int) (hpm : p.length ≤ 9223372036854775807) (hpl : p.length = n) (hpv : zdx p) (kr : Nat × Nat) (rl : List Int) (hrm : rl.length ≤ 9223372036854775807) (kc : Nat × Nat) (cl : List Int) (hcm : cl.length ≤ 9223372036854775807) (hrl : rl.length = n) (hcl : cl.length = n) (hn1 : 1 ≤ n) (hn : n ≤ 64) (xx : Nat × Nat) (xl : List Nat) (hxm : xl.length ≤ 9223372036854775807) (xb : Nat × Nat) (bl : List Nat) (hbm : bl.length ≤ 9223372036854775807) (hs : (l.length ≤ 1000 ∧ (n : Int) ≤ 20 ∧ (n : Int) ≤ 20 ∧ la.length ≤ 1000 ∧ (n : Int) ≤ 20 ∧ (n : Int) ≤ 20 ∧ p.length ≤ 60 ∧ rl.length ≤ 60 ∧ cl.length ≤ 60)) (hb : bl.length ≤ 60) (hx : xl.length ≤ 60) (hz : ∀ k, k < n → feq ((mel la ao al) k k) 0 = false) (hxl : xl.length ≠ n), Spec Tryz.prog 4 [mt (aD x l) off (n : Int) (n : Int) ld, .agg [aD q la, .int .i64 ao, .int .i64 (n : Int), .int .i64 (n : Int), .int .i64 al, aI q' p], aI kr rl, aI kc cl, aD xx xl, aD xb bl] H (.bool true) H) ∧
    (∀ (H : List (List AV)) (x : Nat × Nat) (l : List Nat) (off ld : Int) (n : Nat) (hI : MI l.length off n n ld) (hG : zaz l.length off n n ld) (q : Nat × Nat) (la : List Nat) (ao al : Int) (hJ : MI la.length ao n n al) (hGa : zaz la.length ao n n al) (q' : Nat × Nat) (p : List Int) (hpm : p.length ≤ 9223372036854775807) (hpl : p.length = n) (hpv : zdx p) (kr : Nat × Nat) (rl : List Int) (hrm : rl.length ≤ 9223372036854775807) (kc : Nat × Nat) (cl : List Int) (hcm : cl.length ≤ 9223372036854775807) (hrl : rl.length = n) (hcl : cl.length = n) (hn1 : 1 ≤ n) (hn : n ≤ 64) (xx : Nat × Nat) (xl : List Nat) (hxm : xl.length ≤ 9223372036854775807) (xb : Nat × Nat) (bl : List Nat) (hbm : bl.length ≤ 9223372036854775807) (hs : (l.length ≤ 1000 ∧ (n : Int) ≤ 20 ∧ (n : Int) ≤ 20 ∧ la.length ≤ 1000 ∧ (n : Int) ≤ 20 ∧ (n : Int) ≤ 20 ∧ p.length ≤ 60 ∧ rl.length ≤ 60 ∧ cl.length ≤ 60)) (hb : bl.length ≤ 60) (hx : xl.length ≤ 60) (hz : ∀ k, k < n → feq ((mel la ao al) k k) 0 = false) (hxl : xl.length = n) (hbl : bl.length ≠ n), Spec Tryz.prog 4 [mt (aD x l) off (n : Int) (n : Int) ld, .agg [aD q la, .int .i64 ao, .int .i64 (n : Int), .int .i64 (n : Int), .int .i64 al, aI q' p], aI kr rl, aI kc cl, aD xx xl, aD xb bl] H (.bool true) H) ∧
    (∀ (H : List (List AV)) (x : Nat × Nat) (l : List Nat) (off ld : Int) (n : Nat) (hI : MI l.length off n n ld) (hG : zaz l.length off n n ld) (q : Nat × Nat) (la : List Nat) (ao al : Int) (hJ : MI la.length ao n n al) (hGa : zaz la.length ao n n al) (q' : Nat × Nat) (p : List Int) (hpm : p.length ≤ 9223372036854775807) (hpl : p.length = n) (hpv : zdx p) (kr : Nat × Nat) (rl : List Int) (hrm : rl.length ≤ 9223372036854775807) (kc : Nat × Nat) (cl : List Int) (hcm : cl.length ≤ 9223372036854775807) (hrl : rl.length = n) (hcl : cl.length = n) (hn1 : 1 ≤ n) (hn : n ≤ 64) (xx : Nat × Nat) (xl : List Nat) (hxm : xl.length ≤ 9223372036854775807) (xb : Nat × Nat) (bl : List Nat) (hbm : bl.length ≤ 9223372036854775807) (hs : (l.length ≤ 1000 ∧ (n : Int) ≤ 20 ∧ (n : Int) ≤ 20 ∧ la.length ≤ 1000 ∧ (n : Int) ≤ 20 ∧ (n : Int) ≤ 20 ∧ p.length ≤ 60 ∧ rl.length ≤ 60 ∧ cl.length ≤ 60)) (hb : bl.length ≤ 60) (hx : xl.length ≤ 60) (hz : ∀ k, k < n → feq ((mel la ao al) k k) 0 = false) (hxl : xl.length = n) (hbl : bl.length = n) (N : Nat) (hR : REnd (zcw (mel la ao al) p rl cl n (fbL (mel l off ld) xl bl n)) (zcx (mel la ao al) p rl cl n (fbL (mel l off ld) xl bl n)) (M0 n) N) (hmx : feq (zbp (xl.map zbm)) 0 = false), Spec Tryz.prog 4 [mt (aD x l) off (n : Int) (n : Int) ld, .agg [aD q la, .int .i64 ao, .int .i64 (n : Int), .int .i64 (n : Int), .int .i64 al, aI q' p], aI kr rl, aI kc cl, aD xx xl, aD xb bl] H (.bool true) H) ∧
    (∀ (H : List (List AV)) (x : Nat × Nat) (l : List Nat) (off ld : Int) (n : Nat) (hI : MI l.length off n n ld) (hG : zaz l.length off n n ld) (q : Nat × Nat) (la : List Nat) (ao al : Int) (hJ : MI la.length ao n n al) (hGa : zaz la.length ao n n al) (q' : Nat × Nat) (p : List Int) (hpm : p.length ≤ 9223372036854775807) (hpl : p.length = n) (hpv : zdx p) (kr : Nat × Nat) (rl : List Int) (hrm : rl.length ≤ 9223372036854775807) (kc : Nat × Nat) (cl : List Int) (hcm : cl.length ≤ 9223372036854775807) (hrl : rl.length = n) (hcl : cl.length = n) (hn1 : 1 ≤ n) (hn : n ≤ 64) (xx : Nat × Nat) (xl : List Nat) (hxm : xl.length ≤ 9223372036854775807) (xb : Nat × Nat) (bl : List Nat) (hbm : bl.length ≤ 9223372036854775807) (hs : (l.length ≤ 1000 ∧ (n : Int) ≤ 20 ∧ (n : Int) ≤ 20 ∧ la.length ≤ 1000 ∧ (n : Int) ≤ 20 ∧ (n : Int) ≤ 20 ∧ p.length ≤ 60 ∧ rl.length ≤ 60 ∧ cl.length ≤ 60)) (hb : bl.length ≤ 60) (hx : xl.length ≤ 60) (hz : ∀ k, k < n → feq ((mel la ao al) k k) 0 = false) (hxl : xl.length = n) (hbl : bl.length = n) (N : Nat) (hR : REnd (zcw (mel la ao al) p rl cl n (fbL (mel l off ld) xl bl n)) (zcx (mel la ao al) p rl cl n (fbL (mel l off ld) xl bl n)) (M0 n) N) (hmx : feq (zbp (xl.map zbm)) 0 = true) (hr : ∀ k, k < bl.length → feq (bl.getD k 0) 0 = true), Spec Tryz.prog 4 [mt (aD x l) off (n : Int) (n : Int) ld, .agg [aD q la, .int .i64 ao, .int .i64 (n : Int), .int .i64 (n : Int), .int .i64 al, aI q' p], aI kr rl, aI kc cl, aD xx xl, aD xb bl] H (.bool true) H) ∧
    (∀ (H : List (List AV)) (x : Nat × Nat) (l : List Nat) (off ld : Int) (n : Nat) (hI : MI l.length off n n ld) (hG : zaz l.length off n n ld) (q : Nat × Nat) (la : List Nat) (ao al : Int) (hJ : MI la.length ao n n al) (hGa : zaz la.length ao n n al) (q' : Nat × Nat) (p : List Int) (hpm : p.length ≤ 9223372036854775807) (hpl : p.length = n) (hpv : zdx p) (kr : Nat × Nat) (rl : List Int) (hrm : rl.length ≤ 9223372036854775807) (kc : Nat × Nat) (cl : List Int) (hcm : cl.length ≤ 9223372036854775807) (hrl : rl.length = n) (hcl : cl.length = n) (hn1 : 1 ≤ n) (hn : n ≤ 64) (xx : Nat × Nat) (xl : List Nat) (hxm : xl.length ≤ 9223372036854775807) (xb : Nat × Nat) (bl : List Nat) (hbm : bl.length ≤ 9223372036854775807) (hs : (l.length ≤ 1000 ∧ (n : Int) ≤ 20 ∧ (n : Int) ≤ 20 ∧ la.length ≤ 1000 ∧ (n : Int) ≤ 20 ∧ (n : Int) ≤ 20 ∧ p.length ≤ 60 ∧ rl.length ≤ 60 ∧ cl.length ≤ 60)) (hb : bl.length ≤ 60) (hx : xl.length ≤ 60) (hz : ∀ k, k < n → feq ((mel la ao al) k k) 0 = false) (hxl : xl.length = n) (hbl : bl.length = n) (N : Nat) (hR : REnd (zcw (mel la ao al) p rl cl n (fbL (mel l off ld) xl bl n)) (zcx (mel la ao al) p rl cl n (fbL (mel l off ld) xl bl n)) (M0 n) N) (hmx : feq (zbp (xl.map zbm)) 0 = true) (z : Nat) (hzl : z < bl.length) (hr : ∀ k, k < z → feq (bl.getD k 0) 0 = true) (hz1 : feq (bl.getD z 0) 0 = false), Spec Tryz.prog 4 [mt (aD x l) off (n : Int) (n : Int) ld, .agg [aD q la, .int .i64 ao, .int .i64 (n : Int), .int .i64 (n : Int), .int .i64 al, aI q' p], aI kr rl, aI kc cl, aD xx xl, aD xb bl] H (.bool true) H) := by
  refine ⟨?_, ?_, ?_, ?_, ?_, ?_, ?_, ?_, ?_, ?_, ?_⟩
  (intro H x l off rows cols ld hI q la ao ar ac al hJ q' p hpm kr rl hrm kc cl hcm xx xl hxm xb bl hbm hs
   obtain ⟨hm, ho1, ho2, hr1, hr2, hc1, hc2, hl1, hl2⟩ := id hI
   obtain ⟨hm', ho1', ho2', hr1', hr2', hc1', hc2', hl1', hl2'⟩ := id hJ
   refine Spec.go Tryz.func4 false [] dOk ?_
   simp only [za0, Nat.reduceAdd])
  rotate_left
  (intro H x l off rows cols ld hI q la ao ar ac al hJ q' p hpm kr rl hrm kc cl hcm xx xl hxm xb bl hbm hs hb
   obtain ⟨hm, ho1, ho2, hr1, hr2, hc1, hc2, hl1, hl2⟩ := id hI
   obtain ⟨hm', ho1', ho2', hr1', hr2', hc1', hc2', hl1', hl2'⟩ := id hJ
   refine Spec.go Tryz.func4 false [] dOk ?_
   simp only [za0, Nat.reduceAdd])
  rotate_left
  (intro H x l off rows cols ld hI q la ao ar ac al hJ q' p hpm kr rl hrm kc cl hcm xx xl hxm xb bl hbm hs hb hx
   obtain ⟨hm, ho1, ho2, hr1, hr2, hc1, hc2, hl1, hl2⟩ := id hI
   obtain ⟨hm', ho1', ho2', hr1', hr2', hc1', hc2', hl1', hl2'⟩ := id hJ
   refine Spec.go Tryz.func4 false [] dOk ?_
   simp only [za0, Nat.reduceAdd])
  rotate_left
  (intro H x l off rows cols ld hI q la ao ar ac al hJ q' p hpm kr rl hrm kc cl hcm xx xl hxm xb bl hbm hs hb hx hbad
   obtain ⟨hm, ho1, ho2, hr1, hr2, hc1, hc2, hl1, hl2⟩ := id hI
   obtain ⟨hm', ho1', ho2', hr1', hr2', hc1', hc2', hl1', hl2'⟩ := id hJ
   refine Spec.go Tryz.func4 false [] dOk ?_
   simp only [za0, Nat.reduceAdd])
  rotate_left
  (intro H x l off rows cols ld hI q la ao ar ac al hJ q' p hpm kr rl hrm kc cl hcm xx xl hxm xb bl hbm hs hb hx hg hr hz9
   obtain ⟨hm, ho1, ho2, hr1, hr2, hc1, hc2, hl1, hl2⟩ := id hI
   obtain ⟨hm', ho1', ho2', hr1', hr2', hc1', hc2', hl1', hl2'⟩ := id hJ
   refine Spec.go Tryz.func4 false [] dOk ?_
   simp only [za0, Nat.reduceAdd])
  rotate_left
  (intro H x l off ld n hI hG q la ao al hJ hGa q' p hpm hpl hpv kr rl hrm kc cl hcm hrl hcl hn1 hn xx xl hxm xb bl hbm hs hb hx z hzn hz hz1
   obtain ⟨hm, ho1, ho2, hr1, hr2, hc1, hc2, hl1, hl2⟩ := id hI
   obtain ⟨hm', ho1', ho2', hr1', hr2', hc1', hc2', hl1', hl2'⟩ := id hJ
   refine Spec.go Tryz.func4 false [] dOk ?_
   simp only [za0, Nat.reduceAdd])
  rotate_left
  (intro H x l off ld n hI hG q la ao al hJ hGa q' p hpm hpl hpv kr rl hrm kc cl hcm hrl hcl hn1 hn xx xl hxm xb bl hbm hs hb hx hz hxl
   obtain ⟨hm, ho1, ho2, hr1, hr2, hc1, hc2, hl1, hl2⟩ := id hI
   obtain ⟨hm', ho1', ho2', hr1', hr2', hc1', hc2', hl1', hl2'⟩ := id hJ
   refine Spec.go Tryz.func4 false [] dOk ?_
   simp only [za0, Nat.reduceAdd])
  rotate_left
  (intro H x l off ld n hI hG q la ao al hJ hGa q' p hpm hpl hpv kr rl hrm kc cl hcm hrl hcl hn1 hn xx xl hxm xb bl hbm hs hb hx hz hxl hbl
   obtain ⟨hm, ho1, ho2, hr1, hr2, hc1, hc2, hl1, hl2⟩ := id hI
   obtain ⟨hm', ho1', ho2', hr1', hr2', hc1', hc2', hl1', hl2'⟩ := id hJ
   refine Spec.go Tryz.func4 false [] dOk ?_
   simp only [za0, Nat.reduceAdd])
  rotate_left
  (intro H x l off ld n hI hG q la ao al hJ hGa q' p hpm hpl hpv kr rl hrm kc cl hcm hrl hcl hn1 hn xx xl hxm xb bl hbm hs hb hx hz hxl hbl N hR hmx
   obtain ⟨hm, ho1, ho2, hr1, hr2, hc1, hc2, hl1, hl2⟩ := id hI
   obtain ⟨hm', ho1', ho2', hr1', hr2', hc1', hc2', hl1', hl2'⟩ := id hJ
   refine Spec.go Tryz.func4 false [] dOk ?_
   simp only [za0, Nat.reduceAdd])
  rotate_left
  (intro H x l off ld n hI hG q la ao al hJ hGa q' p hpm hpl hpv kr rl hrm kc cl hcm hrl hcl hn1 hn xx xl hxm xb bl hbm hs hb hx hz hxl hbl N hR hmx hr
   obtain ⟨hm, ho1, ho2, hr1, hr2, hc1, hc2, hl1, hl2⟩ := id hI
   obtain ⟨hm', ho1', ho2', hr1', hr2', hc1', hc2', hl1', hl2'⟩ := id hJ
   refine Spec.go Tryz.func4 false [] dOk ?_
   simp only [za0, Nat.reduceAdd])
  rotate_left
  (intro H x l off ld n hI hG q la ao al hJ hGa q' p hpm hpl hpv kr rl hrm kc cl hcm hrl hcl hn1 hn xx xl hxm xb bl hbm hs hb hx hz hxl hbl N hR hmx z hzl hr hz1
   obtain ⟨hm, ho1, ho2, hr1, hr2, hc1, hc2, hl1, hl2⟩ := id hI
   obtain ⟨hm', ho1', ho2', hr1', hr2', hc1', hc2', hl1', hl2'⟩ := id hJ
   refine Spec.go Tryz.func4 false [] dOk ?_
   simp only [za0, Nat.reduceAdd])
  rotate_left
  all_goals (repeat' (first
 |(refine zav ?_; (first | refine zbd ?_ | refine zao ?_ | refine m13 ?_ | refine m12 ?_ | refine m11 ?_ | (refine m10 ?_; (first | refine zcv ?_ | refine zcq ?_ | refine zcu ?_ | refine zcr ?_ | refine zct ?_ ?_ | refine zcs ?_ ?_ | refine zcp ?_ ?_ | refine zco ?_ ?_ | fail)) | (refine m09 ?_; (first | refine zcv ?_ | refine zcq ?_ | refine zcu ?_ | refine zcr ?_ | refine zct ?_ ?_ | refine zcs ?_ ?_ | refine zcp ?_ ?_ | refine zco ?_ ?_ | fail)) | refine m38 ?_ | fail))
 |(refine zaw ?_; (first | refine m14 ?_ | (refine m17 ?_; first | refine m19 ?_ | refine m18 ?_) | (refine m07 ?_; (first | refine m15 ?_ | refine m16 ?_ | fail)) | (refine zy0 (by first | (conv => {lhs; whnf}; done) | exact (by exact rfl) | fail) (by first | (conv => {lhs; whnf}; done) | exact (by exact rfl) | fail) ?_; (first | refine v_bnF (by exact rfl) ?_ | refine v_bnT (by decide) ?_ | fail)) | refine zam (by (conv => {lhs; whnf}); done) (by exact (zbl [] kr rl).len) ?_ | refine zam (by (conv => {lhs; whnf}); done) (by exact (zbl [] kc cl).len) ?_ | refine zam (by (conv => {lhs; whnf}); done) (by exact (zbl [] q' p).len) ?_ | refine zam (by (conv => {lhs; whnf}); done) (by exact zcd xb bl) ?_ | refine zam (by (conv => {lhs; whnf}); done) (by exact zcd xx xl) ?_ | (refine m45 ?_; (first | refine zb3 (by exact rfl) ?_ | refine v_k ?_ | fail)) | (refine m00 ?_; (first | refine m52 ?_ | refine m53 ?_ | refine zc7 ?_ | refine m54 ?_ | refine m55 ?_ | refine zbx ?_ | refine m47 ?_ | refine m48 ?_ | refine m49 ?_ | refine m50 ?_ | refine zfn ?_ | refine zfl ?_ | refine zfm ?_ | refine v_k ?_ | refine m51 ?_ | fail)) | (refine m22 ?_; (first | refine m26 ?_ | refine m27 ?_ | fail)) | refine m42 ?_ | refine zab ?_ | refine zac ?_ | refine m08 ?_ | (refine m20 ?_; (first | refine m52 ?_ | refine m53 ?_ | refine zc7 ?_ | refine m54 ?_ | refine m55 ?_ | refine zbx ?_ | refine m47 ?_ | refine m48 ?_ | refine m49 ?_ | refine m50 ?_ | refine zfn ?_ | refine zfl ?_ | refine zfm ?_ | refine v_k ?_ | refine m51 ?_ | fail)) | refine zaj ?_ | refine zam (by (conv => {lhs; whnf}); done) (by first | rfl | assumption) ?_ | refine m23 ?_ | refine m25 ?_ | refine m01 ?_ | refine m24 ?_ | refine zc9 ?_ | fail))
 |refine zat ?_ | refine zau ?_ | refine zas ?_
 |(refine zax ?_; (first | refine zar ?_ | refine zad ?_ | (refine m06 ?_; (first | refine c_T ?_ | refine c_F ?_ | refine c_P ?_ ?_ | refine c_B ?_ ?_ | fail)) | refine zaq ?_ | refine zah ?_ | refine zae ?_ | refine b_exit ?_ | fail))
 |refine m21 ?_
 |refine za4 ?_
 |(refine za5 ?_; (first | refine cA (zwj _) ?_ | refine cA (zzx _ x l off rows cols ld hI q la ao ar ac al hJ q' p hpm (aI kr rl) rl (fun H => zbl H kr rl) (aI kc cl) cl (fun H => zbl H kc cl) hrm hcm hs) ?_ | refine cA (zsd _ x l off rows cols ld hI q la ao ar ac al hJ q' p hpm (aI kr rl) rl (fun H => zbl H kr rl) (aI kc cl) cl (fun H => zbl H kc cl) hrm hcm hs) ?_ | refine cA (zjs _ _ _ _ _ _ _ _ _ _ _ _ (aI kr rl) (aI kc cl) (by exact rfl) (by exact rfl) _ _ 1 (by decide) (fun N => zp2 _ _ _ _ _ _ _ _ _ _ _ _ (aI kr rl) (aI kc cl) (by exact rfl) (by exact rfl) (aD xx xl) xl.length (zcd xx xl) (aD xb bl) bl.length (zcd xb bl) 1 (by decide) (fun N => zrl _ x l off rows cols ld hI q la ao ar ac al hJ q' p (by omega) (aI kr rl) rl (fun H => zbl H kr rl) (aI kc cl) cl (fun H => zbl H kc cl) hbad))) ?_ | refine cA (zlw _ _ _ _ _ _ _ _ _ _ _ _ (aI kr rl) (aI kc cl) (by exact rfl) (by exact rfl) _ _ 1 (by decide) (fun N => zjs _ _ _ _ _ _ _ _ _ _ _ _ (aI kr rl) (aI kc cl) (by exact rfl) (by exact rfl) _ _ 1 (by decide) (fun N => zp2 _ _ _ _ _ _ _ _ _ _ _ _ (aI kr rl) (aI kc cl) (by exact rfl) (by exact rfl) (aD xx xl) xl.length (zcd xx xl) (aD xb bl) bl.length (zcd xb bl) 1 (by decide) (fun N => zrl _ x l off rows cols ld hI q la ao ar ac al hJ q' p (by omega) (aI kr rl) rl (fun H => zbl H kr rl) (aI kc cl) cl (fun H => zbl H kc cl) hbad)))) ?_ | refine cA (z5s _ x l off rows cols ld hI q la ao ar ac al hJ q' p (by omega) (aI kr rl) rl (fun H => zbl H kr rl) (aI kc cl) cl (fun H => zbl H kc cl) hbad) ?_ | refine cA (zjs _ _ _ _ _ _ _ _ _ _ _ _ (aI kr rl) (aI kc cl) (by exact rfl) (by exact rfl) _ _ 3 (by decide) (fun N => zp2 _ _ _ _ _ _ _ _ _ _ _ _ (aI kr rl) (aI kc cl) (by exact rfl) (by exact rfl) (aD xx xl) xl.length (zcd xx xl) (aD xb bl) bl.length (zcd xb bl) 3 (by decide) (fun N => zrm _ x l off rows cols ld hI q la ao ar ac al hJ q' p (by omega) (aI kr rl) rl (fun H => zbl H kr rl) (aI kc cl) cl (fun H => zbl H kc cl) hg hr hz9))) ?_ | refine cA (zlw _ _ _ _ _ _ _ _ _ _ _ _ (aI kr rl) (aI kc cl) (by exact rfl) (by exact rfl) _ _ 3 (by decide) (fun N => zjs _ _ _ _ _ _ _ _ _ _ _ _ (aI kr rl) (aI kc cl) (by exact rfl) (by exact rfl) _ _ 3 (by decide) (fun N => zp2 _ _ _ _ _ _ _ _ _ _ _ _ (aI kr rl) (aI kc cl) (by exact rfl) (by exact rfl) (aD xx xl) xl.length (zcd xx xl) (aD xb bl) bl.length (zcd xb bl) 3 (by decide) (fun N => zrm _ x l off rows cols ld hI q la ao ar ac al hJ q' p (by omega) (aI kr rl) rl (fun H => zbl H kr rl) (aI kc cl) cl (fun H => zbl H kc cl) hg hr hz9)))) ?_ | refine cA (z5t _ x l off rows cols ld hI q la ao ar ac al hJ q' p (by omega) (aI kr rl) rl (fun H => zbl H kr rl) (aI kc cl) cl (fun H => zbl H kc cl) hg hr hz9) ?_ | refine cA (zsd _ x l off n n ld hI q la ao n n al hJ q' p hpm (aI kr rl) rl (fun H => zbl H kr rl) (aI kc cl) cl (fun H => zbl H kc cl) hrm hcm hs) ?_ | refine cA (zjs _ _ _ _ _ _ _ _ _ _ _ _ (aI kr rl) (aI kc cl) (by exact rfl) (by exact rfl) _ _ 4 (by decide) (fun N => zp2 _ _ _ _ _ _ _ _ _ _ _ _ (aI kr rl) (aI kc cl) (by exact rfl) (by exact rfl) (aD xx xl) xl.length (zcd xx xl) (aD xb bl) bl.length (zcd xb bl) 4 (by decide) (fun N => zrn _ x l off ld n hI hG q la ao al hJ hGa q' p hpl hpv (aI kr rl) rl (fun H => zbl H kr rl) (aI kc cl) cl (fun H => zbl H kc cl) hrl hcl hn1 hn z hzn hz hz1))) ?_ | refine cA (zlw _ _ _ _ _ _ _ _ _ _ _ _ (aI kr rl) (aI kc cl) (by exact rfl) (by exact rfl) _ _ 4 (by decide) (fun N => zjs _ _ _ _ _ _ _ _ _ _ _ _ (aI kr rl) (aI kc cl) (by exact rfl) (by exact rfl) _ _ 4 (by decide) (fun N => zp2 _ _ _ _ _ _ _ _ _ _ _ _ (aI kr rl) (aI kc cl) (by exact rfl) (by exact rfl) (aD xx xl) xl.length (zcd xx xl) (aD xb bl) bl.length (zcd xb bl) 4 (by decide) (fun N => zrn _ x l off ld n hI hG q la ao al hJ hGa q' p hpl hpv (aI kr rl) rl (fun H => zbl H kr rl) (aI kc cl) cl (fun H => zbl H kc cl) hrl hcl hn1 hn z hzn hz hz1)))) ?_ | refine cA (z5u _ x l off ld n hI hG q la ao al hJ hGa q' p hpl hpv kr kc rl cl hrl hcl hn1 hn z hzn hz hz1) ?_ | refine cA (zjs _ _ _ _ _ _ _ _ _ _ _ _ (aI kr rl) (aI kc cl) (by exact rfl) (by exact rfl) _ _ 3 (by decide) (fun N => z3v _ x l off ld n hI hG q la ao al hJ hGa q' p hpl hpv (aI kr rl) rl (fun H => zbl H kr rl) (aI kc cl) cl (fun H => zbl H kc cl) hrl hcl hn1 hn hz (aD xx xl) xl.length (zcd xx xl) (aD xb bl) bl.length (zcd xb bl) hxl)) ?_ | refine cA (zlw _ _ _ _ _ _ _ _ _ _ _ _ (aI kr rl) (aI kc cl) (by exact rfl) (by exact rfl) _ _ 3 (by decide) (fun N => zjs _ _ _ _ _ _ _ _ _ _ _ _ (aI kr rl) (aI kc cl) (by exact rfl) (by exact rfl) _ _ 3 (by decide) (fun N => z3v _ x l off ld n hI hG q la ao al hJ hGa q' p hpl hpv (aI kr rl) rl (fun H => zbl H kr rl) (aI kc cl) cl (fun H => zbl H kc cl) hrl hcl hn1 hn hz (aD xx xl) xl.length (zcd xx xl) (aD xb bl) bl.length (zcd xb bl) hxl))) ?_ | refine cA (zjs _ _ _ _ _ _ _ _ _ _ _ _ (aI kr rl) (aI kc cl) (by exact rfl) (by exact rfl) _ _ 3 (by decide) (fun N => z3w _ x l off ld n hI hG q la ao al hJ hGa q' p hpl hpv (aI kr rl) rl (fun H => zbl H kr rl) (aI kc cl) cl (fun H => zbl H kc cl) hrl hcl hn1 hn hz (aD xx xl) xl.length (zcd xx xl) (aD xb bl) bl.length (zcd xb bl) hbl)) ?_ | refine cA (zlw _ _ _ _ _ _ _ _ _ _ _ _ (aI kr rl) (aI kc cl) (by exact rfl) (by exact rfl) _ _ 3 (by decide) (fun N => zjs _ _ _ _ _ _ _ _ _ _ _ _ (aI kr rl) (aI kc cl) (by exact rfl) (by exact rfl) _ _ 3 (by decide) (fun N => z3w _ x l off ld n hI hG q la ao al hJ hGa q' p hpl hpv (aI kr rl) rl (fun H => zbl H kr rl) (aI kc cl) cl (fun H => zbl H kc cl) hrl hcl hn1 hn hz (aD xx xl) xl.length (zcd xx xl) (aD xb bl) bl.length (zcd xb bl) hbl))) ?_ | refine cA (z5r _ x l off ld n hI hG q la ao al hJ hGa q' p hpl hpv kr kc rl cl hrl hcl hn1 hn hz) ?_ | refine cA (zvi _ x l off ld n hI hG q la ao al hJ hGa q' p hpl hpv (aI kr rl) rl (fun H => zbl H kr rl) (aI kc cl) cl (fun H => zbl H kc cl) hrl hcl hn1 hn hz (aD xx xl) xl (fun H' => zce _ xx xl) hxl (aD xb bl) bl (fun H' => zce _ xb bl) hbl (by simp [aI, mx, zgj]) (by simp [aI, mx, zgj]) N hR) ?_ | refine cA (z3y _ _ _ _ _ _ _ _ _ _ _ _ (aI kr rl) (aI kc cl) (by exact rfl) (by exact rfl) (aD xx xl) (aD xb bl) xl bl (fun H' => zce _ xx xl) (fun H' => zce _ xb bl) (by omega) (by omega) _ (fun N9 => zvi _ x l off ld n hI hG q la ao al hJ hGa q' p hpl hpv (aI kr rl) rl (fun H => zbl H kr rl) (aI kc cl) cl (fun H => zbl H kc cl) hrl hcl hn1 hn hz (aD xx xl) xl (fun H' => zce _ xx xl) hxl (aD xb bl) bl (fun H' => zce _ xb bl) hbl (by simp [aI, mx, zgj]) (by simp [aI, mx, zgj]) N hR) hmx) ?_ | refine cA (z3z _ _ _ _ _ _ _ _ _ _ _ _ (aI kr rl) (aI kc cl) (by exact rfl) (by exact rfl) (aD xx xl) (aD xb bl) xl bl (fun H' => zce _ xx xl) (fun H' => zce _ xb bl) (by omega) (by omega) _ (fun N9 => zvi _ x l off ld n hI hG q la ao al hJ hGa q' p hpl hpv (aI kr rl) rl (fun H => zbl H kr rl) (aI kc cl) cl (fun H => zbl H kc cl) hrl hcl hn1 hn hz (aD xx xl) xl (fun H' => zce _ xx xl) hxl (aD xb bl) bl (fun H' => zce _ xb bl) hbl (by simp [aI, mx, zgj]) (by simp [aI, mx, zgj]) N hR) hmx (by rw [zp4 hr]; decide)) ?_ | refine cA (z3x _ _ _ _ _ _ _ _ _ _ _ _ (aI kr rl) (aI kc cl) (by exact rfl) (by exact rfl) (aD xx xl) (aD xb bl) xl bl (fun H' => zce _ xx xl) (fun H' => zce _ xb bl) (by omega) (by omega) _ (fun N9 => zvi _ x l off ld n hI hG q la ao al hJ hGa q' p hpl hpv (aI kr rl) rl (fun H => zbl H kr rl) (aI kc cl) cl (fun H => zbl H kc cl) hrl hcl hn1 hn hz (aD xx xl) xl (fun H' => zce _ xx xl) hxl (aD xb bl) bl (fun H' => zce _ xb bl) hbl (by simp [aI, mx, zgj]) (by simp [aI, mx, zgj]) N hR) hmx (zvq hzl hz1)) ?_ | refine cA (zo0 _ x l off ld n hI hG q la ao al hJ hGa q' p hpl hpv (aI kr rl) rl (fun H => zbl H kr rl) (aI kc cl) cl (fun H => zbl H kc cl) hrl hcl hn1 hn hz (by exact rfl) (by exact rfl) (aD xx xl) xl (fun H' => zce _ xx xl) hxl (aD xb bl) bl (fun H' => zce _ xb bl) hbl N hR) ?_ | refine cA (z0z _ _ _ _ _ _ _ _ (aI kr rl) (aI kc cl) (by exact rfl) (by exact rfl) (aD xx xl) (aD xb bl) xl bl (fun H' => zce _ xx xl) (fun H' => zce _ xb bl) (by omega) (by omega) _ (fun N9 => zo0 _ x l off ld n hI hG q la ao al hJ hGa q' p hpl hpv (aI kr rl) rl (fun H => zbl H kr rl) (aI kc cl) cl (fun H => zbl H kc cl) hrl hcl hn1 hn hz (by exact rfl) (by exact rfl) (aD xx xl) xl (fun H' => zce _ xx xl) hxl (aD xb bl) bl (fun H' => zce _ xb bl) hbl N hR) hmx) ?_ | refine cA (z00 _ _ _ _ _ _ _ _ (aI kr rl) (aI kc cl) (by exact rfl) (by exact rfl) (aD xx xl) (aD xb bl) xl bl (fun H' => zce _ xx xl) (fun H' => zce _ xb bl) (by omega) (by omega) _ (fun N9 => zo0 _ x l off ld n hI hG q la ao al hJ hGa q' p hpl hpv (aI kr rl) rl (fun H => zbl H kr rl) (aI kc cl) cl (fun H => zbl H kc cl) hrl hcl hn1 hn hz (by exact rfl) (by exact rfl) (aD xx xl) xl (fun H' => zce _ xx xl) hxl (aD xb bl) bl (fun H' => zce _ xb bl) hbl N hR) hmx hr) ?_ | refine cA (z0y _ _ _ _ _ _ _ _ (aI kr rl) (aI kc cl) (by exact rfl) (by exact rfl) (aD xx xl) (aD xb bl) xl bl (fun H' => zce _ xx xl) (fun H' => zce _ xb bl) (by omega) (by omega) _ (fun N9 => zo0 _ x l off ld n hI hG q la ao al hJ hGa q' p hpl hpv (aI kr rl) rl (fun H => zbl H kr rl) (aI kc cl) cl (fun H => zbl H kc cl) hrl hcl hn1 hn hz (by exact rfl) (by exact rfl) (aD xx xl) xl (fun H' => zce _ xx xl) hxl (aD xb bl) bl (fun H' => zce _ xb bl) hbl N hR) hmx z hzl hr hz1) ?_ | refine cA (z6n _ _ _ rfl) ?_ | fail))
 |refine m58 ?_
 |refine zd8 ?_
 |refine m05 ?_
 |refine m04 ?_ | refine m02 ?_ | refine m03 ?_ | refine zai ?_
 |intro _))
  all_goals first
    | (exfalso; contradiction)
    | (exfalso; omega)
    | (exfalso; simp_all; done)
    | (refine zal rfl (by simp [mx, mxL, zaf, aOf, zbn]) ?_; exact rfl)
theorem qcn : type_of% @zc5.1 := @zc5.1
theorem qco : type_of% @zc5.2.1 := @zc5.2.1
theorem qcp : type_of% @zc5.2.2.1 := @zc5.2.2.1
theorem qck : type_of% @zc5.2.2.2.1 := @zc5.2.2.2.1
theorem qcl : type_of% @zc5.2.2.2.2.1 := @zc5.2.2.2.2.1
theorem qcm : type_of% @zc5.2.2.2.2.2.1 := @zc5.2.2.2.2.2.1
theorem qcq : type_of% @zc5.2.2.2.2.2.2.1 := @zc5.2.2.2.2.2.2.1
theorem qcr : type_of% @zc5.2.2.2.2.2.2.2.1 := @zc5.2.2.2.2.2.2.2.1
theorem z9p : type_of% @zc5.2.2.2.2.2.2.2.2.1 := @zc5.2.2.2.2.2.2.2.2.1
theorem z9q : type_of% @zc5.2.2.2.2.2.2.2.2.2.1 := @zc5.2.2.2.2.2.2.2.2.2.1
theorem z9o : type_of% @zc5.2.2.2.2.2.2.2.2.2.2 := @zc5.2.2.2.2.2.2.2.2.2.2
theorem zmx (H : List (List AV)) (x : Nat × Nat) (l : List Nat) (off rows cols ld : Int) (hI : MI l.length off rows cols ld) (q : Nat × Nat) (la : List Nat) (ao ar ac al : Int) (hJ : MI la.length ao ar ac al) (q' : Nat × Nat) (p : List Int) (hpm : p.length ≤ 9223372036854775807) (kr : Nat × Nat) (rl : List Int) (hrm : rl.length ≤ 9223372036854775807) (kc : Nat × Nat) (cl : List Int) (hcm : cl.length ≤ 9223372036854775807) (xx : Nat × Nat) (xl : List Nat) (hxm : xl.length ≤ 9223372036854775807) (xb : Nat × Nat) (bl : List Nat) (hbm : bl.length ≤ 9223372036854775807) : Spec Tryz.prog 4 [mt (aD x l) off rows cols ld, .agg [aD q la, .int .i64 ao, .int .i64 ar, .int .i64 ac, .int .i64 al, aI q' p], aI kr rl, aI kc cl, aD xx xl, aD xb bl] H (.bool true) H := by
  by_cases hs : (l.length ≤ 1000 ∧ rows ≤ 20 ∧ cols ≤ 20 ∧ la.length ≤ 1000 ∧ ar ≤ 20 ∧ ac ≤ 20 ∧ p.length ≤ 60 ∧ rl.length ≤ 60 ∧ cl.length ≤ 60)
  · by_cases hb : bl.length ≤ 60
    · by_cases hx : xl.length ≤ 60
      · by_cases hok : zaz l.length off rows cols ld ∧ (zaz la.length ao ar ac al ∧ ar = ac ∧ ar = (p.length : Int) ∧ zdx p)
        · obtain ⟨hg, hr⟩ := hok
          by_cases hz9 : (cols = rows ∧ 1 ≤ rows ∧ rows ≤ 64 ∧ ar = rows ∧ (rl.length : Int) = rows ∧ (cl.length : Int) = rows)
          · obtain ⟨s1, s2, s3, s4, s5, s6⟩ := id hz9
            obtain ⟨r1, r2, r3, r4⟩ := id hr
            subst s1 r2
            obtain ⟨n, rfl⟩ : ∃ n : Nat, cols = (n : Int) := ⟨cols.toNat, by omega⟩
            subst s4
            rcases zp3 (mel la ao al) n with hz | ⟨z, hzn, hz, hz1⟩
            · by_cases hxl : xl.length = n
              · by_cases hbl : bl.length = n
                · obtain ⟨N, hR⟩ := qag (n := n) (f1 := (zcw (mel la ao al) p rl cl n (fbL (mel l off ld) xl bl n))) (f2 := (zcx (mel la ao al) p rl cl n (fbL (mel l off ld) xl bl n))) (by omega) (by omega) (fun y _ => by simp) (fun y _ => by simp)
                  cases hm : feq (zbp (xl.map zbm)) 0 with
                  | false => exact z9p H x l off ld n hI hg q la ao al hJ r1 q' p hpm (by omega) r4 kr rl hrm kc cl hcm (by omega) (by omega) (by omega) (by omega) xx xl hxm xb bl hbm hs hb hx hz hxl hbl N hR hm
                  | true =>
                    obtain ⟨z, h1, h2, h3⟩ := zdu (fun k => feq (bl.getD k 0) 0 = true) bl.length
                    rcases Nat.lt_or_ge z bl.length with h4 | h4
                    · exact z9o H x l off ld n hI hg q la ao al hJ r1 q' p hpm (by omega) r4 kr rl hrm kc cl hcm (by omega) (by omega) (by omega) (by omega) xx xl hxm xb bl hbm hs hb hx hz hxl hbl N hR hm z h4 h2 (by simpa using h3 h4)
                    · exact z9q H x l off ld n hI hg q la ao al hJ r1 q' p hpm (by omega) r4 kr rl hrm kc cl hcm (by omega) (by omega) (by omega) (by omega) xx xl hxm xb bl hbm hs hb hx hz hxl hbl N hR hm (fun k hk => h2 k (by omega))
                · exact qcr H x l off ld n hI hg q la ao al hJ r1 q' p hpm (by omega) r4 kr rl hrm kc cl hcm (by omega) (by omega) (by omega) (by omega) xx xl hxm xb bl hbm hs hb hx hz hxl hbl
              · exact qcq H x l off ld n hI hg q la ao al hJ r1 q' p hpm (by omega) r4 kr rl hrm kc cl hcm (by omega) (by omega) (by omega) (by omega) xx xl hxm xb bl hbm hs hb hx hz hxl
            · exact qcm H x l off ld n hI hg q la ao al hJ r1 q' p hpm (by omega) r4 kr rl hrm kc cl hcm (by omega) (by omega) (by omega) (by omega) xx xl hxm xb bl hbm hs hb hx z hzn hz hz1
          · exact qcl H x l off rows cols ld hI q la ao ar ac al hJ q' p hpm kr rl hrm kc cl hcm xx xl hxm xb bl hbm hs hb hx hg hr hz9
        · exact qck H x l off rows cols ld hI q la ao ar ac al hJ q' p hpm kr rl hrm kc cl hcm xx xl hxm xb bl hbm hs hb hx hok
      · exact qcp H x l off rows cols ld hI q la ao ar ac al hJ q' p hpm kr rl hrm kc cl hcm xx xl hxm xb bl hbm hs hb hx
    · exact qco H x l off rows cols ld hI q la ao ar ac al hJ q' p hpm kr rl hrm kc cl hcm xx xl hxm xb bl hbm hs hb
  · exact qcn H x l off rows cols ld hI q la ao ar ac al hJ q' p hpm kr rl hrm kc cl hcm xx xl hxm xb bl hbm hs
end Go.Sx
