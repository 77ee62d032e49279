/- A part of the proofs of this seat: Sx3. No condition is set. -/
import Derived.Test.YtchhjighipjnnaaSx2
set_option linter.unusedVariables false
namespace Go.Sx

/-! ### the world that a list of blocks stands for -/
structure WRep (w : World) (g : Gh) (H : List (List AV)) : Prop where
  blk : ∀ id cs, H[id]? = some cs → ∃ b δ c e, g.ρ id cs.length = some (b, δ) ∧ w.heap[b]? = some (.cells c e (0, 0)) ∧ δ + cs.length ≤ c.size ∧
    CRep w g cs b δ ∧ ¬ g.Fz b ∧ mxL cs ≤ H.length
  inj : ∀ id id' cs cs' b δ δ', H[id]? = some cs → H[id']? = some cs' → g.ρ id cs.length = some (b, δ) → g.ρ id' cs'.length = some (b, δ') → id = id'
  fzlt : ∀ b, g.Fz b → b < w.heap.size
  rholt : ∀ id gen b δ, g.ρ id gen = some (b, δ) → b < w.heap.size
  rhoid : ∀ id gen p, g.ρ id gen = some p → ∃ cs, H[id]? = some cs ∧ gen ≤ cs.length

def HB (g : Gh) (H : List (List AV)) (b : Nat) : Prop := ∃ id cs δ, H[id]? = some cs ∧ g.ρ id cs.length = some (b, δ)

/-- what has become since a call began -/
structure Since (w₀ : World) (g₀ : Gh) (H₀ : List (List AV)) (w : World) (g : Gh) (H : List (List AV)) : Prop where
  sz : w₀.heap.size ≤ w.heap.size
  keep : ∀ b, b < w₀.heap.size → ¬ HB g₀ H₀ b → w.heap[b]? = w₀.heap[b]?
  bszk : ∀ b n, bsz w₀ b = some n → bsz w b = some n
  fro : ∀ a : Addr, a.block < w₀.heap.size → w.frozen? a = w₀.frozen? a
  fz : ∀ b, g₀.Fz b → g.Fz b
  fznew : ∀ b, g.Fz b → b < w₀.heap.size → g₀.Fz b
  rho : ∀ id gen p, g₀.ρ id gen = some p → g.ρ id gen = some p
  hbi : ∀ id cs b δ, b < w₀.heap.size → H[id]? = some cs → g.ρ id cs.length = some (b, δ) → ∃ cs₀, H₀[id]? = some cs₀ ∧ g₀.ρ id cs₀.length = some (b, δ)
  len : H₀.length ≤ H.length
  same : w.os = w₀.os ∧ w.output = w₀.output ∧ w.tape = w₀.tape

theorem Since.hb {w₀ : World} {g₀ : Gh} {H₀ : List (List AV)} {w : World} {g : Gh} {H : List (List AV)} (h : Since w₀ g₀ H₀ w g H) : ∀ b, b < w₀.heap.size → HB g H b → HB g₀ H₀ b := by
  rintro b hb ⟨id, cs, δ, h1, h2⟩
  obtain ⟨cs₀, h3, h4⟩ := h.hbi id cs b δ hb h1 h2
  exact ⟨id, cs₀, δ, h3, h4⟩

def VReps (w : World) (g : Gh) (as : List AV) (vs : List Value) : Prop := LRep w g as vs

/-- THE CONTRACT OF A FUNCTION: called with values that stand for 'args' where memory stands for 'H', it returns what stands for 'r', memory standing for 'H'' -/
def Spec (P : Program) (f : Nat) (args : List AV) (H : List (List AV)) (r : AV) (H' : List (List AV)) : Prop :=
  ∀ (w : World) (g : Gh) (cargs : Array Value), WRep w g H → LRep w g args cargs.toList →
    Calls P f cargs w fun e w' => ∃ v g', e = .returned v ∧ WRep w' g' H' ∧ Since w g H w' g' H' ∧ VRep w' g' r v

def Enters (P : Program) (f : Nat) : Prop := ∀ (args : Array Value) (w : World), (callFunc f args).run P w = .ok (.enter f args) w
/-- a call: of a function with a body, or of one that the model answers by itself -/
def CSpec (P : Program) (f : Nat) (args : List AV) (H : List (List AV)) (r : AV) (H' : List (List AV)) : Prop :=
  (Enters P f ∧ Spec P f args H r H') ∨
  (H' = H ∧ ∀ (w : World) (g : Gh) (cargs : Array Value), LRep w g args cargs.toList → ∃ v, (callFunc f cargs).run P w = .ok (.value v) w ∧ VRep w g r v)
/-- what was there before leads to nothing new -/
def OldOk (n : Nat) (H H' : List (List AV)) : Prop := ∀ (id : Nat) cs, id < n → H'[id]? = some cs → H[id]? = some cs ∨ mxL cs ≤ n
@[simp] theorem OldOk.refl (n : Nat) (H : List (List AV)) : OldOk n H H := fun _ _ _ h => .inl h

/-! ### the predicate transformer -/
def noLoc (key : Nat) : List (Nat × EV) → Bool
  | [] => true
  | (_, .val _) :: r => noLoc key r
  | (_, .loc k _) :: r => if k = key then false else noLoc key r
/-- no variable points to the box of this key -/
def NoLoc (ρ : Operand → EV) (key : Nat) : Prop := ∀ t off, ρ (.tmp t) ≠ .loc key off

def zrep (n : Nat) (zc : List AV) : List AV :=
  match zc with
  | [z] => List.replicate n z
  | _ => (List.replicate n zc).flatten

/-- what an operation does: the value for its slot, a box that is written, the blocks -/
structure Eff where
  v : Option EV
  l : Option (Nat × List AV)
  H : List (List AV)

def St.app (st : St) (dst : Option Tmp) (e : Eff) : St :=
  { env := match dst, e.v with
      | some d, some v => (d, v) :: st.env
      | some d, none => (d, .val .junk) :: st.env
      | none, _ => st.env
    L := match e.l with
      | some x => x :: st.L
      | none => st.L
    H := e.H }

def newX (cfg : Cfg) (NL : Nat → Prop) (H : List (List AV)) (dst : Option Tmp) (cs : List AV) (K : Eff → Prop) : Prop :=
  match dst with
  | none => False
  | some d =>
    if cfg.esc then K ⟨some (.val (.eptr (.slm H.length cs.length 0 1 cs.length) 0)), none, H ++ [cs]⟩
    else NL d ∧ K ⟨some (.loc d 0), some (d, cs), H⟩

def storeX (cfg : Cfg) (lL : Nat → Option (List AV)) (H : List (List AV)) (x : EV) (vs : List AV) (K : Eff → Prop) : Prop :=
  match x with
  | .loc key off =>
    match lL key with
    | some cs => off + vs.length ≤ cs.length ∧ K ⟨none, some (key, sc cs off vs), H⟩
    | none => False
  | .val (.eptr (.slm id gen o _ _) off) =>
    match H[id]? with
    | some cs => cs.length = gen ∧ o + off + vs.length ≤ cs.length ∧ (cfg.n0 ≤ id ∨ mxL vs ≤ cfg.n0) ∧ K ⟨none, none, H.set id (sc cs (o + off) vs)⟩
    | none => False
  | _ => False

/-- what is appended: the number of its elements, its cells -/
def srcX (H : List (List AV)) (sz : Nat) (x : AV) : Option (Nat × List AV) :=
  match x with
  | .slnil => some (0, [])
  | x => (slen x).bind fun n => (sread H x 0 (n * sz)).map fun xs => (n, xs)

def appX (cfg : Cfg) (sz : Nat) (H : List (List AV)) (s : AV) (n : Nat) (xs : List AV) (K : Eff → Prop) : Prop :=
  match s with
  | .slnil => n ≤ 2 ^ 32 ∧ (n = 0 → K ⟨some (.val .slnil), none, H⟩) ∧
      (n ≠ 0 → K ⟨some (.val (.slm H.length xs.length 0 n sz)), none, H ++ [xs]⟩)
  | .slm id gen o len z =>
    match H[id]? with
    | some cs => z = sz ∧ cs.length = gen ∧ o = 0 ∧ len * sz = gen ∧ len + n ≤ 2 ^ 32 ∧ (cfg.n0 ≤ id ∨ mxL xs ≤ cfg.n0) ∧
        K ⟨some (.val (.slm id (cs.length + xs.length) 0 (len + n) sz)), none, H.set id (cs ++ xs)⟩
    | none => False
  | _ => False

def cpyX (cfg : Cfg) (sz : Nat) (H : List (List AV)) (d : AV) (n : Nat) (xs : List AV) (K : Eff → Prop) : Prop :=
  match d with
  | .slm id gen o len z =>
    match H[id]? with
    | some cs => z = sz ∧ cs.length = gen ∧ (cfg.n0 ≤ id ∨ mxL xs ≤ cfg.n0) ∧ o + len * sz ≤ cs.length ∧
        K ⟨some (.val (.int .i64 (min n len : Nat))), none, H.set id (sc cs o (xs.take (min n len * sz)))⟩
    | none => False
  | _ => False

def argsX (ρ : Operand → EV) (xs : List Operand) : Option (List AV) := (xs.map fun x => (ρ x).asV).mapM id
/-- of an element type: its size, its bytes, its zero's cells -/
def einfo (P : Program) (t : TypeId) : Option (Nat × Nat × List AV) :=
  (telem P t).bind fun e => (P.info? e).bind fun i => (i.zero.map aOf).bind fun z => z.cells.map fun zc => (i.size, i.bytes, zc)

def opE (P : Program) (cfg : Cfg) (ρ : Operand → EV) (NL : Nat → Prop) (lL : Nat → Option (List AV)) (H : List (List AV)) (o : Oper) (K : Eff → Prop) : Prop :=
  match o.op with
  | .alloc t =>
    match (tzero P t).bind AV.cells with
    | some cs => newX cfg NL H o.dst cs K
    | none => False
  | .box t x =>
    match ((ρ x).asV).bind AV.cells with
    | some cs => newX cfg NL H o.dst cs K
    | none => False
  | .store t x v =>
    match ((ρ v).asV).bind AV.cells with
    | some vs => tsz P t = some vs.length ∧ o.dst = none ∧ storeX cfg lL H (ρ x) vs K
    | none => False
  | .buildSlice t len parts =>
    match einfo P t with
    | some (s, _, zc) =>
      match fillA (fun i => some (i * s, s)) (zrep len zc) (parts.toList.map fun (i, x) => (i, (ρ x).asV)) with
      | some cs => zc.length = s ∧ 0 < s ∧ len * s ≤ 2 ^ 24 ∧
          if o.dst.any cfg.fz.contains then K ⟨some (.val (.sl none len cs)), none, H⟩ else K ⟨some (.val (.slm H.length cs.length 0 len s)), none, H ++ [cs]⟩
      | none => False
    | none => False
  | .makeSlice t l c =>
    match einfo P t, (ρ l).asI, (ρ c).asI with
    | some (s, by_, zc), some (_, n), some (_, m) =>
      n = m ∧ 0 ≤ n ∧ n ≤ 2 ^ 32 ∧ by_ ≤ 2 ^ 10 ∧ zc.length = s ∧ 0 < s ∧
        K ⟨some (.val (.slm H.length (zrep n.toNat zc).length 0 n.toNat s)), none, H ++ [zrep n.toNat zc]⟩
    | _, _, _ => False
  | .call { callee := .builtin .append, args := args, argTypes := ts } =>
    match args.toList.map (fun x => (ρ x).asV), ts.toList with
    | [some s, some x], [t, tx] =>
      match einfo P t, telem P tx with
      | some (sz, by_, zc), some _ =>
        match srcX H sz x with
        | some (n, xs) => by_ ≤ 2 ^ 10 ∧ 0 < by_ ∧ zc.length = sz ∧ 0 < sz ∧ appX cfg sz H s n xs K
        | none => False
      | _, _ => False
    | _, _ => False
  | .call { callee := .builtin .copy, args := args, argTypes := ts } =>
    match args.toList.map (fun x => (ρ x).asV), ts.toList with
    | [some d, some x], [t, tx] =>
      match (telem P t).bind (tsz P), telem P tx with
      | some sz, some _ =>
        match srcX H sz x with
        | some (n, xs) => 0 < sz ∧ cpyX cfg sz H d n xs K
        | none => False
      | _, _ => False
    | _, _ => False
  | .call { callee := .value f, args := args, .. } =>
    match ρ f, argsX ρ args.toList with
    | .val (.func id first caps), some vs => ∃ r H', CSpec P id (first ++ vs ++ caps) H r H' ∧ OldOk cfg.n0 H H' ∧ K ⟨some (.val r), none, H'⟩
    | _, _ => False
  | op =>
    match pureV P ρ lL H op with
    | some (c, v) => c ∧ K ⟨some v, none, H⟩
    | none => False

def opX (P : Program) (cfg : Cfg) (o : Oper) (K : St → Prop) (st : St) : Prop :=
  opE P cfg st.ev (fun d => noLoc d st.env = true ∨ NoLoc st.ev d) (lk st.L) st.H o fun e => K (st.app o.dst e)

/-- a variable's value, where it is there, told anew -/
def upd (t : Nat) (v : EV) : List (Nat × EV) → List (Nat × EV)
  | [] => []
  | (k, x) :: r => if k = t then (k, v) :: r else (k, x) :: upd t v r

/-- the operations of a region in the text's order; 'kn': what is known of a guard -/
def exOps (P : Program) (cfg : Cfg) (ops : Array Oper) : Option (Nat × Bool) → List Oper → (St → Prop) → St → Prop
  | _, [], Q, st => Q st
  | kn, o :: rest, Q, st =>
    match o.guard with
    | none => opX P cfg o (exOps P cfg ops (if kn.any (fun p => ((ops[p.1]?).bind (·.dst)) == o.dst) then none else kn) rest Q) st
    | some (j, want) =>
      match (ops[j]?).bind (·.dst) with
      | none => False
      | some t =>
        if o.dst = some t then False else
        if kn = some (j, want) then opX P cfg o (exOps P cfg ops kn rest Q) st else
        if kn = some (j, !want) then exOps P cfg ops kn rest Q (st.put o.dst (.val (.tup []))) else
        match (st.ev (.tmp t)).asB with
        | none => if (st.ev (.tmp t)).isU then exOps P cfg ops (if kn.any (fun p => ((ops[p.1]?).bind (·.dst)) == o.dst) then none else kn) rest Q (st.put o.dst (.val (.tup []))) else False
        | some b =>
          (b = want → opX P cfg o (exOps P cfg ops (some (j, want)) rest Q) ⟨upd t (.val (.bool want)) st.env, st.L, st.H⟩) ∧
          (b = !want → exOps P cfg ops (some (j, !want)) rest Q (St.put ⟨upd t (.val (.bool (!want))) st.env, st.L, st.H⟩ o.dst (.val (.tup []))))

inductive XE where
  | normal
  | exit (id : Nat)
  | ret

def prune (ks : List Nat) (st : St) : St :=
  ⟨ks.filterMap (fun k => (lk st.env k).map (k, ·)), ks.filterMap (fun k => (lk st.L k).map (k, ·)), st.H⟩

def roundsX (X : (XE → St → Prop) → St → Prop) (ks : List Nat) (Q : XE → St → Prop) : Nat → St → Prop
  | 0, _ => False
  | n + 1, st => X (fun e s => match e with | .normal => roundsX X ks Q n (prune ks s) | e => Q e s) st

end Go.Sx
