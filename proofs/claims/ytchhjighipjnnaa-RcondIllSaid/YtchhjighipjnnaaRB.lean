/- A part of the proofs of this seat: RB. No condition is set. -/
import Derived.Test.YtchhjighipjnnaaRA
set_option linter.unusedVariables false
set_option linter.unusedSimpArgs false
namespace Go.Sx

/-- what an operation does, blocks where they change -/
structure EffR where
  v : Option EV
  l : Option (Nat × List AV)
  H : Option (List (List AV))
def EffR.eff (e : EffR) (H : List (List AV)) : Eff := ⟨e.v, e.l, e.H.getD H⟩

def newR (cfg : Cfg) (nl : Nat → Bool) (H : List (List AV)) (dst : Option Tmp) (cs : List AV) : Option EffR :=
  match dst with
  | none => none
  | some d =>
    if cfg.esc then some ⟨some (.val (.eptr (.slm H.length cs.length 0 1 cs.length) 0)), none, some (H ++ [cs])⟩
    else if nl d then some ⟨some (.loc d 0), some (d, cs), none⟩ else none
theorem newR_ok {cfg : Cfg} {nl : Nat → Bool} {NL : Nat → Prop} (hnl : ∀ d, nl d = true → NL d) {H : List (List AV)} {dst : Option Tmp} {cs : List AV} {e : EffR} {K : Eff → Prop} (h : newR cfg nl H dst cs = some e) (hK : K (e.eff H)) : newX cfg NL H dst cs K := by
  unfold newR at h; unfold newX
  cases dst with
  | none => cases h
  | some d =>
    dsimp only at h ⊢
    split at h
    · rename_i he; cases h; rw [if_pos he]; exact hK
    · rename_i he
      rw [if_neg he]
      split at h
      · rename_i hn; cases h; exact ⟨hnl d hn, hK⟩
      · cases h

def storeR (cfg : Cfg) (lL : Nat → Option (List AV)) (H : List (List AV)) (x : EV) (vs : List AV) : Option EffR :=
  match x with
  | .loc key off =>
    match lL key with
    | some cs => if off + vs.length ≤ cs.length then some ⟨none, some (key, sc cs off vs), none⟩ else none
    | none => none
  | .val (.eptr (.slm id gen o _ _) off) =>
    match H[id]? with
    | some cs => if cs.length = gen ∧ o + off + vs.length ≤ cs.length ∧ (cfg.n0 ≤ id ∨ mxL vs ≤ cfg.n0) then some ⟨none, none, some (H.set id (sc cs (o + off) vs))⟩ else none
    | none => none
  | _ => none
theorem storeR_ok {cfg : Cfg} {lL : Nat → Option (List AV)} {H : List (List AV)} {x : EV} {vs : List AV} {e : EffR} {K : Eff → Prop} (h : storeR cfg lL H x vs = some e) (hK : K (e.eff H)) : storeX cfg lL H x vs K := by
  unfold storeR at h; unfold storeX
  split at h
  · dsimp only
    split at h
    · rename_i hl
      rw [hl]; dsimp only
      split at h
      · rename_i hh; cases h; exact ⟨hh, hK⟩
      · cases h
    · cases h
  · dsimp only
    split at h
    · rename_i hl
      rw [hl]; dsimp only
      split at h
      · rename_i hh; cases h; exact ⟨hh.1, hh.2.1, hh.2.2, hK⟩
      · cases h
    · cases h
  · cases h

def appR (cfg : Cfg) (sz : Nat) (H : List (List AV)) (s : AV) (n : Nat) (xs : List AV) : Option EffR :=
  match s with
  | .slnil => if n ≤ 4294967296 then (if n = 0 then some ⟨some (.val .slnil), none, none⟩ else some ⟨some (.val (.slm H.length xs.length 0 n sz)), none, some (H ++ [xs])⟩) else none
  | .slm id gen o len z =>
    match H[id]? with
    | some cs => if z = sz ∧ cs.length = gen ∧ o = 0 ∧ len * sz = gen ∧ len + n ≤ 4294967296 ∧ (cfg.n0 ≤ id ∨ mxL xs ≤ cfg.n0) then
        some ⟨some (.val (.slm id (cs.length + xs.length) 0 (len + n) sz)), none, some (H.set id (cs ++ xs))⟩ else none
    | none => none
  | _ => none
theorem appR_ok {cfg : Cfg} {sz : Nat} {H : List (List AV)} {s : AV} {n : Nat} {xs : List AV} {e : EffR} {K : Eff → Prop} (h : appR cfg sz H s n xs = some e) (hK : K (e.eff H)) : appX cfg sz H s n xs K := by
  unfold appR at h; unfold appX
  split at h
  · dsimp only
    split at h
    · rename_i hn
      split at h
      · rename_i h0; cases h; exact ⟨hn, fun _ => hK, fun hh => (hh h0).elim⟩
      · rename_i h0; cases h; exact ⟨hn, fun hh => (h0 hh).elim, fun _ => hK⟩
    · cases h
  · dsimp only
    split at h
    · rename_i hl
      rw [hl]; dsimp only
      split at h
      · rename_i hh; cases h; exact ⟨hh.1, hh.2.1, hh.2.2.1, hh.2.2.2.1, hh.2.2.2.2.1, hh.2.2.2.2.2, hK⟩
      · cases h
    · cases h
  · cases h

def cpyR (cfg : Cfg) (sz : Nat) (H : List (List AV)) (d : AV) (n : Nat) (xs : List AV) : Option EffR :=
  match d with
  | .slm id gen o len z =>
    match H[id]? with
    | some cs => if z = sz ∧ cs.length = gen ∧ (cfg.n0 ≤ id ∨ mxL xs ≤ cfg.n0) ∧ o + len * sz ≤ cs.length then
        some ⟨some (.val (.int .i64 (min n len : Nat))), none, some (H.set id (sc cs o (xs.take (min n len * sz))))⟩ else none
    | none => none
  | _ => none
theorem cpyR_ok {cfg : Cfg} {sz : Nat} {H : List (List AV)} {s : AV} {n : Nat} {xs : List AV} {e : EffR} {K : Eff → Prop} (h : cpyR cfg sz H s n xs = some e) (hK : K (e.eff H)) : cpyX cfg sz H s n xs K := by
  unfold cpyR at h; unfold cpyX
  split at h
  · dsimp only
    split at h
    · rename_i hl
      rw [hl]; dsimp only
      split at h
      · rename_i hh; cases h; exact ⟨hh.1, hh.2.1, hh.2.2.1, hh.2.2.2, hK⟩
      · cases h
    · cases h
  · cases h

/-- a call by the kernel -/
abbrev CallR := Nat → List AV → List (List AV) → Option (AV × List (List AV))

def pureR (P : Program) (ρ : Operand → EV) (lL : Nat → Option (List AV)) (H : List (List AV)) (op : Op) : Option EffR :=
  match pureV P ρ lL H op with
  | some (c, v) => if condP P ρ op then some ⟨some v, none, none⟩ else none
  | none => none
def opR (P : Program) (cfg : Cfg) (call : CallR) (ρ : Operand → EV) (nl : Nat → Bool) (lL : Nat → Option (List AV)) (H : List (List AV)) (o : Oper) : Option EffR :=
  match o.op with
  | .alloc t =>
    match (tzero P t).bind AV.cells with
    | some cs => newR cfg nl H o.dst cs
    | none => none
  | .box t x =>
    match ((ρ x).asV).bind AV.cells with
    | some cs => newR cfg nl H o.dst cs
    | none => none
  | .store t x v =>
    match ((ρ v).asV).bind AV.cells with
    | some vs => if tsz P t = some vs.length ∧ o.dst.isNone = true then storeR cfg lL H (ρ x) vs else none
    | none => none
  | .buildSlice t len parts =>
    match einfo P t with
    | some (s, _, zc) =>
      match fillA (fun i => some (i * s, s)) (zrep len zc) (parts.toList.map fun (i, x) => (i, (ρ x).asV)) with
      | some cs => if zc.length = s ∧ 0 < s ∧ len * s ≤ 16777216 then
          (if o.dst.any cfg.fz.contains then some ⟨some (.val (.sl none len cs)), none, none⟩ else some ⟨some (.val (.slm H.length cs.length 0 len s)), none, some (H ++ [cs])⟩) else none
      | none => none
    | none => none
  | .makeSlice t l c =>
    match einfo P t, (ρ l).asI, (ρ c).asI with
    | some (s, by_, zc), some (_, n), some (_, m) =>
      if n = m ∧ 0 ≤ n ∧ n ≤ 4294967296 ∧ by_ ≤ 1024 ∧ zc.length = s ∧ 0 < s then
        some ⟨some (.val (.slm H.length (zrep n.toNat zc).length 0 n.toNat s)), none, some (H ++ [zrep n.toNat zc])⟩ else none
    | _, _, _ => none
  | .call { callee := .builtin .append, args := args, argTypes := ts } =>
    match args.toList.map (fun x => (ρ x).asV), ts.toList with
    | [some s, some x], [t, tx] =>
      match einfo P t, telem P tx with
      | some (sz, by_, zc), some _ =>
        match srcX H sz x with
        | some (n, xs) => if by_ ≤ 1024 ∧ 0 < by_ ∧ zc.length = sz ∧ 0 < sz then appR cfg sz H s n xs else none
        | none => none
      | _, _ => none
    | _, _ => none
  | .call { callee := .builtin .copy, args := args, argTypes := ts } =>
    match args.toList.map (fun x => (ρ x).asV), ts.toList with
    | [some d, some x], [t, tx] =>
      match (telem P t).bind (tsz P), telem P tx with
      | some sz, some _ =>
        match srcX H sz x with
        | some (n, xs) => if 0 < sz then cpyR cfg sz H d n xs else none
        | none => none
      | _, _ => none
    | _, _ => none
  | .call { callee := .value f, args := args, .. } =>
    match ρ f, argsX ρ args.toList with
    | .val (.func id first caps), some vs =>
      match call id (first ++ vs ++ caps) H with
      | some (r, H') => if (H'.take cfg.n0).all (fun cs => decide (mxL cs ≤ cfg.n0)) then some ⟨some (.val r), none, some H'⟩ else none
      | none => none
    | _, _ => none
  | op => pureR P ρ lL H op

theorem opR_ok {P : Program} {cfg : Cfg} {call : CallR} (hcall : ∀ f args H r H', call f args H = some (r, H') → CSpec P f args H r H') {ρ : Operand → EV} {nl : Nat → Bool} {NL : Nat → Prop} (hnl : ∀ d, nl d = true → NL d)
    {lL : Nat → Option (List AV)} {H : List (List AV)} {o : Oper} {e : EffR} {K : Eff → Prop} (h : opR P cfg call ρ nl lL H o = some e) (hK : K (e.eff H)) : opE P cfg ρ NL lL H o K := by
  have pure : ∀ op, pureR P ρ lL H op = some e →
      (match pureV P ρ lL H op with | some (c, v) => c ∧ K ⟨some v, none, H⟩ | none => False) := by
    intro op h
    unfold pureR at h
    split at h
    · rename_i c v hv
      split at h
      · rename_i hc; cases h; exact ⟨pureV_cond hv hc, hK⟩
      · cases h
    · cases h
  obtain ⟨d, op, ty, pos, aft, gd⟩ := o
  unfold opR at h; unfold opE
  cases op
  case alloc t =>
    dsimp only at h ⊢
    split at h
    · rename_i he; rw [he]; exact newR_ok hnl h hK
    · cases h
  case box t x =>
    dsimp only at h ⊢
    split at h
    · rename_i he; rw [he]; exact newR_ok hnl h hK
    · cases h
  case store t x v =>
    dsimp only at h ⊢
    split at h
    · rename_i he
      rw [he]; dsimp only
      split at h
      · rename_i hh; exact ⟨hh.1, by cases d <;> simp_all, storeR_ok h hK⟩
      · cases h
    · cases h
  case buildSlice t len parts =>
    dsimp only at h ⊢
    split at h
    · rename_i he
      rw [he]; dsimp only
      split at h
      · rename_i he'

        rw [he']; dsimp only
        split at h
        · rename_i hh
          refine ⟨hh.1, hh.2.1, hh.2.2, ?_⟩
          split at h
          · rename_i hz; cases h; rw [if_pos hz]; exact hK
          · rename_i hz; cases h; rw [if_neg hz]; exact hK
        · cases h
      · cases h
    · cases h
  case makeSlice t l c =>
    dsimp only at h ⊢
    split at h
    · rename_i he1 he2 he3
      rw [he1, he2, he3]; dsimp only
      split at h
      · rename_i hh; cases h; exact ⟨hh.1, hh.2.1, hh.2.2.1, hh.2.2.2.1, hh.2.2.2.2.1, hh.2.2.2.2.2, hK⟩
      · cases h
    · cases h
  case call c' =>
    obtain ⟨callee, args, ts⟩ := c'
    cases callee with
    | invoke r m => (dsimp only at h ⊢; exact pure _ h)
    | value f =>
      dsimp only at h ⊢
      split at h
      · rename_i he1 he2
        rw [he1, he2]; dsimp only
        split at h
        · rename_i r H' hc
          split at h
          · rename_i ho
            cases h
            refine ⟨_, _, hcall _ _ _ _ _ hc, fun id cs hid hcs => .inr ?_, hK⟩
            simp only [List.all_eq_true, decide_eq_true_eq] at ho
            exact ho cs (List.mem_of_getElem? (by rw [List.getElem?_take, if_pos hid]; exact hcs))
          · cases h
        · cases h
      · cases h
    | builtin b =>
      cases b
      case append =>
        dsimp only at h ⊢
        split at h
        · rename_i ha hb
          rw [ha, hb]; dsimp only
          split at h
          · rename_i h1 h2
            rw [h1, h2]; dsimp only
            split at h
            · rename_i h3
              rw [h3]; dsimp only
              split at h
              · rename_i hh
                exact ⟨hh.1, hh.2.1, hh.2.2.1, hh.2.2.2, appR_ok h hK⟩
              · cases h
            · cases h
          · cases h
        · cases h
      case copy =>
        dsimp only at h ⊢
        split at h
        · rename_i ha hb
          rw [ha, hb]; dsimp only
          split at h
          · rename_i h1 h2
            rw [h1, h2]; dsimp only
            split at h
            · rename_i h3
              rw [h3]; dsimp only
              split at h
              · rename_i hh
                exact ⟨hh, cpyR_ok h hK⟩
              · cases h
            · cases h
          · cases h
        · cases h
      all_goals (dsimp only at h ⊢; exact pure _ h)
  all_goals (dsimp only at h ⊢; exact pure _ h)
end Go.Sx
