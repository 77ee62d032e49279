/- A part of the proofs of this seat: YD. No condition is set. -/
import Derived.Test.YtdlgclpoomlijaaYC
set_option linter.unusedVariables false
set_option linter.unusedSimpArgs false
namespace Go.Sx

inductive DFl where
  | lt
  | ld (hl : Bool)
  | mn (q : Bool)
  | bx
  | lb (k : Nat)
  | ms (k : Nat)
  | fz

def isLt : Op → Bool
  | .move _ | .assign _ | .pick .. | .binOp .. | .unOp .. => true
  | o => isPure o
def isLoad : Op → Bool
  | .load .. => true
  | .binOp .eql .. | .binOp .neq .. => true
  | _ => false

def zt0 (kw : List (Nat × List Nat)) (i : Nat) : Bool := kw.all fun p => !p.2.contains i
theorem zxl {kw : List (Nat × List Nat)} {i : Nat} (h : zt0 kw i = true) : ∀ k l, lk kw k = some l → i ∉ l := by
  induction kw with
  | nil => intro k l h; simp [lk] at h
  | cons p r ih =>
    intro k l hl
    simp only [zt0, List.all_cons, Bool.and_eq_true, Bool.not_eq_true'] at h
    obtain ⟨k', l'⟩ := p
    simp only [lk] at hl
    split at hl
    · cases hl; simpa using h.1
    · exact ih h.2 k l hl
def zqj : Op → Bool
  | .buildSlice .. => true
  | _ => false
def zpm (esc : Bool) (fz : List Nat) (kw : List (Nat × List Nat)) (ops : Array Oper) (ch : List Nat) (fin : Array Bool → Bool) : List (Nat × DFl) → Array Bool → Bool
  | [], listed => fin listed
  | (i, f) :: r, listed =>
    (match ops[i]?, f with
    | some o, .lt => isLt o.op && !isLoad o.op && (Region.ready .any ops listed).contains i && Region.free .any ops listed i && !ch.contains i && zt0 kw i
    | some o, .ld hl => isLt o.op && (Region.ready .any ops listed).contains i && Region.free .any ops listed i && !ch.contains i && zt0 kw i && (!hl || ch.all fun m => zv4 ops ops.size m i)
    | some o, .mn q => Region.ready .any ops listed == [i] && (q || !zdd ch (listed.setIfInBounds i true))
    | some o, .bx => !zet o.op && !esc && (Region.ready .any ops listed).contains i && Region.free .any ops listed i && !ch.contains i && zt0 kw i
    | some o, .lb k => isLt o.op && (Region.ready .any ops listed).contains i && Region.free .any ops listed i && !ch.contains i && zt0 kw i && (match lk kw k with | some l => l.all fun m => zv4 ops ops.size m i | none => false)
    | some o, .ms k => Region.ready .any ops listed == [i] && (match lk kw k with | some l => l.contains i | none => false)
    | some o, .fz => zqj o.op && o.dst.any fz.contains && (Region.ready .any ops listed).contains i && Region.free .any ops listed i && !ch.contains i && zt0 kw i
    | none, _ => false) && zpm esc fz kw ops ch fin r (listed.setIfInBounds i true)
def zk1 (ops : Array Oper) (listed : Array Bool) : Bool := (Region.ready .any ops listed).isEmpty
def z4q (esc : Bool) (fz : List Nat) (kw : List (Nat × List Nat)) (ops : Array Oper) (ch : List Nat) (fl : List (Nat × DFl)) (listed : Array Bool) : Bool := zpm esc fz kw ops ch (zk1 ops) fl listed
def zuu (ops : Array Oper) : List (Oper × Nat) → Bool
  | [] => true
  | (o, i) :: r => (zet o.op || o.dst.isNone || ops.toList.zipIdx.all fun p => p.2 == i || p.1.dst != o.dst) && zuu ops r
def z2x (esc : Bool) (fz : List Nat) (kw : List (Nat × List Nat)) (ops : Array Oper) (ch : List Nat) (fl : List (Nat × DFl)) : Bool :=
  (esc || ops.toList.all (fun o => zet o.op) || zuu ops ops.toList.zipIdx) && z4q esc fz kw ops ch fl (Array.replicate ops.size false) && fl.length == ops.size
def zhj (esc : Bool) (env : List (Nat × EV)) : List Oper → Bool
  | [] => true
  | o :: r => (zet o.op || esc || (match o.dst with | some d => zgy d env | none => true)) && zhj esc env r
theorem znt {ops : Array Oper} : ∀ {l : List (Oper × Nat)}, zuu ops l = true → ∀ o i, (o, i) ∈ l → zet o.op = false → ∀ (k : Nat) ok, ops[k]? = some ok → i ≠ k → ∀ d, o.dst = some d → ok.dst ≠ some d
  | [], _, o, i, h, _, _, _, _, _, _, _ => by simp at h
  | (o', i') :: r, h, o, i, hm, hb, k, ok, hk, hik, d, hd => by
    simp only [zuu, Bool.and_eq_true, Bool.or_eq_true] at h
    rcases List.mem_cons.1 hm with h1 | h1
    · cases h1
      rcases h.1 with (h2 | h2) | h2
      · rw [hb] at h2; cases h2
      · rw [hd] at h2; cases h2
      · rw [List.all_eq_true] at h2
        have := h2 (ok, k) (by rw [List.mem_zipIdx_iff_getElem?]; simpa using hk)
        simp only [Bool.or_eq_true, beq_iff_eq, bne_iff_ne, ne_eq] at this
        rcases this with h3 | h3
        · exact (hik h3.symm).elim
        · rw [hd] at h3; exact h3
    · exact znt h.2 o i h1 hb k ok hk hik d hd
theorem zii {esc : Bool} {st : St} : ∀ {l : List Oper}, zhj esc st.env l = true → esc = false → ∀ o ∈ l, zet o.op = false → ∀ d, o.dst = some d → zde st.ev d
  | [], _, _, o, h, _, _, _ => by simp at h
  | o' :: r, h, he, o, hm, hb, d, hd => by
    simp only [zhj, Bool.and_eq_true, Bool.or_eq_true] at h
    rcases List.mem_cons.1 hm with h1 | h1
    · subst h1
      rcases h.1 with (h2 | h2) | h2
      · rw [hb] at h2; cases h2
      · rw [he] at h2; cases h2
      · rw [hd] at h2; exact zg3 (.inl h2)
    · exact zii h.2 he o h1 hb d hd

def z16 : EV → Bool
  | .val (.eptr _ _) => true
  | _ => false
def ckX (f : DFl) (nY : NY) (o : Oper) (st s : St) : Prop :=
  match f with
  | .lt => True
  | .fz => True
  | .ld hl =>
    match o.op with
    | .load _ x =>
      match st.ev x with
      | .loc k _ => k ∉ nY.ks
      | .val (.eptr (.slm id _ _ _ _) _) => hl = true ∨ nY.W id = true
      | _ => True
    | .binOp op _ x _ _ => match op with
      | .eql | .neq => z16 (st.ev x) = true → hl = true
      | _ => True
    | _ => True
  | .bx => ∀ d, o.dst = some d → d ∈ nY.ks ∧ lk nY.kw d = none
  | .lb k => match o.op with
    | .load _ x => match st.ev x with
      | .loc k' _ => k' = k
      | _ => False
    | _ => False
  | .ms k => (∀ k', k' ≠ k → (k' ∉ nY.ks ∨ (lk nY.kw k').isSome = true) → lk s.L k' = lk st.L k') ∧ s.H = st.H
  | .mn q => (∀ k, (k ∉ nY.ks ∨ (lk nY.kw k).isSome = true) → lk s.L k = lk st.L k) ∧ (∀ id, (q = true ∨ nY.W id = true) → id < st.H.length → s.H[id]? = st.H[id]?)

def exD (P : Program) (cfg : Cfg) (ops : Array Oper) (nY : NY) : Option (Nat × Bool) → List (Nat × DFl) → (St → Prop) → St → Prop
  | _, [], Q, st => Q st
  | kn, (i, f) :: rest, Q, st =>
    match ops[i]? with
    | none => False
    | some o =>
      match o.guard with
      | none => opX P cfg o (fun s => ckX f nY o st s ∧ exD P cfg ops nY (if kn.any (fun p => ((ops[p.1]?).bind (·.dst)) == o.dst) then none else kn) rest Q s) st
      | some (j, want) =>
        match (ops[j]?).bind (·.dst) with
        | none => False
        | some t =>
          if o.dst = some t then False else
          if kn = some (j, want) then opX P cfg o (fun s => ckX f nY o st s ∧ exD P cfg ops nY kn rest Q s) st else
          if kn = some (j, !want) then exD P cfg ops nY kn rest Q (st.put o.dst (.val (.tup []))) else
          match (st.ev (.tmp t)).asB with
          | none => if (st.ev (.tmp t)).isU then exD P cfg ops nY (if kn.any (fun p => ((ops[p.1]?).bind (·.dst)) == o.dst) then none else kn) rest Q (st.put o.dst (.val (.tup []))) else False
          | some b =>
            (b = want → opX P cfg o (fun s => ckX f nY o st s ∧ exD P cfg ops nY (some (j, want)) rest Q s) ⟨upd t (.val (.bool want)) st.env, st.L, st.H⟩) ∧
            (b = !want → exD P cfg ops nY (some (j, !want)) rest Q (St.put ⟨upd t (.val (.bool (!want))) st.env, st.L, st.H⟩ o.dst (.val (.tup []))))

def KnA (ops : Array Oper) (kn : Option (Nat × Bool)) (st : St) : Prop :=
  match kn with
  | none => True
  | some (j, b) => ∃ t, (ops[j]?).bind (·.dst) = some t ∧ st.ev (.tmp t) = .val (.bool b)
def zcr (ops : Array Oper) (o : Oper) (st : St) : Option Bool :=
  match o.guard with
  | none => some true
  | some (j, want) => ((ops[j]?).bind (·.dst)).bind fun t => if (st.ev (.tmp t)).isU then some false else ((st.ev (.tmp t)).asB).map fun b => b == want

section
variable {P : Program} {cfg : Cfg} {ops : Array Oper} {nY : NY} {ch : List Nat}
theorem zit {o : Oper} {K : St → Prop} {st : St} (hw : zcr ops o st = some true) (h : opX P cfg o K st) : zjt P cfg ops o K st := by
  unfold zcr at hw
  unfold zjt
  split at hw
  · rename_i hg; simp only [hg]; exact h
  · rename_i j want hg
    simp only [hg]
    cases ht : (ops[j]?).bind (·.dst) with
    | none => rw [ht] at hw; simp at hw
    | some t =>
      rw [ht] at hw
      simp only [Option.bind_some] at hw
      split at hw
      · simp at hw
      cases hb : (st.ev (.tmp t)).asB with
      | none => rw [hb] at hw; simp at hw
      | some b => rw [hb] at hw; simp at hw; simp only [hb, hw, if_true]; exact h
theorem zq1 {o : Oper} {K : St → Prop} {st : St} (hw : zcr ops o st = some false) (h : K (st.put o.dst (.val (.tup [])))) : zjt P cfg ops o K st := by
  unfold zcr at hw
  unfold zjt
  split at hw
  · simp at hw
  · rename_i j want hg
    simp only [hg]
    cases ht : (ops[j]?).bind (·.dst) with
    | none => rw [ht] at hw; simp at hw
    | some t =>
      rw [ht] at hw
      simp only [Option.bind_some] at hw
      split at hw
      · rename_i hu
        have hq : (st.ev (.tmp t)).asB = none := by rw [zql hu]; rfl
        simp only [hq, hu, if_true]; exact h
      cases hb : (st.ev (.tmp t)).asB with
      | none => rw [hb] at hw; simp at hw
      | some b =>
        rw [hb] at hw; simp at hw
        have : ¬ b = want := by cases b <;> cases want <;> simp_all
        simp only [hb, this, if_false]; exact h
theorem zbn {o : Oper} {s st : St} (h : ∀ t ∈ o.looksAt ops, s.ev (.tmp t) = st.ev (.tmp t)) : zcr ops o s = zcr ops o st := by
  unfold zcr
  split
  · rfl
  · rename_i j want hg
    cases ht : (ops[j]?).bind (·.dst) with
    | none => rfl
    | some t =>
      simp only [Option.bind_some]
      rw [h t (by simp only [Oper.looksAt, List.mem_append, hg, ht]; simp)]
theorem zhu {o : Oper} {K : St → Prop} {st : St} (h : opX P cfg o K st) : opX P cfg o (fun s => (∀ t, o.dst ≠ some t → lk s.env t = lk st.env t) ∧ K s) st :=
  zg4 (fun _ _ => rfl) (fun _ _ h => h) (fun e he => ⟨fun t ht => zc5 ht, he⟩) h
theorem zf0 {o : Oper} {K K' : St → Prop} {st : St} (h : opX P cfg o K st) (hK : ∀ s, K s → K' s) : opX P cfg o K' st :=
  zg4 (fun _ _ => rfl) (fun _ _ h => h) (fun e he => hK _ he) h
theorem zng {o : Oper} {K : St → Prop} {st : St} (h : isLt o.op = true) : opX P cfg o K st = zdb (zas P st.ev (lk st.L) st.H o.op) st o.dst K := by
  obtain ⟨d, op, ty, pos, aft, gd⟩ := o
  obtain ⟨e, L, H⟩ := st
  cases op
  case move x => simp only [opX, opE, zas, zdb, zdf]
  case assign x => simp only [opX, opE, zas, zdb, zdf]
  case pick x y z => simp only [opX, opE, zdb, zdf]; rfl
  case binOp => simp only [opX, opE, zdb, zdf]; rfl
  case unOp => simp only [opX, opE, zdb, zdf]; rfl
  all_goals exact zbu _ _ _ _ _ _ _ _ _ _ _ _ h

theorem z1o {st : St} {t : Nat} {b : Bool} (h : (st.ev (.tmp t)).asB = some b) : (⟨upd t (.val (.bool b)) st.env, st.L, st.H⟩ : St) = st ∧ st.ev (.tmp t) = .val (.bool b) := by
  have hq : st.ev (.tmp t) = .val (.bool b) := zif h
  obtain ⟨e, L, H⟩ := st
  exact ⟨by rw [upd_same (zjc hq)], hq⟩

theorem zid {o : Oper} {j : Nat} {b : Bool} {t : Nat} {s st : St} (ht : (ops[j]?).bind (·.dst) = some t) (hd : o.dst ≠ some t) (hv : st.ev (.tmp t) = .val (.bool b)) (ha : ∀ t, o.dst ≠ some t → lk s.env t = lk st.env t) : KnA ops (some (j, b)) s :=
  ⟨t, ht, by rw [zfv (ha t hd)]; exact hv⟩

theorem zwt {kn : Option (Nat × Bool)} {i : Nat} {f : DFl} {rest : List (Nat × DFl)} {Q : St → Prop} {st : St} {o : Oper} (ho : ops[i]? = some o) (hkn : KnA ops kn st) (hx : exD P cfg ops nY kn ((i, f) :: rest) Q st) :
    (zcr ops o st = some true ∧ opX P cfg o (fun s => ckX f nY o st s ∧ ∃ kn', KnA ops kn' s ∧ exD P cfg ops nY kn' rest Q s) st) ∨
    (zcr ops o st = some false ∧ ∃ kn', KnA ops kn' (st.put o.dst (.val (.tup []))) ∧ exD P cfg ops nY kn' rest Q (st.put o.dst (.val (.tup [])))) := by
  unfold exD at hx
  simp only [ho] at hx
  split at hx
  · rename_i hg
    refine .inl ⟨by simp [zcr, hg], zf0 (zhu hx) fun s ⟨ha, hc, hh⟩ => ⟨hc, _, ?_, hh⟩⟩
    split
    · trivial
    · rename_i hany
      cases kn with
      | none => trivial
      | some p =>
        obtain ⟨j, b⟩ := p
        obtain ⟨t, ht, hv⟩ := hkn
        refine zid ht (fun hd => hany ?_) hv ha
        simp [ht, hd]
  · rename_i j want hg
    split at hx
    · exact hx.elim
    rename_i t ht
    split at hx
    · exact hx.elim
    rename_i hdt
    split at hx
    · rename_i hk
      subst hk
      obtain ⟨t', ht', hv⟩ := hkn
      rw [ht] at ht'; simp only [Option.some.injEq] at ht'; subst ht'
      refine .inl ⟨by simp [zcr, hg, ht, hv, EV.asB, EV.isU], zf0 (zhu hx) fun s ⟨ha, hc, hh⟩ => ⟨hc, _, zid ht hdt hv ha, hh⟩⟩
    split at hx
    · rename_i hk
      subst hk
      obtain ⟨t', ht', hv⟩ := hkn
      rw [ht] at ht'; simp only [Option.some.injEq] at ht'; subst ht'
      refine .inr ⟨by simp [zcr, hg, ht, hv, EV.asB, EV.isU], _, zid ht hdt hv (fun t h => zbl h), hx⟩
    split at hx
    · split at hx
      · rename_i hu
        refine .inr ⟨by simp [zcr, hg, ht, hu], _, ?_, hx⟩
        split
        · trivial
        · rename_i hany
          cases kn with
          | none => trivial
          | some p =>
            obtain ⟨j', b'⟩ := p
            obtain ⟨t', ht', hv⟩ := hkn
            exact zid ht' (fun hd => hany (by simp [ht', hd])) hv (fun t h => zbl h)
      · exact hx.elim
    rename_i b hb
    have hnu : (st.ev (.tmp t)).isU = false := by rw [zif hb]; rfl
    obtain ⟨hu, hv⟩ := z1o hb
    by_cases hbw : b = want
    · subst hbw
      have h1 := hx.1 rfl
      rw [hu] at h1
      exact .inl ⟨by simp [zcr, hg, ht, hb, hnu], zf0 (zhu h1) fun s ⟨ha, hc, hh⟩ => ⟨hc, _, zid ht hdt hv ha, hh⟩⟩
    · have hbn : b = !want := by cases b <;> cases want <;> simp_all
      have h2 := hx.2 hbn
      rw [← hbn, hu] at h2
      exact .inr ⟨by simp [zcr, hg, ht, hb, hbw, hnu], _, zid ht hdt hv (fun t h => zbl h), h2⟩

theorem zrf {o : Oper} {hl : Bool} {c : Prop} {v : EV} {s st : St} {listed' : Array Bool} (hlt : isLt o.op = true) (hck : ckX (.ld hl) nY o st st) (hR : RR nY ch listed' st s) (hq : hl = true → zdd ch listed' = true)
    (hag : ∀ t ∈ o.looksAt ops, s.ev (.tmp t) = st.ev (.tmp t)) (hv : zas P st.ev (lk st.L) st.H o.op = some (c, v)) : zas P s.ev (lk s.L) s.H o.op = some (c, v) := by
  have hev : ∀ x ∈ o.op.operands.toList, s.ev x = st.ev x := by
    intro x hx
    cases x with
    | tmp t => exact hag t (by simp only [Oper.looksAt, List.mem_append, List.mem_filterMap]; exact .inl ⟨_, hx, rfl⟩)
    | const _ => rfl
    | func _ => rfl
    | global _ => rfl
  rw [zef o.op hev]
  generalize hop : o.op = op at *
  cases op
  case load t x =>
    simp only [zas] at hv ⊢
    simp only [ckX, hop] at hck
    split at hv
    · rename_i key off he
      rw [he] at hck
      (try rw [he])
      (try dsimp only at hck)
      (try dsimp only)
      rw [hR.1 key (.inl hck)]; exact hv
    · rename_i sl off he
      rw [he] at hck
      (try rw [he])
      (try dsimp only at hck)
      (try dsimp only)
      have : ∀ n, (zbx st.H sl off n).isSome → zbx s.H sl off n = zbx st.H sl off n := by
        intro n hn
        cases sl
        case slm id gen o' len sz =>
          simp only [zbx] at hn ⊢
          cases hh : st.H[id]? with
          | none => rw [hh] at hn; simp at hn
          | some cs => rw [hR.2 id (hck.imp hq (fun h => h)) (List.getElem?_eq_some_iff.1 hh).1, hh]
        all_goals rfl
      cases hn : tsz P t with
      | none => rw [hn] at hv; simp at hv
      | some n =>
        rw [hn] at hv
        simp only [Option.bind_some] at hv ⊢
        cases hr : zbx st.H sl off n with
        | none => rw [hr] at hv; simp at hv
        | some l => rw [this n (by rw [hr]; rfl)]; exact hv
    · simp at hv
  case binOp op t x y t' =>
    simp only [zas] at hv ⊢
    split at hv
    · rename_i he; (try rw [he]); exact hv
    · rename_i he
      (try rw [he])
      simp only [Option.map_eq_some_iff] at hv ⊢
      obtain ⟨v', h1, h2⟩ := hv
      refine ⟨v', ?_, h2⟩
      have key : ∀ {a b : AV} {m n : Nat} {r : Bool}, zdd ch listed' = true → ptrEq st.H a m b n = some r → ptrEq s.H a m b n = some r := by
        intro a b m n r hq' h
        have cg : ∀ id gen, zls st.H id gen = true → zls s.H id gen = true := by
          intro id gen hc
          unfold zls at hc ⊢
          cases hh : st.H[id]? with
          | none => rw [hh] at hc; cases hc
          | some cs => rw [hR.2 id (.inl hq') (List.getElem?_eq_some_iff.1 hh).1, hh]; rw [hh] at hc; exact hc
        unfold ptrEq at h ⊢
        split at h
        · split at h
          · rename_i hc
            simp only [Bool.and_eq_true] at hc
            simp only [cg _ _ hc.1, cg _ _ hc.2, Bool.and_self, if_true]; exact h
          · cases h
        · exact h
        · split at h
          · rename_i hc; simp only [cg _ _ hc, if_true]; exact h
          · cases h
        · split at h
          · rename_i hc; simp only [cg _ _ hc, if_true]; exact h
          · cases h
        · cases h
      have hep : ∀ {s' : AV} {m : Nat}, (op = .eql ∨ op = .neq) → st.ev x = .val (.eptr s' m) → zdd ch listed' = true := by
        intro s' m ho he'
        apply hq
        simp only [ckX, hop] at hck
        rcases ho with rfl | rfl <;> exact hck (by rw [he']; rfl)
      unfold zxz at h1 ⊢
      split at h1
      · rename_i he1 he2
        split at h1
        · rename_i ht
          simp only [Option.map_eq_some_iff] at h1
          obtain ⟨r, h3, h4⟩ := h1
          simp only [ht, if_true, key (hep (.inl rfl) he1) h3, Option.map_some, h4]
        · cases h1
      · rename_i he1 he2
        split at h1
        · rename_i ht
          simp only [Option.map_eq_some_iff] at h1
          obtain ⟨r, h3, h4⟩ := h1
          simp only [ht, if_true, key (hep (.inr rfl) he1) h3, Option.map_some, h4]
        · cases h1
      · cases h1
  case slice t x lo hi mx => cases mx <;> exact hv
  all_goals first | exact hv | (simp [isLt, isPure] at hlt; done) | skip
  case makeFunc f first caps => cases f <;> exact hv
  case call c' =>
    obtain ⟨callee, args, ts⟩ := c'
    cases callee with
    | value f => simp [isLt, isPure] at hlt
    | invoke r m => simp [isLt, isPure] at hlt
    | builtin b => cases b <;> first | exact hv | (simp [isLt, isPure] at hlt; done)

def zft (P : Program) (ρ : Operand → EV) : Op → Option (List AV)
  | .alloc t => (zh4 P t).bind AV.cells
  | .box _ x => ((ρ x).asV).bind AV.cells
  | _ => none
theorem zxm {o : Oper} {K : St → Prop} {st : St} (hb : zet o.op = false) (he : cfg.esc = false) (h : opX P cfg o K st) : ∃ d cs, o.dst = some d ∧ zft P st.ev o.op = some cs ∧ K (st.putB o.dst (.loc d 0) (some (d, cs))) := by
  obtain ⟨dd, op, ty, pos, aft, gd⟩ := o
  unfold opX opE at h
  cases op <;> (try (simp [zet] at hb; done)) <;> dsimp only at h
  all_goals
    split at h
    · rename_i cs hc
      unfold newX at h
      cases dd with
      | none => exact h.elim
      | some d =>
        simp only [he, Bool.false_eq_true, if_false] at h
        exact ⟨d, cs, rfl, hc, h.2⟩
    · exact h.elim
theorem zwf {o : Oper} {K : St → Prop} {st : St} {d : Nat} {cs : List AV} (hb : zet o.op = false) (he : cfg.esc = false) (hd : o.dst = some d) (hc : zft P st.ev o.op = some cs) (hn : zde st.ev d) (h : K (st.putB o.dst (.loc d 0) (some (d, cs)))) : opX P cfg o K st := by
  obtain ⟨dd, op, ty, pos, aft, gd⟩ := o
  dsimp only at hd; subst hd
  unfold opX opE
  cases op <;> (try (simp [zet] at hb; done)) <;> dsimp only
  case alloc t =>
    rw [show (zh4 P t).bind AV.cells = some cs from hc]
    simp only [newX, he, Bool.false_eq_true, if_false]
    exact ⟨.inr hn, h⟩
  case box t x =>
    rw [show ((st.ev x).asV).bind AV.cells = some cs from hc]
    simp only [newX, he, Bool.false_eq_true, if_false]
    exact ⟨.inr hn, h⟩
theorem zia {ρ ρ' : Operand → EV} {op : Op} (h : ∀ x ∈ op.operands.toList, ρ x = ρ' x) : zft P ρ op = zft P ρ' op := by
  cases op <;> (try rfl)
  case box t x => simp only [zft, h x (by simp [Op.operands])]

def zl0 (P : Program) (ρ : Operand → EV) : Op → Option AV
  | .buildSlice t len parts =>
    match zic P t with
    | some (s, _, zc) =>
      match zdp (fun i => some (i * s, s)) (zkb len zc) (parts.toList.map fun (i, x) => (i, (ρ x).asV)) with
      | some cs => if zc.length = s ∧ 0 < s ∧ len * s ≤ 2 ^ 24 then some (.sl none len cs) else none
      | none => none
    | none => none
  | _ => none
theorem z0r {o : Oper} {K : St → Prop} {st : St} (hb : zqj o.op = true) (hf : o.dst.any cfg.fz.contains = true) (h : opX P cfg o K st) : ∃ v, zl0 P st.ev o.op = some v ∧ K (st.put o.dst (.val v)) := by
  obtain ⟨dd, op, ty, pos, aft, gd⟩ := o
  unfold opX opE at h
  cases op <;> (try (simp [zqj] at hb; done)) <;> dsimp only at h hf
  rename_i t len parts
  split at h
  · rename_i h1
    split at h
    · rename_i cs h2
      obtain ⟨a, b, c, d⟩ := h
      rw [if_pos hf] at d
      refine ⟨.sl none len cs, ?_, ?_⟩
      · simp only [zl0, h1]
        rw [h2]
        dsimp only
        rw [if_pos ⟨a, b, c⟩]
      · rw [zdf] at d; exact d
    · exact h.elim
  · exact h.elim
theorem zzy {o : Oper} {K : St → Prop} {st : St} {v : AV} (hb : zqj o.op = true) (hf : o.dst.any cfg.fz.contains = true) (hv : zl0 P st.ev o.op = some v) (h : K (st.put o.dst (.val v))) : opX P cfg o K st := by
  obtain ⟨dd, op, ty, pos, aft, gd⟩ := o
  unfold opX opE
  cases op <;> (try (simp [zqj] at hb; done)) <;> dsimp only at hf hv h ⊢
  simp only [zl0] at hv
  split at hv
  · rename_i h1
    rw [h1]
    dsimp only
    split at hv
    · rename_i cs h2
      rw [h2]
      dsimp only
      split at hv
      · rename_i hc
        refine ⟨hc.1, hc.2.1, hc.2.2, ?_⟩
        rw [if_pos hf, zdf]
        cases hv; exact h
      · cases hv
    · cases hv
  · cases hv
theorem zl3 {ρ ρ' : Operand → EV} {op : Op} (h : ∀ x ∈ op.operands.toList, ρ x = ρ' x) : zl0 P ρ op = zl0 P ρ' op := by
  cases op <;> (try rfl)
  case buildSlice t n ps =>
    have hm : ps.toList.map (fun p : Nat × Operand => (p.1, (ρ p.2).asV)) = ps.toList.map (fun p => (p.1, (ρ' p.2).asV)) :=
      List.map_congr_left (fun p hp => by rw [h p.2 (by simp [Op.operands]; exact ⟨p.1, by simpa using hp⟩)])
    simp only [zl0]
    rw [hm]

def clQ (Q : St → Prop) : St → Prop := fun s => ∃ s0, Eqv s0 s ∧ Q s0

theorem ze2 {Q Q' : St → Prop} {fin : Array Bool → Bool} {m : Nat} (hu : zi2 cfg ops) (hks : ∀ k l, lk nY.kw k = some l → ¬ k ∉ nY.ks)
    (htail : ∀ (listed : Array Bool) (st : St), Closed ops listed → zep cfg ops listed st → fin listed = true → Q st → zkd P cfg ops nY ch (clQ Q') m listed st) : ∀ (fl : List (Nat × DFl)) (kn : Option (Nat × Bool)) (listed : Array Bool) (st : St), zpm cfg.esc cfg.fz nY.kw ops ch fin fl listed = true → Closed ops listed → zep cfg ops listed st → KnA ops kn st →
    exD P cfg ops nY kn fl Q st → zkd P cfg ops nY ch (clQ Q') (m + fl.length) listed st
  | [], kn, listed, st, hc, hcl, htm, hkn, hx => htail listed st hcl htm (by simpa [zpm] using hc) hx
  | (i, f) :: rest, kn, listed, st, hc, hcl, htm, hkn, hx => by
    simp only [zpm, Bool.and_eq_true] at hc
    obtain ⟨hc1, hc2⟩ := hc
    cases ho : ops[i]? with
    | none => rw [ho] at hc1; simp at hc1
    | some o =>
      rw [ho] at hc1
      have h1 := zwt ho hkn hx
      have hKe := zmr (P := P) (cfg := cfg) (ops := ops) (nY := nY) (ch := ch) (K := clQ Q') (fun s t he ⟨s0, h1, h2⟩ => ⟨s0, h1.trans he, h2⟩)
      have hev : ∀ {s : St}, (∀ t ∈ o.looksAt ops, s.ev (.tmp t) = st.ev (.tmp t)) → ∀ x ∈ o.op.operands.toList, s.ev x = st.ev x := by
        intro s hag x hx
        cases x with
        | tmp t => exact hag t (by simp only [Oper.looksAt, List.mem_append, List.mem_filterMap]; exact .inl ⟨_, hx, rfl⟩)
        | const _ => rfl
        | func _ => rfl
        | global _ => rfl
      have fin : ∀ v l, (Region.ready .any ops listed).contains i = true → Region.free .any ops listed i = true → ch.contains i = false → zt0 nY.kw i = true →
          (∀ p, l = some p → o.dst = some p.1 ∧ zet o.op = false ∧ cfg.esc = false ∧ p.1 ∈ nY.ks ∧ lk nY.kw p.1 = none) → (∀ k off, v = .loc k off → znw cfg st.ev o k) → zlt P cfg ops nY ch i o v l listed st →
          (∃ kn', KnA ops kn' (st.putB o.dst v l) ∧ exD P cfg ops nY kn' rest Q (st.putB o.dst v l)) → zkd P cfg ops nY ch (clQ Q') (m + ((i, f) :: rest).length) listed st := by
        rintro v l hr hf hci hnk hln hv hL ⟨kn', h2, h3⟩
        have hr' : i ∈ Region.ready .any ops listed := by simpa using hr
        have htm' : zep cfg ops (listed.setIfInBounds i true) (st.putB o.dst v l) := htm.step hu ho (mem_ready.1 hr').1 (zhf fun k off hk => hv k off (by simpa using hk))
        exact zny ho hu (by simpa using hci) hln (zxl hnk) hKe (m + rest.length) listed st hcl htm (Region.free_spec ho hf) hr' hL (ze2 hu hks htail rest kn' _ _ hc2 (hcl.set hr') htm' h2 h3)
      have skip : ∀ {s : St}, zcr ops o s = some false → ∀ K, K (s.putB o.dst (.val (.tup [])) none) → zjt P cfg ops o K s := by
        intro s hw K hK
        rw [zbt] at hK
        exact zq1 hw hK
      have light : ∀ (hl : Bool), isLt o.op = true → (Region.ready .any ops listed).contains i = true → Region.free .any ops listed i = true → ch.contains i = false → zt0 nY.kw i = true → (hl = true → ∀ m ∈ ch, zv4 ops ops.size m i = true) →
          (∀ s, ckX f nY o st s → ckX (.ld hl) nY o st st) → zkd P cfg ops nY ch (clQ Q') (m + ((i, f) :: rest).length) listed st := by
        intro hl hlt hr hf hci hnk ham hck
        rcases h1 with ⟨hw, h1⟩ | ⟨hw, h1⟩
        · rw [zng hlt] at h1
          unfold zdb at h1
          split at h1
          · rename_i c v hv
            refine fin v none hr hf hci hnk (fun p hp => by cases hp) (fun k off hk => .inr (zhv (by rw [hv, hk]))) ?_ (by rw [zbt]; exact h1.2.2)
            intro s listed' hc' hun hsub hR hag hnl K hK
            rw [zbt] at hK
            refine zit (by rw [zbn hag]; exact hw) ?_
            rw [zng hlt, zrf (ch := ch) hlt (hck _ h1.2.1) hR (fun h => ?_) hag hv]
            · exact ⟨h1.1, hK⟩
            · simp only [zdd, List.all_eq_true, Bool.not_eq_true']
              intro m hm
              cases hlm : listed'.getD m false with
              | false => rfl
              | true =>
                have := zhe hc' _ m (ham h m hm) hlm
                rcases Nat.lt_or_ge i listed'.size with h' | h'
                · simp [h'] at this hun; rw [this] at hun; cases hun
                · simp [Array.getElem?_eq_none h'] at this
          · exact h1.elim
        · refine fin (.val (.tup [])) none hr hf hci hnk (fun p hp => by cases hp) (fun k off hk => by cases hk) ?_ (by rw [zbt]; exact h1)
          intro s listed' hc' hun hsub hR hag hnl K hK
          exact skip (by rw [zbn hag]; exact hw) K hK
      cases f with
      | lt =>
        simp only [Bool.and_eq_true, Bool.not_eq_true'] at hc1
        obtain ⟨⟨⟨⟨⟨h2, h3⟩, h4⟩, h5⟩, h6⟩, h7⟩ := hc1
        refine light false h2 h4 h5 h6 h7 (fun h => by simp at h) (fun s _ => ?_)
        cases hop : o.op <;> simp only [ckX, hop]
        case load => rw [hop] at h3; simp [isLoad] at h3
        case binOp op _ _ _ _ => cases op <;> first | trivial | (rw [hop] at h3; simp [isLoad] at h3; done)
      | ld hl =>
        simp only [Bool.and_eq_true, Bool.not_eq_true', Bool.or_eq_true, List.all_eq_true] at hc1
        obtain ⟨⟨⟨⟨⟨h2, h3⟩, h4⟩, h5⟩, h7⟩, h6⟩ := hc1
        exact light hl h2 h3 h4 h5 h7 (fun h => by rw [h] at h6; simpa using h6) (fun s h => h)
      | bx =>
        simp only [Bool.and_eq_true, Bool.not_eq_true'] at hc1
        obtain ⟨⟨⟨⟨⟨h2, h3⟩, h4⟩, h5⟩, h6⟩, h7⟩ := hc1
        rcases h1 with ⟨hw, h1⟩ | ⟨hw, h1⟩
        · obtain ⟨d, cs, hd, hcs, hck, hk⟩ := zxm h2 h3 h1
          refine fin (.loc d 0) (some (d, cs)) h4 h5 h6 h7 (fun p hp => ?_) (fun k off hk => ?_) ?_ hk
          · simp only [Option.some.injEq] at hp; subst hp
            exact ⟨hd, h2, h3, (hck d hd).1, (hck d hd).2⟩
          · simp only [EV.loc.injEq] at hk
            exact .inl ⟨h3, h2, by rw [hd, hk.1]⟩
          · intro s listed' hc' hun hsub hR hag hnl K hK
            refine zit (by rw [zbn hag]; exact hw) ?_
            exact zwf h2 h3 hd (by rw [zia (hev hag)]; exact hcs) (hnl _ rfl) hK
        · refine fin (.val (.tup [])) none h4 h5 h6 h7 (fun p hp => by cases hp) (fun k off hk => by cases hk) ?_ (by rw [zbt]; exact h1)
          intro s listed' hc' hun hsub hR hag hnl K hK
          exact skip (by rw [zbn hag]; exact hw) K hK
      | fz =>
        simp only [Bool.and_eq_true, Bool.not_eq_true'] at hc1
        obtain ⟨⟨⟨⟨⟨h2, h3⟩, h4⟩, h5⟩, h6⟩, h7⟩ := hc1
        rcases h1 with ⟨hw, h1⟩ | ⟨hw, h1⟩
        · obtain ⟨v, hv, hck, hk⟩ := z0r h2 h3 h1
          refine fin (.val v) none h4 h5 h6 h7 (fun p hp => by cases hp) (fun k off hk => by cases hk) ?_ (by rw [zbt]; exact hk)
          intro s listed' hc' hun hsub hR hag hnl K hK
          rw [zbt] at hK
          refine zit (by rw [zbn hag]; exact hw) ?_
          exact zzy h2 h3 (by rw [zl3 (hev hag)]; exact hv) hK
        · refine fin (.val (.tup [])) none h4 h5 h6 h7 (fun p hp => by cases hp) (fun k off hk => by cases hk) ?_ (by rw [zbt]; exact h1)
          intro s listed' hc' hun hsub hR hag hnl K hK
          exact skip (by rw [zbn hag]; exact hw) K hK
      | lb k0 =>
        simp only [Bool.and_eq_true, Bool.not_eq_true'] at hc1
        obtain ⟨⟨⟨⟨⟨h2, h3⟩, h4⟩, h5⟩, h7⟩, h6⟩ := hc1
        split at h6
        · rename_i lw hlw
          rw [List.all_eq_true] at h6
          rcases h1 with ⟨hw, h1⟩ | ⟨hw, h1⟩
          · rw [zng h2] at h1
            unfold zdb at h1
            split at h1
            · rename_i c v hv
              refine fin v none h3 h4 h5 h7 (fun p hp => by cases hp) (fun k off hk => .inr (zhv (by rw [hv, hk]))) ?_ (by rw [zbt]; exact h1.2.2)
              intro s listed' hc' hun hsub hR hag hnl K hK
              rw [zbt] at hK
              refine zit (by rw [zbn hag]; exact hw) ?_
              have hq : zdd lw listed' = true := by
                simp only [zdd, List.all_eq_true, Bool.not_eq_true']
                intro m hm
                cases hlm : listed'.getD m false with
                | false => rfl
                | true =>
                  have := zhe hc' _ m (h6 m hm) hlm
                  rcases Nat.lt_or_ge i listed'.size with h' | h'
                  · simp [h'] at this hun; rw [this] at hun; cases hun
                  · simp [Array.getElem?_eq_none h'] at this
              have hk0 := hR.1 k0 (.inr ⟨lw, hlw, hq⟩)
              have hck := h1.2.1
              rw [zng h2]
              have hst : zas P s.ev (lk s.L) s.H o.op = some (c, v) := by
                have hx := hev hag
                rw [zef o.op hx]
                simp only [ckX] at hck
                split at hck
                · rename_i t x hop
                  rw [hop] at hv ⊢
                  split at hck
                  · rename_i k' off he
                    subst hck
                    simp only [zas, he] at hv ⊢
                    rw [hk0]; exact hv
                  · exact hck.elim
                · exact hck.elim
              rw [hst]
              exact ⟨h1.1, hK⟩
            · exact h1.elim
          · refine fin (.val (.tup [])) none h3 h4 h5 h7 (fun p hp => by cases hp) (fun k off hk => by cases hk) ?_ (by rw [zbt]; exact h1)
            intro s listed' hc' hun hsub hR hag hnl K hK
            exact skip (by rw [zbn hag]; exact hw) K hK
        · cases h6
      | ms k0 =>
        simp only [Bool.and_eq_true, beq_iff_eq] at hc1
        obtain ⟨h2, h3⟩ := hc1
        have hr' : i ∈ Region.ready .any ops listed := by rw [h2]; simp
        have hcl' := hcl.set hr'
        refine ⟨fun h0 => by rw [h2] at h0; simp at h0, fun j hj o' ho' => ?_⟩
        rw [h2] at hj
        simp only [List.mem_singleton] at hj
        subst hj
        rw [ho] at ho'; simp only [Option.some.injEq] at ho'; subst ho'
        have hset : (listed.setIfInBounds j true).getD j false = true := by
          have := (mem_ready.1 hr').1
          rcases Nat.lt_or_ge j listed.size with h' | h'
          · simp [h']
          · simp [Array.getElem?_eq_none h'] at this
        have go : ∀ s, (∀ d, o.dst ≠ some d → zde st.ev d → zde s.ev d) → ckX (.ms k0) nY o st s → (∃ kn', KnA ops kn' s ∧ exD P cfg ops nY kn' rest Q s) → RR nY ch (listed.setIfInBounds j true) st s ∧ zkd P cfg ops nY ch (clQ Q') (m + rest.length) (listed.setIfInBounds j true) s := by
          rintro s hno ⟨h4, h5⟩ ⟨kn', h6, h7⟩
          refine ⟨⟨fun k hk => ?_, fun id _ _ => by rw [h5]⟩, ze2 hu hks htail rest kn' _ _ hc2 hcl' (htm.step hu ho (mem_ready.1 hr').1 hno) h6 h7⟩
          rcases hk with hk | ⟨l, hk, hq⟩
          · by_cases hkk : k = k0
            · subst hkk
              split at h3
              · rename_i lw hlw
                have hin : j ∈ lw := by simpa using h3
                exact absurd hk (hks k lw hlw)
              · cases h3
            · exact h4 k hkk (.inl hk)
          · by_cases hkk : k = k0
            · subst hkk
              rw [hk] at h3
              have hin : j ∈ l := by simpa using h3
              simp only [zdd, List.all_eq_true, Bool.not_eq_true'] at hq
              rw [hq j hin] at hset; cases hset
            · exact h4 k hkk (.inr (by rw [hk]; rfl))
        rcases h1 with ⟨hw, h1⟩ | ⟨hw, h1⟩
        · exact zit hw (zf0 (znf h1) fun s ⟨hno, h4, h5⟩ => go s hno h4 h5)
        · exact zq1 hw (go _ (fun d _ hn => zf3 hn) ⟨fun k _ _ => by rw [zrh], by rw [zrg]⟩ h1)
      | mn q =>
        simp only [Bool.and_eq_true, Bool.not_eq_true', Bool.or_eq_true, beq_iff_eq] at hc1
        obtain ⟨h2, h3⟩ := hc1
        have hr' : i ∈ Region.ready .any ops listed := by rw [h2]; simp
        have hcl' := hcl.set hr'
        refine ⟨fun h0 => by rw [h2] at h0; simp at h0, fun j hj o' ho' => ?_⟩
        rw [h2] at hj
        simp only [List.mem_singleton] at hj
        subst hj
        rw [ho] at ho'; simp only [Option.some.injEq] at ho'; subst ho'
        have go : ∀ s, (∀ d, o.dst ≠ some d → zde st.ev d → zde s.ev d) → ckX (.mn q) nY o st s → (∃ kn', KnA ops kn' s ∧ exD P cfg ops nY kn' rest Q s) → RR nY ch (listed.setIfInBounds j true) st s ∧ zkd P cfg ops nY ch (clQ Q') (m + rest.length) (listed.setIfInBounds j true) s := by
          rintro s hno ⟨h4, h5⟩ ⟨kn', h6, h7⟩
          refine ⟨⟨fun k hk => h4 k (hk.imp (fun h => h) fun ⟨l, h, _⟩ => by rw [h]; rfl), fun id hq => h5 id (hq.imp (fun hq => ?_) (fun h => h))⟩, ze2 hu hks htail rest kn' _ _ hc2 hcl' (htm.step hu ho (mem_ready.1 hr').1 hno) h6 h7⟩
          rcases h3 with h3 | h3
          · exact h3
          · rw [hq] at h3; simp at h3
        rcases h1 with ⟨hw, h1⟩ | ⟨hw, h1⟩
        · exact zit hw (zf0 (znf h1) fun s ⟨hno, h4, h5⟩ => go s hno h4 h5)
        · exact zq1 hw (go _ (fun d _ hn => zf3 hn) ⟨fun k _ => by rw [zrh], fun id _ _ => by rw [zrg]⟩ h1)
theorem zpw {Q : St → Prop} (hu : zi2 cfg ops) (hks : ∀ k l, lk nY.kw k = some l → ¬ k ∉ nY.ks) (fl : List (Nat × DFl)) (kn : Option (Nat × Bool)) (listed : Array Bool) (st : St) (hc : z4q cfg.esc cfg.fz nY.kw ops ch fl listed = true) (hcl : Closed ops listed) (htm : zep cfg ops listed st) (hkn : KnA ops kn st)
    (hx : exD P cfg ops nY kn fl Q st) : zkd P cfg ops nY ch (clQ Q) fl.length listed st := by
  have := ze2 (Q := Q) (Q' := Q) (m := 0) (ch := ch) hu hks (fun listed st _ _ hf hq => ⟨by simpa [zk1] using hf, st, Eqv.refl st, hq⟩) fl kn listed st hc hcl htm hkn hx
  rwa [Nat.zero_add] at this
end

def zhl (P : Program) (cfg : Cfg) (ops : Array Oper) (K : St → Prop) (st : St) : Prop :=
  ∃ nY ch fl, z2x cfg.esc cfg.fz nY.kw ops ch fl = true ∧ nY.kw.all (fun p => nY.ks.contains p.1) = true ∧ zhj cfg.esc st.env ops.toList = true ∧ exD P cfg ops nY none fl K st

theorem zzo (w : World) (n : Nat) (b : Nat) : bsz { w with drawn := n } b = bsz w b := rfl
theorem zhm (w : World) (n : Nat) (g : Gh) : Ext w g { w with drawn := n } g := ⟨fun _ h => h, fun _ _ => rfl, fun _ _ _ h => h, fun _ _ h => h⟩
theorem SRepG.drew {C : Cx} {st : St} {a : Act} {w : World} {g : Gh} {lam : Nat → Nat} (h : SRepG C st a w g lam) (n : Nat) : SRepG C st a { w with drawn := n } g lam where
  wr := {
    blk := fun id cs hh => by
      obtain ⟨b, δ, c, e, h1, h2, h3, h4, h5⟩ := h.wr.blk id cs hh
      exact ⟨b, δ, c, e, h1, h2, h3, zc9.ext (zhm w n g) rfl h4, h5⟩
    inj := h.wr.inj
    fzlt := h.wr.fzlt
    rholt := h.wr.rholt
    rhoid := h.wr.rhoid }
  si := ⟨h.si.sz, h.si.keep, h.si.bszk, h.si.fro, h.si.fz, h.si.fznew, h.si.rho, h.si.hbi, h.si.len, h.si.same⟩
  lr := ⟨fun key cs hc => by
    obtain ⟨c, e, h1, h2, h3, h4⟩ := h.lr.box key cs hc
    exact ⟨c, e, h1, h2, zc9.ext (zhm w n g) rfl h3, h4⟩, h.lr.inj⟩
  env := fun t e hte => by
    obtain ⟨x, h1, h2⟩ := h.env t e hte
    exact ⟨x, h1, h2.ext (zhm w n g)⟩
  defs := h.defs
  size := h.size
  n0 := h.n0
  om := h.om

theorem zzu {C : Cx} (hm : C.P.follows .mixedOrders = true) : zfr C (zhl C.P C.cfg) := by
  rintro ops K st a w id Q hN ⟨nY, ch, fl, hc, hkk, hbf, hx⟩ ⟨g, lam, hs⟩ hK
  simp only [z2x, Bool.and_eq_true, Bool.or_eq_true, beq_iff_eq] at hc
  obtain ⟨⟨h1, h2⟩, h3⟩ := hc
  refine wp_region_any hm ?_
  rw [← h3]
  refine zie (nY := nY) (ch := ch) (K := clQ K) hN (fun s a w ⟨s0, h4, h5⟩ h6 => hK s0 a w h5 (h6.eqv h4.symm)) _ _ st a _ ?_ ⟨g, lam, hs.drew _⟩
  have hget : ∀ {j : Nat} {oj : Oper}, ops[j]? = some oj → oj ∈ ops.toList := fun h => by rw [Array.mem_toList_iff]; exact Array.mem_of_getElem? h
  have hks : ∀ k l, lk nY.kw k = some l → ¬ k ∉ nY.ks := by
    intro k l h
    have : ∀ kw : List (Nat × List Nat), kw.all (fun p => nY.ks.contains p.1) = true → lk kw k = some l → ¬ k ∉ nY.ks := by
      intro kw
      induction kw with
      | nil => intro _ h; simp [lk] at h
      | cons p r ih =>
        intro h1 h2
        simp only [List.all_cons, Bool.and_eq_true] at h1
        obtain ⟨k', l'⟩ := p
        simp only [lk] at h2
        split at h2
        · rename_i hk; subst hk; have := h1.1; simp at this; simpa using this
        · exact ih h1.2 h2
    exact this _ hkk h
  refine zpw (fun he j k oj ok hj hk hb hjk d hd => ?_) hks fl none _ st (by rw [h3]; exact h2) (fun j oj _ hl => ?_) (fun he j oj hj hb _ d hd => zii hbf he oj (hget hj) hb d hd) trivial hx
  · rcases h1 with (h1 | h1) | h1
    · rw [he] at h1; cases h1
    · rw [List.all_eq_true] at h1
      rw [h1 oj (hget hj)] at hb; cases hb
    · exact znt h1 oj j (by rw [List.mem_zipIdx_iff_getElem?]; simpa using hj) hb k ok hk hjk d hd
  · have : (Array.replicate fl.length false).getD j false = false := by
      rcases Nat.lt_or_ge j fl.length with h | h
      · simp [h]
      · simp [h]
    rw [this] at hl; cases hl
end Go.Sx
