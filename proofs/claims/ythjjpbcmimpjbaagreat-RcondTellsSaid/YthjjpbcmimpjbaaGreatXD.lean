/- A part of the proofs of this seat: XD. No condition is set. -/
import Derived.LoopN
import Derived.Test.YthjjpbcmimpjbaaGreatXC
set_option linter.unusedVariables false
set_option linter.unusedSimpArgs false
namespace Go.Sx

/-- THE PREDICATE TRANSFORMER OF A BODY -/
def Ex (P : Program) (cfg : Cfg) (draw : Array Oper → (St → Prop) → St → Prop) : Code → (XE → St → Prop) → St → Prop
  | .skip, Q, st => Q .normal st
  | .region _ ops d, Q, st => if d then draw ops (Q .normal) st else exOps P cfg ops none ops.toList (Q .normal) st
  | .seq x y, Q, st => Ex P cfg draw x (fun e s => match e with | .normal => Ex P cfg draw y Q s | e => Q e s) st
  | .cond c x y, Q, st =>
    match (st.ev c).asB with
    | some b => (b = true → Ex P cfg draw x Q st) ∧ (b = false → Ex P cfg draw y Q st)
    | none => False
  | .block id c, Q, st => Ex P cfg draw c (fun e s => match e with | .exit i => if i = id then Q .normal s else Q (.exit i) s | e => Q e s) st
  | .loop c, Q, st => ∃ ks n, roundsX (Ex P cfg draw c) ks Q n (prune ks st)
  | .exit id, Q, st => Q (.exit id) st
  | .ret, Q, st => Q .ret st
  | _, _, _ => False

def dstsOk (N : Nat) : Code → Bool
  | .region _ ops _ => ops.toList.all fun o => match o.dst with | some d => decide (d < N) | none => true
  | .seq x y => dstsOk N x && dstsOk N y
  | .cond _ x y => dstsOk N x && dstsOk N y
  | .block _ c => dstsOk N c
  | .loop c => dstsOk N c
  | _ => true

section
variable {C : Cx} {st : St} {a : Act} {w : World} {g : Gh} {lam : Nat → Nat}

def Post (C : Cx) (Q : XE → St → Prop) : Exit → Act → World → Prop
  | .normal, a, w => ∃ st, SRep C st a w ∧ Q .normal st
  | .exit i, a, w => ∃ st, SRep C st a w ∧ Q (.exit i) st
  | .ret, a, w => ∃ st, SRep C st a w ∧ Q .ret st
  | _, _, _ => False

theorem noLoc_ok {key : Nat} : ∀ {env : List (Nat × EV)}, noLoc key env = true → ∀ t off, lk env t ≠ some (.loc key off)
  | [], _, t, off => by simp [lk]
  | (k, .val v) :: r, h, t, off => by
    simp only [noLoc] at h
    simp only [lk]
    split
    · simp
    · exact noLoc_ok h t off
  | (k, .loc k' o) :: r, h, t, off => by
    simp only [noLoc] at h
    split at h
    · simp at h
    · rename_i hk
      simp only [lk]
      split
      · simp only [ne_eq, Option.some.injEq, EV.loc.injEq, not_and]; intro hh; exact absurd hh hk
      · exact noLoc_ok h t off
theorem noLoc_ev {st : St} {d : Nat} (h : noLoc d st.env = true ∨ NoLoc st.ev d) : NoLoc st.ev d := by
  rcases h with h | h
  · intro t off hh
    simp only [St.ev] at hh
    cases hl : lk st.env t with
    | none => simp [hl] at hh
    | some e => simp [hl] at hh; exact noLoc_ok h t off (by rw [hl, hh])
  · exact h

theorem SRepG.weakEnv (h : SRepG C st a w g lam) {env' : List (Nat × EV)} {L' : List (Nat × List AV)} (he : ∀ t e, lk env' t = some e → lk st.env t = some e) (hL : ∀ k cs, lk L' k = some cs → lk st.L k = some cs) :
    SRepG C ⟨env', L', st.H⟩ a w g lam where
  wr := h.wr
  si := h.si
  lr := ⟨fun key cs hc => h.lr.box key cs (hL key cs hc), fun k k' h1 h2 hh => by
    obtain ⟨c1, hc1⟩ := Option.ne_none_iff_exists'.1 h1
    obtain ⟨c2, hc2⟩ := Option.ne_none_iff_exists'.1 h2
    exact h.lr.inj k k' (by rw [hL k c1 hc1]; simp) (by rw [hL k' c2 hc2]; simp) hh⟩
  env t e hte := h.env t e (he t e hte)
  defs := h.defs
  size := h.size
  n0 := h.n0
  om := h.om
theorem lk_filterMap {α : Type} (ks : List Nat) (l : List (Nat × α)) : ∀ t e, lk (ks.filterMap (fun k => (lk l k).map (k, ·))) t = some e → lk l t = some e := by
  induction ks with
  | nil => intro t e h; simp [lk] at h
  | cons k ks ih =>
    intro t e h
    rw [List.filterMap_cons] at h
    cases hk : lk l k with
    | none => rw [hk] at h; exact ih t e h
    | some v =>
      rw [hk] at h
      simp only [Option.map_some, lk] at h
      split at h
      · rename_i hh; subst hh; simp only [Option.some.injEq] at h; subst h; exact hk
      · exact ih t e h
theorem SRep.prune (h : SRep C st a w) (ks : List Nat) : SRep C (Sx.prune ks st) a w := by
  obtain ⟨g, lam, h⟩ := h
  exact ⟨g, lam, h.weakEnv (lk_filterMap ks st.env) (lk_filterMap ks st.L)⟩

theorem lk_upd {t : Nat} {v : EV} : ∀ {env : List (Nat × EV)} {t' : Nat} {e : EV}, lk (upd t v env) t' = some e → (t' = t ∧ e = v ∧ lk env t ≠ none) ∨ lk env t' = some e
  | [], t', e, h => by simp [upd, lk] at h
  | (k, x) :: r, t', e, h => by
    simp only [upd] at h
    by_cases hk : k = t
    · subst hk
      simp only [if_true, lk] at h
      split at h
      · rename_i hh; subst hh; simp only [Option.some.injEq] at h; exact .inl ⟨rfl, h.symm, by simp [lk]⟩
      · rename_i hh; right; simp only [lk, if_neg hh]; exact h
    · simp only [if_neg hk, lk] at h
      split at h
      · rename_i hh; right; simp only [lk, if_pos hh]; exact h
      · rename_i hh
        rcases lk_upd h with ⟨h1, h2, h3⟩ | h1
        · exact .inl ⟨h1, h2, by simp only [lk, if_neg hk]; exact h3⟩
        · right; simp only [lk, if_neg hh]; exact h1

/-- what a temporary holds, put anew by a value that says more -/
theorem SRepG.know (h : SRepG C st a w g lam) {t : Nat} {b : Bool} (hb : (st.ev (.tmp t)).asB = some b) : SRepG C ⟨upd t (.val (.bool b)) st.env, st.L, st.H⟩ a w g lam := by
  have := asB_eq hb
  simp only [St.ev] at this
  have hl : lk st.env t = some (.val (.bool b)) := by
    cases hq : lk st.env t with
    | none => simp [hq] at this
    | some e => simp [hq] at this; rw [this]
  refine h.weakEnv (fun t' e he => ?_) (fun k cs hc => hc)
  rcases lk_upd he with ⟨rfl, rfl, _⟩ | h1
  · exact hl
  · exact h1

/-- a guard is known -/
def Known (ops : Array Oper) (tmps : Array Value) : Option (Nat × Bool) → Prop
  | none => True
  | some (j, b) => yielded ops tmps j = some b

theorem Known.put {ops : Array Oper} {a : Act} {kn : Option (Nat × Bool)} (h : Known ops a.tmps kn) {dst : Option Tmp} (hne : ∀ j b, kn = some (j, b) → ∀ t, (ops[j]?).bind (·.dst) = some t → dst ≠ some t) (v : Value) : Known ops (a.put dst v).tmps kn := by
  cases kn with
  | none => trivial
  | some p =>
    obtain ⟨j, b⟩ := p
    simp only [Known, yielded] at h ⊢
    cases ht : (ops[j]?).bind (·.dst) with
    | none => rw [ht] at h; simp at h
    | some t =>
      rw [ht] at h
      have := hne j b rfl t ht
      cases dst with
      | none => exact h
      | some d =>
        have hdt : d ≠ t := fun hh => this (by rw [hh])
        simpa [Act.put, hdt] using h

theorem urep {w : World} {g : Gh} {lam : Nat → Nat} : ERep w g lam (.val (.tup [])) undef := by
  simp only [ERep, VRep]; exact ⟨#[], rfl, by simp [LRep]⟩
theorem ops_sound {ops : Array Oper} {Q : Exit → Act → World → Prop} : ∀ (l : List Nat) (ol : List Oper) (kn : Option (Nat × Bool)) (K : St → Prop) (st : St) (a : Act) (w : World),
    l.map (fun i => ops[i]?) = ol.map some → (∀ o ∈ ol, ∀ d, o.dst = some d → d < C.N) → Known ops a.tmps kn →
    exOps C.P C.cfg ops kn ol K st → SRep C st a w → (∀ st a w, K st → SRep C st a w → Q .normal a w) → wpOps C.P ops Q l a w
  | [], ol, kn, K, st, a, w, hl, hN, hkn, hx, hs, hK => by
    have : ol = [] := by simpa using hl.symm
    subst this
    exact hK st a w hx hs
  | i :: l, ol, kn, K, st, a, w, hl, hN, hkn, hx, hs, hK => by
    cases ol with
    | nil => simp at hl
    | cons o ol =>
      simp only [List.map_cons, List.cons.injEq] at hl
      obtain ⟨ho, hl⟩ := hl
      simp only [wpOps, ho]
      obtain ⟨g, lam, hs⟩ := hs
      have hN' : ∀ o ∈ ol, ∀ d, o.dst = some d → d < C.N := fun o' h' => hN o' (by simp [h'])
      have rest : ∀ kn st a w, Known ops a.tmps kn → exOps C.P C.cfg ops kn ol K st → SRep C st a w → wpOps C.P ops Q l a w := fun kn st a w h0 h1 h2 => ops_sound l ol kn K st a w hl hN' h0 h1 h2 hK
      have one : ∀ (kn : Option (Nat × Bool)) (st : St), (∀ v, Known ops (a.put o.dst v).tmps kn) → SRepG C st a w g lam → opX C.P C.cfg o (exOps C.P C.cfg ops kn ol K) st → o.wp C.P a w (wpOps C.P ops Q l) Q := by
        intro kn st hkn hs hx
        have := op_sound hs (hN o (by simp)) (fun d hd => noLoc_ev hd) hx Q
        unfold Oper.wp at this ⊢
        revert this
        have hkp : ∀ v (a' : Act), a' = a.put o.dst v → Known ops a'.tmps kn := fun v a' h => h ▸ hkn v
        unfold Oper.upon
        split <;> first
          | exact fun h => h
          | (rintro ⟨e, h1, h2⟩; exact rest _ _ _ _ (hkp _ _ rfl) h1 h2)
          | (rintro ⟨e, h1, h2⟩
             refine rest _ _ _ _ ?_ h1 h2
             have := hkn undef
             cases hd : o.dst <;> (rw [hd] at this; exact this))
          | (intro h; refine h.mono fun e w' he => ?_
             cases e with
             | returned v => obtain ⟨e, h1, h2⟩ := he; exact rest _ _ _ _ (hkp _ _ rfl) h1 h2
             | panicked c => exact he
             | outgrown => exact he)
          | (intro h; refine h.mono fun v w' he => ?_
             obtain ⟨e, h1, h2⟩ := he; exact rest _ _ _ _ (hkp _ _ rfl) h1 h2)
      unfold exOps at hx
      split at hx
      · rename_i hg
        have hw : Region.wanted o (yielded ops a.tmps) = true := by simp [Region.wanted, hg]
        simp only [hw, if_true]
        refine .inl (one _ st (fun v => ?_) hs hx)
        split
        · trivial
        · rename_i hany
          refine hkn.put (fun j b hk t ht hdt => hany ?_) v
          subst hk
          simp [ht, hdt]
      · rename_i j want hg
        split at hx
        · exact hx.elim
        rename_i t ht
        split at hx
        · exact hx.elim
        rename_i hdt
        have hkput : ∀ b v, yielded ops a.tmps j = some b → Known ops (a.put o.dst v).tmps (some (j, b)) := by
          intro b v hy
          refine Known.put (kn := some (j, b)) hy (fun j' b' hk t' ht' => ?_) v
          simp only [Option.some.injEq, Prod.mk.injEq] at hk
          obtain ⟨rfl, rfl⟩ := hk
          rw [ht] at ht'; simp only [Option.some.injEq] at ht'; subst ht'
          exact hdt
        split at hx
        · rename_i hk
          subst hk
          simp only [Known] at hkn
          have hw : Region.wanted o (yielded ops a.tmps) = true := by simp [Region.wanted, hg, hkn]
          simp only [hw, if_true]
          exact .inl (one _ st (fun v => hkput want v hkn) hs hx)
        split at hx
        · rename_i hk
          subst hk
          simp only [Known] at hkn
          have hw : Region.wanted o (yielded ops a.tmps) = false := by
            simp only [Region.wanted, hg, hkn]; cases want <;> rfl
          simp only [hw, Bool.false_eq_true, if_false]
          refine rest _ _ _ _ (hkput _ undef hkn) hx ⟨g, lam, ?_⟩
          cases hd : o.dst with
          | none => exact hs
          | some d => exact hs.put (hN o (by simp) d hd) urep
        split at hx
        · split at hx
          · rename_i hu
            have hy : yielded ops a.tmps j = none := by
              have hq := isU_eq hu
              unfold yielded
              rw [ht]
              simp only [St.ev] at hq
              cases hl' : lk st.env t with
              | none => simp [hl'] at hq
              | some e =>
                simp [hl'] at hq; subst hq
                obtain ⟨x, h1, h2⟩ := hs.env t _ hl'
                simp only [ERep, VRep] at h2
                obtain ⟨vs, rfl, _⟩ := h2
                simp [h1]
            have hw : Region.wanted o (yielded ops a.tmps) = false := by simp [Region.wanted, hg, hy]
            simp only [hw, Bool.false_eq_true, if_false]
            refine rest _ _ _ _ ?_ hx ⟨g, lam, ?_⟩
            · split
              · trivial
              · rename_i hany
                refine hkn.put (fun j b hk t ht hdt => hany ?_) undef
                subst hk
                simp [ht, hdt]
            · cases hd : o.dst with
              | none => exact hs
              | some d => exact hs.put (hN o (by simp) d hd) urep
          · exact hx.elim
        rename_i b hb
        have hk := hs.know hb
        have hy : yielded ops a.tmps j = some b := by
          have := hs.evB hb
          unfold yielded
          rw [ht]
          have hq := asB_eq hb
          simp only [St.ev] at hq
          cases hl' : lk st.env t with
          | none => simp [hl'] at hq
          | some e =>
            simp [hl'] at hq; subst hq
            obtain ⟨x, h1, h2⟩ := hs.env t _ hl'
            simp only [ERep, VRep] at h2; subst h2
            simp [h1]
        by_cases hbw : b = want
        · subst hbw
          have hw : Region.wanted o (yielded ops a.tmps) = true := by simp [Region.wanted, hg, hy]
          simp only [hw, if_true]
          exact .inl (one _ _ (fun v => hkput _ v hy) hk (hx.1 rfl))
        · have hbn : b = !want := by cases b <;> cases want <;> simp_all
          have hw : Region.wanted o (yielded ops a.tmps) = false := by
            simp only [Region.wanted, hg, hy]; subst hbn; cases want <;> rfl
          simp only [hw, Bool.false_eq_true, if_false]
          have hx2 := hx.2 hbn
          rw [hbn] at hk hy
          refine rest _ _ _ _ (hkput _ undef hy) hx2 ⟨g, lam, ?_⟩
          cases hd : o.dst with
          | none => exact hk
          | some d => exact hk.put (hN o (by simp) d hd) urep

def DrawOk (C : Cx) (draw : Array Oper → (St → Prop) → St → Prop) : Prop := ∀ (ops : Array Oper) (K : St → Prop) (st : St) (a : Act) (w : World) (id : Nat) (Q : Exit → Act → World → Prop),
  (∀ o ∈ ops.toList, ∀ d, o.dst = some d → d < C.N) → draw ops K st → SRep C st a w → (∀ st a w, K st → SRep C st a w → Q .normal a w) → (Code.region id ops true).wp C.P Q a w

theorem ex_sound {draw : Array Oper → (St → Prop) → St → Prop} (hdr : DrawOk C draw) : ∀ (c : Code) (Q : XE → St → Prop) (st : St) (a : Act) (w : World), dstsOk C.N c = true →
    Ex C.P C.cfg draw c Q st → SRep C st a w → c.wp C.P (Post C Q) a w
  | .skip, Q, st, a, w, _, hx, hs => wp_skip ⟨st, hs, hx⟩
  | .exit id, Q, st, a, w, _, hx, hs => wp_exit ⟨st, hs, hx⟩
  | .ret, Q, st, a, w, _, hx, hs => wp_ret ⟨st, hs, hx⟩
  | .region id ops d, Q, st, a, w, hd, hx, hs => by
    have hN : ∀ o ∈ ops.toList, ∀ d, o.dst = some d → d < C.N := by
      intro o ho d hod
      simp only [dstsOk, List.all_eq_true] at hd
      have := hd o ho
      simp only [hod, decide_eq_true_eq] at this
      exact this
    simp only [Ex] at hx
    cases d with
    | true => exact hdr ops (Q .normal) st a w id _ hN (by simpa using hx) hs (fun st a w h1 h2 => ⟨st, h2, h1⟩)
    | false =>
      refine wp_region (ops_sound (C := C) (ops := ops) (Q := Post C Q) _ ops.toList none (Q .normal) st a w ?_ hN trivial (by simpa using hx) hs (fun st a w h1 h2 => ⟨st, h2, h1⟩))
      apply List.ext_getElem?
      intro i
      simp only [List.getElem?_map, List.getElem?_range, Array.getElem?_toList]
      by_cases hi : i < ops.size
      · simp [hi]
      · simp [hi]
  | .seq x y, Q, st, a, w, hd, hx, hs => by
    simp only [dstsOk, Bool.and_eq_true] at hd
    simp only [Ex] at hx
    refine wp_seq (wp_mono (ex_sound hdr x _ st a w hd.1 hx hs) fun e a w he => ?_)
    cases e <;> simp only [Post, Exit.then] at he ⊢
    · obtain ⟨st', h1, h2⟩ := he; exact ex_sound hdr y Q st' a w hd.2 h2 h1
    · exact he
    · exact he
  | .cond c x y, Q, st, a, w, hd, hx, hs => by
    simp only [dstsOk, Bool.and_eq_true] at hd
    simp only [Ex] at hx
    split at hx
    · rename_i b hb
      have hc : a.eval c = .bool b := by obtain ⟨g, lam, hs⟩ := hs; exact hs.evB hb
      refine wp_cond_split hc (fun h => ?_) (fun h => ?_)
      · exact ex_sound hdr x Q st a w hd.1 (hx.1 h) hs
      · exact ex_sound hdr y Q st a w hd.2 (hx.2 h) hs
    · exact hx.elim
  | .block id c, Q, st, a, w, hd, hx, hs => by
    simp only [dstsOk] at hd
    simp only [Ex] at hx
    refine wp_block (wp_mono (ex_sound hdr c _ st a w hd hx hs) fun e a w he => ?_)
    cases e <;> simp only [Post, Exit.inBlock] at he ⊢
    · exact he
    · obtain ⟨st', h1, h2⟩ := he
      split
      · rename_i hh; simp only [hh, if_true] at h2; exact ⟨st', h1, h2⟩
      · rename_i hh; simp only [hh, if_false] at h2; exact ⟨st', h1, h2⟩
    · exact he
  | .loop c, Q, st, a, w, hd, hx, hs => by
    simp only [dstsOk] at hd
    simp only [Ex] at hx
    obtain ⟨ks, n, hx⟩ := hx
    refine wp_loop_rounds n ?_
    have key : ∀ n st a w, roundsX (Ex C.P C.cfg draw c) ks Q n st → SRep C st a w → Code.rounds C.P c (Post C Q) n a w := by
      intro n
      induction n with
      | zero => intro st a w h _; exact h.elim
      | succ n ih =>
        intro st a w h hs
        rw [rounds_succ]
        refine wp_mono (ex_sound hdr c _ st a w hd h hs) fun e a w he => ?_
        cases e <;> simp only [Post, Exit.then] at he ⊢
        · obtain ⟨st', h1, h2⟩ := he; exact ih _ a w h2 (h1.prune ks)
        · exact he
        · exact he
    exact key n _ a w hx (hs.prune ks)
  | .rangeFunc .., _, _, _, _, _, hx, _ => by simp [Ex] at hx
  | .scope _, _, _, _, _, _, hx, _ => by simp [Ex] at hx
  | .label _, _, _, _, _, _, hx, _ => by simp [Ex] at hx
  | .goto _, _, _, _, _, _, hx, _ => by simp [Ex] at hx
  | .refuse _, _, _, _, _, _, hx, _ => by simp [Ex] at hx
end
end Go.Sx

set_option linter.unusedVariables false
set_option linter.unusedSimpArgs false
namespace Go.Sx

/-! ### what a call hands back -/
def All2 (R : AV → AV → Prop) (l l' : List AV) : Prop := l.length = l'.length ∧ ∀ (i : Nat) c c', l[i]? = some c → l'[i]? = some c' → R c c'
/-- a value as it is handed back: what it leads to of the call's own is told as a list that nobody writes any more (or kept: 'keep') -/
def FrR (n₀ : Nat) (keep : List Nat) (H : List (List AV)) : Nat → AV → AV → Prop
  | 0, _, _ => False
  | d + 1, v, v' =>
    (mx v ≤ n₀ ∧ v' = v) ∨ (v = .slnil ∧ v' = .sl none 0 []) ∨ v' = .junk ∨ (∃ b, v = .fraw b ∧ v' = .flt (cn b)) ∨
    (∃ id gen off len sz cs l l', v = .slm id gen off len sz ∧ v' = .sl none len l' ∧ n₀ ≤ id ∧ id ∉ keep ∧ H[id]? = some cs ∧ cs.length = gen ∧ gc cs off (len * sz) = some l ∧ All2 (FrR n₀ keep H d) l l') ∨
    (∃ id gen off len sz cs j, v = .slm id gen off len sz ∧ v' = .slm (n₀ + j) gen off len sz ∧ keep[j]? = some id ∧ H[id]? = some cs ∧ cs.length = gen) ∨
    (∃ id gen off len sz cs j o, v = .eptr (.slm id gen off len sz) o ∧ v' = .eptr (.slm (n₀ + j) gen off len sz) o ∧ keep[j]? = some id ∧ H[id]? = some cs ∧ cs.length = gen) ∨
    (∃ l l', v = .agg l ∧ v' = .agg l' ∧ All2 (FrR n₀ keep H d) l l') ∨
    (∃ l l', v = .tup l ∧ v' = .tup l' ∧ All2 (FrR n₀ keep H d) l l')
def Fr (n₀ : Nat) (keep : List Nat) (H : List (List AV)) (v v' : AV) : Prop := ∃ d, FrR n₀ keep H d v v'
def Frs (n₀ : Nat) (keep : List Nat) (H : List (List AV)) (l l' : List AV) : Prop := ∃ d, All2 (FrR n₀ keep H d) l l'

section
variable {n₀ : Nat} {keep : List Nat} {H : List (List AV)}
theorem FrR.mono : ∀ {d : Nat} {v v' : AV}, FrR n₀ keep H d v v' → FrR n₀ keep H (d + 1) v v'
  | 0, _, _, h => h.elim
  | d + 1, v, v', h => by
    have hm : ∀ {l l'}, All2 (FrR n₀ keep H d) l l' → All2 (FrR n₀ keep H (d + 1)) l l' := fun h => ⟨h.1, fun i c c' h1 h2 => FrR.mono (h.2 i c c' h1 h2)⟩
    unfold FrR at h ⊢
    rcases h with h | h | h | h | ⟨id, gen, off, len, sz, cs, l, l', h1, h2, h3, h4, h5, h6, h7, h8⟩ | h | h | ⟨l, l', h1, h2, h3⟩ | ⟨l, l', h1, h2, h3⟩
    · exact .inl h
    · exact .inr (.inl h)
    · exact .inr (.inr (.inl h))
    · exact .inr (.inr (.inr (.inl h)))
    · exact .inr (.inr (.inr (.inr (.inl ⟨id, gen, off, len, sz, cs, l, l', h1, h2, h3, h4, h5, h6, h7, hm h8⟩))))
    · exact .inr (.inr (.inr (.inr (.inr (.inl h)))))
    · exact .inr (.inr (.inr (.inr (.inr (.inr (.inl h))))))
    · exact .inr (.inr (.inr (.inr (.inr (.inr (.inr (.inl ⟨l, l', h1, h2, hm h3⟩)))))))
    · exact .inr (.inr (.inr (.inr (.inr (.inr (.inr (.inr ⟨l, l', h1, h2, hm h3⟩)))))))
theorem FrR.le {d e : Nat} (hde : d ≤ e) {v v' : AV} (h : FrR n₀ keep H d v v') : FrR n₀ keep H e v v' := by
  induction hde with
  | refl => exact h
  | step _ ih => exact ih.mono
theorem Fr.old {v : AV} (h : mx v ≤ n₀) : Fr n₀ keep H v v := ⟨1, .inl ⟨h, rfl⟩⟩
theorem Fr.nil : Fr n₀ keep H .slnil (.sl none 0 []) := ⟨1, .inr (.inl ⟨rfl, rfl⟩)⟩
theorem Fr.junk (v : AV) : Fr n₀ keep H v .junk := ⟨1, .inr (.inr (.inl rfl))⟩
theorem Fr.raw (b : Nat) : Fr n₀ keep H (.fraw b) (.flt (cn b)) := ⟨1, .inr (.inr (.inr (.inl ⟨b, rfl, rfl⟩)))⟩
theorem Fr.fz {id gen off len sz : Nat} {cs l l' : List AV} (h1 : n₀ ≤ id) (h2 : id ∉ keep) (h3 : H[id]? = some cs) (h4 : cs.length = gen) (h5 : gc cs off (len * sz) = some l) (h6 : Frs n₀ keep H l l') :
    Fr n₀ keep H (.slm id gen off len sz) (.sl none len l') := by
  obtain ⟨d, h6⟩ := h6
  exact ⟨d + 1, .inr (.inr (.inr (.inr (.inl ⟨id, gen, off, len, sz, cs, l, l', rfl, rfl, h1, h2, h3, h4, h5, h6⟩))))⟩
theorem Fr.kp {id gen off len sz j : Nat} {cs : List AV} (h1 : keep[j]? = some id) (h2 : H[id]? = some cs) (h3 : cs.length = gen) : Fr n₀ keep H (.slm id gen off len sz) (.slm (n₀ + j) gen off len sz) :=
  ⟨1, .inr (.inr (.inr (.inr (.inr (.inl ⟨id, gen, off, len, sz, cs, j, rfl, rfl, h1, h2, h3⟩)))))⟩
theorem Fr.kpp {id gen off len sz j o : Nat} {cs : List AV} (h1 : keep[j]? = some id) (h2 : H[id]? = some cs) (h3 : cs.length = gen) : Fr n₀ keep H (.eptr (.slm id gen off len sz) o) (.eptr (.slm (n₀ + j) gen off len sz) o) :=
  ⟨1, .inr (.inr (.inr (.inr (.inr (.inr (.inl ⟨id, gen, off, len, sz, cs, j, o, rfl, rfl, h1, h2, h3⟩))))))⟩
theorem Fr.agg {l l' : List AV} (h : Frs n₀ keep H l l') : Fr n₀ keep H (.agg l) (.agg l') := by
  obtain ⟨d, h⟩ := h
  exact ⟨d + 1, .inr (.inr (.inr (.inr (.inr (.inr (.inr (.inl ⟨l, l', rfl, rfl, h⟩)))))))⟩
theorem Fr.tup {l l' : List AV} (h : Frs n₀ keep H l l') : Fr n₀ keep H (.tup l) (.tup l') := by
  obtain ⟨d, h⟩ := h
  exact ⟨d + 1, .inr (.inr (.inr (.inr (.inr (.inr (.inr (.inr ⟨l, l', rfl, rfl, h⟩)))))))⟩
theorem Frs.nil : Frs n₀ keep H [] [] := ⟨0, rfl, fun i c c' h => by simp at h⟩
theorem Frs.cons {v v' : AV} {l l' : List AV} (h : Fr n₀ keep H v v') (k : Frs n₀ keep H l l') : Frs n₀ keep H (v :: l) (v' :: l') := by
  obtain ⟨d, h⟩ := h
  obtain ⟨e, k⟩ := k
  refine ⟨max d e, by simp [k.1], fun i c c' h1 h2 => ?_⟩
  cases i with
  | zero => simp at h1 h2; subst h1 h2; exact h.le (Nat.le_max_left _ _)
  | succ i => simp at h1 h2; exact (k.2 i c c' h1 h2).le (Nat.le_max_right _ _)
theorem Frs.old {l : List AV} (h : mxL l ≤ n₀) : Frs n₀ keep H l l := by
  refine ⟨1, rfl, fun i c c' h1 h2 => ?_⟩
  rw [h1] at h2; simp only [Option.some.injEq] at h2; subst h2
  exact .inl ⟨mxL_le.1 h i c h1, rfl⟩
end

def frG (g : Gh) (n₀ : Nat) (keep : List Nat) (H : List (List AV)) : Gh where
  ρ id gen := if id < n₀ then g.ρ id gen else
    match keep[id - n₀]? with
    | some k => if (H[k]?).map List.length = some gen then g.ρ k gen else none
    | none => none
  Fz b := g.Fz b ∨ ∃ id cs δ, n₀ ≤ id ∧ id ∉ keep ∧ H[id]? = some cs ∧ g.ρ id cs.length = some (b, δ)
def frH (n₀ : Nat) (keep : List Nat) (H : List (List AV)) : List (List AV) := H.take n₀ ++ keep.map fun k => (H[k]?).getD []

theorem frG_ext {w : World} {g : Gh} {n₀ : Nat} {keep : List Nat} {H : List (List AV)} : ExtN n₀ w g w (frG g n₀ keep H) where
  fz b hb := .inl hb
  fzw _ _ := rfl
  rho id gen p hid hp := by simp only [frG, if_pos hid]; exact hp
  bsz _ _ h := h

theorem Fr_rep {w : World} {g : Gh} {n₀ : Nat} {keep : List Nat} {H : List (List AV)} (hw : WRep w g H) (hk : ∀ k ∈ keep, n₀ ≤ k) :
    ∀ (d : Nat) (v v' : AV) (x : Value), FrR n₀ keep H d v v' → VRep w g v x → VRep w (frG g n₀ keep H) v' x
  | 0, _, _, _, h, _ => h.elim
  | d + 1, v, v', x, h, hv => by
    have ih := Fr_rep hw hk d
    have ihL : ∀ {l l' : List AV} {vs : List Value}, All2 (FrR n₀ keep H d) l l' → LRep w g l vs → LRep w (frG g n₀ keep H) l' vs := by
      intro l l' vs ha hl
      rw [LRep_iff] at hl ⊢
      refine ⟨by rw [hl.1, ha.1], fun i c x h1 h2 => ?_⟩
      have hlt : i < l.length := by rw [ha.1]; exact (List.getElem?_eq_some_iff.1 h1).1
      exact ih l[i] c x (ha.2 i l[i] c (by simp [hlt]) h1) (hl.2 i l[i] x (by simp [hlt]) h2)
    have ihC : ∀ {l l' : List AV} {b o : Nat}, All2 (FrR n₀ keep H d) l l' → CRep w g l b o → CRep w (frG g n₀ keep H) l' b o := by
      intro l l' b o ha hl
      rw [CRep_iff] at hl ⊢
      intro i c h1
      have hlt : i < l.length := by rw [ha.1]; exact (List.getElem?_eq_some_iff.1 h1).1
      obtain ⟨x, j1, j2, j3⟩ := hl i l[i] (by simp [hlt])
      exact ⟨x, j1, j2, ih l[i] c x (ha.2 i l[i] c (by simp [hlt]) h1) j3⟩
    unfold FrR at h
    rcases h with ⟨h1, rfl⟩ | ⟨rfl, rfl⟩ | rfl | ⟨b, rfl, rfl⟩ | ⟨id, gen, off, len, sz, cs, l, l', rfl, rfl, h3, h4, h5, h6, h7, h8⟩ | ⟨id, gen, off, len, sz, cs, j, rfl, rfl, h1, h2, h3⟩ | ⟨id, gen, off, len, sz, cs, j, o, rfl, rfl, h1, h2, h3⟩ | ⟨l, l', rfl, rfl, h3⟩ | ⟨l, l', rfl, rfl, h3⟩
    · exact VRep.extN frG_ext _ _ h1 hv
    · simp only [VRep] at hv ⊢
      exact ⟨0, Nat.le_refl _, .inl ⟨by simp, by simp, by simp, none, hv⟩⟩
    · simp [VRep]
    · simp only [VRep] at hv ⊢
      exact ⟨b, hv.1, hv.2, rfl⟩
    · simp only [VRep] at hv ⊢
      obtain ⟨b, δ, cap, m, k1, k2, k3, k4, k5, k6⟩ := hv
      rw [← h6] at k1
      obtain ⟨b', δ', c, e, q1, q2, q3, q4, q5, q6⟩ := hw.blk id cs h5
      rw [k1] at q1; simp only [Option.some.injEq, Prod.mk.injEq] at q1; obtain ⟨rfl, rfl⟩ := q1
      exact ⟨cap, k3, .inr ⟨b, δ + off, k2, by simp, .inr ⟨id, cs, δ, h3, h4, h5, k1⟩, ihC h8 (CRep_gc q4 h7)⟩⟩
    · simp only [VRep] at hv ⊢
      obtain ⟨b, δ, cap, m, k1, k2, k3, k4, k5, k6⟩ := hv
      refine ⟨b, δ, cap, m, ?_, k2, k3, k4, k5, k6⟩
      simp only [frG]
      rw [if_neg (by omega), show n₀ + j - n₀ = j from by omega, h1]
      simp [h2, h3, k1]
    · simp only [VRep, SBase] at hv ⊢
      obtain ⟨b, o', k1, δ, k2, k3⟩ := hv
      refine ⟨b, o', k1, δ, ?_, k3⟩
      simp only [frG]
      rw [if_neg (by omega), show n₀ + j - n₀ = j from by omega, h1]
      simp [h2, h3, k2]
    · simp only [VRep] at hv ⊢
      obtain ⟨vs, k1, k2, k3⟩ := hv
      exact ⟨vs, k1, k2, ihL h3 k3⟩
    · simp only [VRep] at hv ⊢
      obtain ⟨vs, k1, k2⟩ := hv
      exact ⟨vs, k1, ihL h3 k2⟩

theorem fr_world {w₀ w : World} {g₀ g : Gh} {H₀ H : List (List AV)} {keep : List Nat} (hw₀ : WRep w₀ g₀ H₀) (hw : WRep w g H) (hs : Since w₀ g₀ H₀ w g H) (hom : ∀ id cs, id < H₀.length → H[id]? = some cs → mxL cs ≤ H₀.length) (hnd : keep.Nodup)
    (hk : ∀ k ∈ keep, H₀.length ≤ k ∧ ∃ cs, H[k]? = some cs ∧ mxL cs ≤ H₀.length) :
    WRep w (frG g H₀.length keep H) (frH H₀.length keep H) ∧ Since w₀ g₀ H₀ w (frG g H₀.length keep H) (frH H₀.length keep H) := by
  have hlen : H₀.length ≤ H.length := hs.len
  have htl : (H.take H₀.length).length = H₀.length := by simp; omega
  have hget : ∀ id cs, (frH H₀.length keep H)[id]? = some cs → (id < H₀.length ∧ H[id]? = some cs) ∨ (H₀.length ≤ id ∧ ∃ k, keep[id - H₀.length]? = some k ∧ H[k]? = some cs) := by
    intro id cs hc
    unfold frH at hc
    by_cases hid : id < H₀.length
    · rw [List.getElem?_append_left (by rw [htl]; exact hid), List.getElem?_take, if_pos hid] at hc
      exact .inl ⟨hid, hc⟩
    · rw [List.getElem?_append_right (by rw [htl]; omega), htl, List.getElem?_map, Option.map_eq_some_iff] at hc
      obtain ⟨k, h1, h2⟩ := hc
      obtain ⟨_, cs', h3, _⟩ := hk k (List.mem_of_getElem? h1)
      rw [h3] at h2; simp only [Option.getD_some] at h2; subst h2
      exact .inr ⟨by omega, k, h1, h3⟩
  have hrho : ∀ id cs, (frH H₀.length keep H)[id]? = some cs → ∃ k, H[k]? = some cs ∧ (frG g H₀.length keep H).ρ id cs.length = g.ρ k cs.length ∧ ((id < H₀.length ∧ k = id) ∨ (H₀.length ≤ id ∧ keep[id - H₀.length]? = some k ∧ H₀.length ≤ k)) ∧ mxL cs ≤ H₀.length := by
    intro id cs hc
    rcases hget id cs hc with ⟨hid, hc⟩ | ⟨hid, k, h1, h2⟩
    · exact ⟨id, hc, by simp only [frG, if_pos hid], .inl ⟨hid, rfl⟩, hom id cs hid hc⟩
    · obtain ⟨h3, cs', h4, h5⟩ := hk k (List.mem_of_getElem? h1)
      rw [h2] at h4; simp only [Option.some.injEq] at h4; subst h4
      refine ⟨k, h2, ?_, .inr ⟨hid, h1, h3⟩, h5⟩
      simp only [frG]
      rw [if_neg (by omega), h1]
      simp [h2]
  have hnf : ∀ k cs b δ, H[k]? = some cs → g.ρ k cs.length = some (b, δ) → (k < H₀.length ∨ k ∈ keep) → ¬ (frG g H₀.length keep H).Fz b := by
    rintro k cs b δ hc hp hkk (hf | ⟨id, cs', δ', h1, h2, h3, h4⟩)
    · obtain ⟨b', δ', c, e, q1, q2, q3, q4, q5, q6⟩ := hw.blk k cs hc
      rw [hp] at q1; simp only [Option.some.injEq, Prod.mk.injEq] at q1; obtain ⟨rfl, rfl⟩ := q1
      exact q5 hf
    · have := hw.inj k id cs cs' b δ δ' hc h3 hp h4
      subst this
      rcases hkk with h | h
      · omega
      · exact h2 h
  have hfl : (frH H₀.length keep H).length = H₀.length + keep.length := by simp [frH]; omega
  refine ⟨⟨fun id cs hc => ?_, fun i j cs₁ cs₂ b δ₁ δ₂ h1 h2 h3 h4 => ?_, fun b hb => ?_, fun id gen b δ hp => ?_, fun id gen p hp => ?_⟩, ?_⟩
  · obtain ⟨k, h1, h2, h3, h4⟩ := hrho id cs hc
    obtain ⟨b, δ, c, e, q1, q2, q3, q4, q5, q6⟩ := hw.blk k cs h1
    refine ⟨b, δ, c, e, by rw [h2]; exact q1, q2, q3, CRep.extN frG_ext cs b δ h4 rfl q4, hnf k cs b δ h1 q1 ?_, by omega⟩
    rcases h3 with ⟨h, rfl⟩ | ⟨_, h, _⟩
    · exact .inl h
    · exact .inr (List.mem_of_getElem? h)
  · obtain ⟨k, p1, p2, p3, _⟩ := hrho i cs₁ h1
    obtain ⟨k', r1, r2, r3, _⟩ := hrho j cs₂ h2
    rw [p2] at h3; rw [r2] at h4
    have hkk := hw.inj k k' cs₁ cs₂ b δ₁ δ₂ p1 r1 h3 h4
    subst hkk
    rcases p3 with ⟨a1, a2⟩ | ⟨a1, a2, a3⟩ <;> rcases r3 with ⟨b1, b2⟩ | ⟨b1, b2, b3⟩
    · omega
    · omega
    · omega
    · have hi := (List.getElem?_eq_some_iff.1 a2).1
      have hj := (List.getElem?_eq_some_iff.1 b2).1
      have hp := List.pairwise_iff_getElem.1 hnd
      obtain ⟨_, e1⟩ := List.getElem?_eq_some_iff.1 a2
      obtain ⟨_, e2⟩ := List.getElem?_eq_some_iff.1 b2
      rcases Nat.lt_trichotomy i j with h | h | h
      · exact absurd (e1.trans e2.symm) (hp _ _ hi hj (by omega))
      · exact h
      · exact absurd (e2.trans e1.symm) (hp _ _ hj hi (by omega))
  · rcases hb with hb | ⟨id, cs, δ, _, _, h3, h4⟩
    · exact hw.fzlt b hb
    · exact hw.rholt _ _ _ _ h4
  · simp only [frG] at hp
    split at hp
    · exact hw.rholt _ _ _ _ hp
    · split at hp
      · split at hp
        · exact hw.rholt _ _ _ _ hp
        · simp at hp
      · simp at hp
  · simp only [frG] at hp
    split at hp
    · rename_i hid
      obtain ⟨cs, h1, h2⟩ := hw.rhoid _ _ _ hp
      exact ⟨cs, by unfold frH; rw [List.getElem?_append_left (by rw [htl]; exact hid), List.getElem?_take, if_pos hid]; exact h1, h2⟩
    · rename_i hid
      split at hp
      · rename_i k hkj
        split at hp
        · rename_i hg
          obtain ⟨_, cs, h1, _⟩ := hk k (List.mem_of_getElem? hkj)
          rw [h1] at hg; simp only [Option.map_some, Option.some.injEq] at hg
          refine ⟨cs, ?_, by omega⟩
          unfold frH
          rw [List.getElem?_append_right (by rw [htl]; omega), htl, List.getElem?_map, hkj]
          simp [h1]
        · simp at hp
      · simp at hp
  · refine ⟨hs.sz, hs.keep, hs.bszk, hs.fro, fun b hb => .inl (hs.fz b hb), fun b hb hlt => ?_, fun id gen p hp => ?_, fun id cs b δ hlt hc hp => ?_, by rw [hfl]; omega, hs.same⟩
    · rcases hb with hb | ⟨id, cs, δ, h1, _, h3, h4⟩
      · exact hs.fznew b hb hlt
      · obtain ⟨cs₀, h5, _⟩ := hs.hbi id cs b δ hlt h3 h4
        have := (List.getElem?_eq_some_iff.1 h5).1
        omega
    · have h1 := hs.rho id gen p hp
      obtain ⟨cs, h2, _⟩ := hw.rhoid _ _ _ h1
      have hid : id < H₀.length := hw₀.ids _ _ _ hp
      simp only [frG, if_pos hid]; exact h1
    · obtain ⟨k, h1, h2, h3, _⟩ := hrho id cs hc
      rw [h2] at hp
      obtain ⟨cs₀, h5, h6⟩ := hs.hbi k cs b δ hlt h1 hp
      have hkl := (List.getElem?_eq_some_iff.1 h5).1
      rcases h3 with ⟨_, rfl⟩ | ⟨_, _, h⟩
      · exact ⟨cs₀, h5, h6⟩
      · omega

def resV (P : Program) (st : St) : ResultVar → Option AV
  | .tmp t => (st.ev (.tmp t)).asV
  | .cell x t =>
    match pureV P st.ev (lk st.L) st.H (.load t (.tmp x)) with
    | some (_, .val v) => some v
    | _ => none
def resOne : List AV → AV
  | [v] => v
  | vs => .tup vs

/-- THE END OF A BODY: what is handed back, and what of memory is kept -/
def RetQ (P : Program) (fn : Func) (H₀ : List (List AV)) (r : AV) (H' : List (List AV)) : XE → St → Prop := fun e st =>
  (match e with | .exit _ => False | _ => True) ∧ ∃ vs keep, (fn.results.toList.map (resV P st)).mapM id = some vs ∧ keep.Nodup ∧
    (∀ k ∈ keep, H₀.length ≤ k ∧ ∃ cs, st.H[k]? = some cs ∧ mxL cs ≤ H₀.length) ∧ frH H₀.length keep st.H = H' ∧ Fr H₀.length keep st.H (resOne vs) r

def argE : Nat → List AV → List (Nat × EV)
  | _, [] => []
  | i, v :: vs => (i, .val v) :: argE (i + 1) vs

def resF (a : Act) (r : ResultVar) : Sem Value :=
  match r with
  | .tmp t => Pure.pure (a.tmps.getD t undef)
  | .cell x t => do loadVar t (← asAddr (a.tmps.getD x undef))
theorem res_run {C : Cx} {st : St} {a : Act} {w : World} {g : Gh} {lam : Nat → Nat} (h : SRepG C st a w g lam) : ∀ (rs : List ResultVar) (vs : List AV), (rs.map (resV C.P st)).mapM id = some vs →
    ∃ xs : List Value, (rs.mapM (resF a)).run C.P w = .ok xs w ∧ LRep w g vs xs
  | [], vs, hv => by simp at hv; subst hv; exact ⟨[], rfl, by simp [LRep]⟩
  | r :: rs, vs, hv => by
    have hm := mapM_id hv
    cases vs with
    | nil => simp at hm
    | cons v vs =>
      simp only [List.map_cons, List.cons.injEq] at hm
      obtain ⟨hr, hm⟩ := hm
      have hv' : (rs.map (resV C.P st)).mapM id = some vs := by
        simp only [List.map_cons, List.mapM_cons, id_eq, hr, Option.bind_eq_bind, Option.bind_some, Option.bind_eq_some_iff, Option.pure_def, Option.some.injEq, List.cons.injEq, true_and] at hv
        obtain ⟨y, h1, rfl⟩ := hv
        exact h1
      obtain ⟨xs, h1, h2⟩ := res_run h rs vs hv'
      have one : ∃ x, (resF a r).run C.P w = .ok x w ∧ VRep w g v x := by
        cases r with
        | tmp t => exact ⟨a.tmps.getD t undef, rfl, h.evV (asV_eq hr)⟩
        | cell y t =>
          simp only [resV] at hr
          split at hr
          · rename_i c v' hp
            simp only [Option.some.injEq] at hr; subst hr
            simp only [pureV] at hp
            split at hp
            · rename_i key off he
              simp only [Option.bind_eq_some_iff, Option.map_eq_some_iff, Prod.mk.injEq] at hp
              obtain ⟨cs, h1, n, h2, l, h3, v'', h4, rfl, hq⟩ := hp
              simp only [EV.val.injEq] at hq; subst hq
              obtain ⟨c', e', k1, k2, k3, k4⟩ := h.lr.box key cs h1
              have hl := CRep_gc k3 h3
              rw [Nat.zero_add] at hl
              have hx : a.tmps.getD y undef = .pointer (some ⟨lam key, off, none⟩) := h.evL he
              have hagg := ld_same (P := C.P) h2 (gc_get h3).1 hl h4
              obtain ⟨x, j1, j2⟩ := hagg
              exact ⟨x, by simp only [resF, hx, asAddr, Sem.run_bind, Sem.run_pure, Result.andThen_ok, j1], j2⟩
            · rename_i s off he
              simp only [Option.bind_eq_some_iff, Option.map_eq_some_iff, Prod.mk.injEq] at hp
              obtain ⟨n, h2, l, h3, v'', h4, rfl, hq⟩ := hp
              simp only [EV.val.injEq] at hq; subst hq
              have hx := h.evV he
              simp only [VRep] at hx
              obtain ⟨b, o', hx, hs⟩ := hx
              obtain ⟨k1, k2⟩ := sread_rep h.wr hs h3
              obtain ⟨x, j1, j2⟩ := ld_same (P := C.P) h2 k2 k1 h4
              have hx' : a.tmps.getD y undef = .pointer (some ⟨b, o' + off, none⟩) := hx
              exact ⟨x, by simp only [resF, hx', asAddr, Sem.run_bind, Sem.run_pure, Result.andThen_ok, j1], j2⟩
            · simp at hp
          · simp at hr
      obtain ⟨x, j1, j2⟩ := one
      refine ⟨x :: xs, ?_, by simp only [LRep]; exact ⟨x, xs, rfl, j2, h2⟩⟩
      simp only [List.mapM_cons, Sem.run_bind, j1, Result.andThen_ok, h1, Sem.run_pure]
end Go.Sx

set_option linter.unusedVariables false
set_option linter.unusedSimpArgs false
namespace Go.Sx

theorem argE_get {w : World} {g : Gh} {lam : Nat → Nat} : ∀ {i : Nat} {args : List AV} {vs : List Value} {t : Nat} {e : EV}, LRep w g args vs → lk (argE i args) t = some e →
    i ≤ t ∧ ∃ x, vs[t - i]? = some x ∧ ERep w g lam e x
  | i, [], vs, t, e, _, h => by simp [argE, lk] at h
  | i, v :: args, vs, t, e, hl, h => by
    simp only [LRep] at hl
    obtain ⟨x, rest, rfl, h1, h2⟩ := hl
    simp only [argE, lk] at h
    split at h
    · rename_i hh; subst hh
      simp only [Option.some.injEq] at h; subst h
      exact ⟨Nat.le_refl _, x, by simp, h1⟩
    · obtain ⟨h3, y, h4, h5⟩ := argE_get (lam := lam) h2 h
      refine ⟨by omega, y, ?_, h5⟩
      rw [show t - i = (t - (i + 1)) + 1 from by omega]
      simpa using h4

theorem Spec.intro {P : Program} {f : Nat} {fn : Func} {body : Code} {args : List AV} {H H' : List (List AV)} {r : AV} (hf : P.funcs[f]? = some fn) (hb : fn.body = some body)
    (hd : dstsOk fn.ntmps body = true) (hn : args.length ≤ fn.ntmps) (esc : Bool) (fz : List Nat) {draw : Array Oper → (St → Prop) → St → Prop} (hdr : ∀ C : Cx, C.P = P → C.cfg = ⟨esc, H.length, fz⟩ → DrawOk C draw)
    (h : Ex P ⟨esc, H.length, fz⟩ draw body (RetQ P fn H r H') ⟨argE 0 args, [], H⟩) : Spec P f args H r H' := by
  intro w g cargs hw hl
  have hsz : cargs.size = args.length := by have := LRep_length hl; simpa using this
  refine calls_of_wp hf hb ?_
  let C : Cx := ⟨P, ⟨esc, H.length, fz⟩, w, g, H, fn.ntmps⟩
  have hs : SRep C ⟨argE 0 args, [], H⟩ { tmps := cargs ++ Array.replicate (fn.ntmps - cargs.size) undef, defers := [] } w := by
    refine ⟨g, fun _ => 0, hw, Since.refl hw, ⟨fun key cs hc => by simp [lk] at hc, fun k k' h1 h2 _ => by simp [lk] at h1⟩, fun t e he => ?_, rfl, ?_, Nat.le_refl _, fun id cs _ hc => ?_⟩
    · obtain ⟨_, x, h1, h2⟩ := argE_get (lam := fun _ => 0) hl he
      refine ⟨x, ?_, h2⟩
      rw [Nat.sub_zero] at h1
      have hlt : t < cargs.size := by have := (List.getElem?_eq_some_iff.1 h1).1; simpa using this
      rw [Array.getElem?_append_left hlt]; simpa using h1
    · simp [C]; omega
    · obtain ⟨_, _, _, _, _, _, _, _, _, h⟩ := hw.blk id cs hc; exact h
  refine wp_mono (ex_sound (C := C) (hdr C rfl rfl) body _ _ _ w hd h hs) fun e a w' he => ?_
  have key : ∀ e' st, SRep C st a w' → RetQ P fn H r H' e' st → a.defers = [] ∧ ∃ v, (results fn a.tmps).run P w' = .ok v w' ∧
      ∃ v₁ g', (Ending.returned v) = .returned v₁ ∧ WRep w' g' H' ∧ Since w g H w' g' H' ∧ VRep w' g' r v₁ := by
    rintro e' st ⟨g', lam, hs'⟩ ⟨_, vs, keep, h1, h2, h3, h4, h5⟩
    obtain ⟨xs, j1, j2⟩ := res_run hs' fn.results.toList vs h1
    dsimp only [C] at j1
    obtain ⟨k1, k2⟩ := fr_world hw hs'.wr hs'.si hs'.om h2 h3
    refine ⟨hs'.defs, ?_⟩
    have hrun : (fn.results.mapM (resF a)).run P w' = .ok xs.toArray w' := by
      rw [Array.mapM_eq_mapM_toList, map_eq_pure_bind, Sem.run_bind, j1]
      simp
    obtain ⟨d, h5⟩ := h5
    have hxl := LRep_length j2
    have hv : VRep w' g' (resOne vs) (if h : xs.toArray.size = 1 then xs.toArray[0] else .tuple xs.toArray) := by
      match vs, xs, j2, hxl with
      | [], [], j2, _ => simp only [resOne]; simp [VRep, LRep]
      | [v], [x], j2, _ =>
        simp only [LRep] at j2
        obtain ⟨y, rest, hh, j3, j4⟩ := j2
        simp only [List.cons.injEq] at hh; obtain ⟨rfl, rfl⟩ := hh
        simpa [resOne] using j3
      | v :: v' :: vs, x :: x' :: xs, j2, _ =>
        have : ¬ ((x :: x' :: xs).toArray.size = 1) := by simp
        rw [dif_neg this]
        simp only [resOne, VRep]
        exact ⟨_, rfl, by simpa using j2⟩
      | [], _ :: _, _, h => simp at h
      | [_], [], _, h => simp at h
      | [_], _ :: _ :: _, _, h => simp at h
      | _ :: _ :: _, [], _, h => simp at h
      | _ :: _ :: _, [_], _, h => simp at h
    refine ⟨_, ?_, _, frG g' H.length keep st.H, rfl, by rw [← h4]; exact k1, by rw [← h4]; exact k2, Fr_rep hs'.wr (fun k hk => (h3 k hk).1) d _ r _ h5 hv⟩
    simp only [results, Sem.run_bind]
    exact congrArg (fun q => Result.andThen q (fun vs w'' => (Sem.run P (Pure.pure (if h : vs.size = 1 then vs[0] else Value.tuple vs)) w''))) hrun
  cases e <;> simp only [Post] at he
  · obtain ⟨st, h1, h2⟩ := he; exact key _ st h1 h2
  · obtain ⟨st, h1, h2⟩ := he; exact h2.1.elim
  · obtain ⟨st, h1, h2⟩ := he; exact key _ st h1 h2

theorem drawNo (C : Cx) : DrawOk C (fun _ _ _ => False) := fun _ _ _ _ _ _ _ _ h => h.elim

theorem CSpec.mk {P : Program} {f : Nat} {args : List AV} {H H' : List (List AV)} {r : AV} (he : Enters P f) (h : Spec P f args H r H') : CSpec P f args H r H' := .inl ⟨he, h⟩
end Go.Sx

set_option linter.unusedVariables false
set_option linter.unusedSimpArgs false
namespace Go.Sx

/-! ### a return where blocks of old may lead to new ones -/
/-- the blocks that are kept: those of old, those named, each told as values are handed back -/
def FrW (n₀ : Nat) (keep : List Nat) (H H' : List (List AV)) : Prop :=
  H'.length = n₀ + keep.length ∧ ∀ id cs', H'[id]? = some cs' → mxL cs' ≤ H'.length ∧ ∃ k cs, H[k]? = some cs ∧ ((id < n₀ ∧ k = id) ∨ (n₀ ≤ id ∧ keep[id - n₀]? = some k)) ∧ cs'.length = cs.length ∧ Frs n₀ keep H cs cs'

theorem Frs_crep {w : World} {g : Gh} {n₀ : Nat} {keep : List Nat} {H : List (List AV)} (hw : WRep w g H) (hk : ∀ k ∈ keep, n₀ ≤ k) {l l' : List AV} {b o : Nat} (ha : Frs n₀ keep H l l') (hl : CRep w g l b o) : CRep w (frG g n₀ keep H) l' b o := by
  obtain ⟨d, ha⟩ := ha
  rw [CRep_iff] at hl ⊢
  intro i c h1
  have hlt : i < l.length := by rw [ha.1]; exact (List.getElem?_eq_some_iff.1 h1).1
  obtain ⟨x, j1, j2, j3⟩ := hl i l[i] (by simp [hlt])
  exact ⟨x, j1, j2, Fr_rep hw hk d l[i] c x (ha.2 i l[i] c (by simp [hlt]) h1) j3⟩

theorem fr_worldL {w₀ w : World} {g₀ g : Gh} {H₀ H H' : List (List AV)} {keep : List Nat} (hw₀ : WRep w₀ g₀ H₀) (hw : WRep w g H) (hs : Since w₀ g₀ H₀ w g H) (hnd : keep.Nodup)
    (hk : ∀ k ∈ keep, H₀.length ≤ k ∧ ∃ cs, H[k]? = some cs) (hF : FrW H₀.length keep H H') :
    WRep w (frG g H₀.length keep H) H' ∧ Since w₀ g₀ H₀ w (frG g H₀.length keep H) H' := by
  have hlen : H₀.length ≤ H.length := hs.len
  obtain ⟨hfl, hF⟩ := hF
  have hrho : ∀ id cs', H'[id]? = some cs' → ∃ k cs, H[k]? = some cs ∧ (frG g H₀.length keep H).ρ id cs'.length = g.ρ k cs.length ∧ ((id < H₀.length ∧ k = id) ∨ (H₀.length ≤ id ∧ keep[id - H₀.length]? = some k ∧ H₀.length ≤ k)) ∧ cs'.length = cs.length ∧ Frs H₀.length keep H cs cs' ∧ mxL cs' ≤ H'.length := by
    intro id cs' hc
    obtain ⟨hm, k, cs, h1, h2, h3, h4⟩ := hF id cs' hc
    rcases h2 with ⟨hid, rfl⟩ | ⟨hid, hkj⟩
    · exact ⟨k, cs, h1, by simp only [frG, if_pos hid, h3], .inl ⟨hid, rfl⟩, h3, h4, hm⟩
    · refine ⟨k, cs, h1, ?_, .inr ⟨hid, hkj, (hk k (List.mem_of_getElem? hkj)).1⟩, h3, h4, hm⟩
      simp only [frG]
      rw [if_neg (by omega), hkj]
      simp [h1, h3]
  have hnf : ∀ k cs b δ, H[k]? = some cs → g.ρ k cs.length = some (b, δ) → (k < H₀.length ∨ k ∈ keep) → ¬ (frG g H₀.length keep H).Fz b := by
    rintro k cs b δ hc hp hkk (hf | ⟨id, cs', δ', h1, h2, h3, h4⟩)
    · obtain ⟨b', δ', c, e, q1, q2, q3, q4, q5, q6⟩ := hw.blk k cs hc
      rw [hp] at q1; simp only [Option.some.injEq, Prod.mk.injEq] at q1; obtain ⟨rfl, rfl⟩ := q1
      exact q5 hf
    · have := hw.inj k id cs cs' b δ δ' hc h3 hp h4
      subst this
      rcases hkk with h | h
      · omega
      · exact h2 h
  refine ⟨⟨fun id cs' hc => ?_, fun i j cs₁ cs₂ b δ₁ δ₂ h1 h2 h3 h4 => ?_, fun b hb => ?_, fun id gen b δ hp => ?_, fun id gen p hp => ?_⟩, ?_⟩
  · obtain ⟨k, cs, h1, h2, h3, h4, h5, h6⟩ := hrho id cs' hc
    obtain ⟨b, δ, c, e, q1, q2, q3, q4, q5, q6⟩ := hw.blk k cs h1
    refine ⟨b, δ, c, e, by rw [h2]; exact q1, q2, by rw [h4]; exact q3, Frs_crep hw (fun k hkk => (hk k hkk).1) h5 q4, hnf k cs b δ h1 q1 ?_, h6⟩
    rcases h3 with ⟨h, rfl⟩ | ⟨_, h, _⟩
    · exact .inl h
    · exact .inr (List.mem_of_getElem? h)
  · obtain ⟨k, c1, p1, p2, p3, _⟩ := hrho i cs₁ h1
    obtain ⟨k', c2, r1, r2, r3, _⟩ := hrho j cs₂ h2
    rw [p2] at h3; rw [r2] at h4
    have hkk := hw.inj k k' c1 c2 b δ₁ δ₂ p1 r1 h3 h4
    subst hkk
    rcases p3 with ⟨a1, a2⟩ | ⟨a1, a2, a3⟩ <;> rcases r3 with ⟨b1, b2⟩ | ⟨b1, b2, b3⟩
    · omega
    · omega
    · omega
    · have hi := (List.getElem?_eq_some_iff.1 a2).1
      have hj := (List.getElem?_eq_some_iff.1 b2).1
      have hp := List.pairwise_iff_getElem.1 hnd
      obtain ⟨_, e1⟩ := List.getElem?_eq_some_iff.1 a2
      obtain ⟨_, e2⟩ := List.getElem?_eq_some_iff.1 b2
      rcases Nat.lt_trichotomy i j with h | h | h
      · exact absurd (e1.trans e2.symm) (hp _ _ hi hj (by omega))
      · exact h
      · exact absurd (e2.trans e1.symm) (hp _ _ hj hi (by omega))
  · rcases hb with hb | ⟨id, cs, δ, _, _, h3, h4⟩
    · exact hw.fzlt b hb
    · exact hw.rholt _ _ _ _ h4
  · simp only [frG] at hp
    split at hp
    · exact hw.rholt _ _ _ _ hp
    · split at hp
      · split at hp
        · exact hw.rholt _ _ _ _ hp
        · simp at hp
      · simp at hp
  · simp only [frG] at hp
    have key : ∀ k cs, H[k]? = some cs → ((id < H₀.length ∧ k = id) ∨ (H₀.length ≤ id ∧ keep[id - H₀.length]? = some k)) → ∃ cs', H'[id]? = some cs' ∧ cs'.length = cs.length := by
      intro k cs hc hkk
      have hlt : id < H'.length := by
        rw [hfl]
        rcases hkk with ⟨h, _⟩ | ⟨h, hj⟩
        · omega
        · have := (List.getElem?_eq_some_iff.1 hj).1; omega
      obtain ⟨_, k', cs₁, h1, h2, h3, _⟩ := hF id H'[id] (by simp [hlt])
      have : k' = k := by
        rcases hkk with ⟨h, rfl⟩ | ⟨h, hj⟩ <;> rcases h2 with ⟨h', rfl⟩ | ⟨h', hj'⟩
        · rfl
        · omega
        · omega
        · rw [hj] at hj'; simpa using hj'.symm
      subst this
      rw [hc] at h1; simp only [Option.some.injEq] at h1; subst h1
      exact ⟨H'[id], by simp [hlt], h3⟩
    split at hp
    · rename_i hid
      obtain ⟨cs, h1, h2⟩ := hw.rhoid _ _ _ hp
      obtain ⟨cs', h3, h4⟩ := key id cs h1 (.inl ⟨hid, rfl⟩)
      exact ⟨cs', h3, by omega⟩
    · rename_i hid
      split at hp
      · rename_i k hkj
        split at hp
        · rename_i hg
          obtain ⟨_, cs, h1⟩ := hk k (List.mem_of_getElem? hkj)
          rw [h1] at hg; simp only [Option.map_some, Option.some.injEq] at hg
          obtain ⟨cs', h3, h4⟩ := key k cs h1 (.inr ⟨by omega, hkj⟩)
          exact ⟨cs', h3, by omega⟩
        · simp at hp
      · simp at hp
  · refine ⟨hs.sz, hs.keep, hs.bszk, hs.fro, fun b hb => .inl (hs.fz b hb), fun b hb hlt => ?_, fun id gen p hp => ?_, fun id cs b δ hlt hc hp => ?_, by rw [hfl]; omega, hs.same⟩
    · rcases hb with hb | ⟨id, cs, δ, h1, _, h3, h4⟩
      · exact hs.fznew b hb hlt
      · obtain ⟨cs₀, h5, _⟩ := hs.hbi id cs b δ hlt h3 h4
        have := (List.getElem?_eq_some_iff.1 h5).1
        omega
    · have h1 := hs.rho id gen p hp
      have hid : id < H₀.length := hw₀.ids _ _ _ hp
      simp only [frG, if_pos hid]; exact h1
    · obtain ⟨k, c1, h1, h2, h3, h4, _⟩ := hrho id cs hc
      rw [h2] at hp
      obtain ⟨cs₀, h5, h6⟩ := hs.hbi k c1 b δ hlt h1 hp
      have hkl := (List.getElem?_eq_some_iff.1 h5).1
      rcases h3 with ⟨_, rfl⟩ | ⟨_, _, h⟩
      · exact ⟨cs₀, h5, h6⟩
      · omega

/-- THE END OF A BODY, where blocks of old may lead to new ones -/
def RetL (P : Program) (fn : Func) (H₀ : List (List AV)) (r : AV) (H' : List (List AV)) : XE → St → Prop := fun e st =>
  (match e with | .exit _ => False | _ => True) ∧ ∃ vs keep, (fn.results.toList.map (resV P st)).mapM id = some vs ∧ keep.Nodup ∧
    (∀ k ∈ keep, H₀.length ≤ k ∧ ∃ cs, st.H[k]? = some cs) ∧ FrW H₀.length keep st.H H' ∧ Fr H₀.length keep st.H (resOne vs) r

theorem Spec.introL {P : Program} {f : Nat} {fn : Func} {body : Code} {args : List AV} {H H' : List (List AV)} {r : AV} (hf : P.funcs[f]? = some fn) (hb : fn.body = some body)
    (hd : dstsOk fn.ntmps body = true) (hn : args.length ≤ fn.ntmps) (esc : Bool) (fz : List Nat) {draw : Array Oper → (St → Prop) → St → Prop} (hdr : ∀ C : Cx, C.P = P → C.cfg = ⟨esc, 0, fz⟩ → DrawOk C draw)
    (h : Ex P ⟨esc, 0, fz⟩ draw body (RetL P fn H r H') ⟨argE 0 args, [], H⟩) : Spec P f args H r H' := by
  intro w g cargs hw hl
  have hsz : cargs.size = args.length := by have := LRep_length hl; simpa using this
  refine calls_of_wp hf hb ?_
  let C : Cx := ⟨P, ⟨esc, 0, fz⟩, w, g, H, fn.ntmps⟩
  have hs : SRep C ⟨argE 0 args, [], H⟩ { tmps := cargs ++ Array.replicate (fn.ntmps - cargs.size) undef, defers := [] } w := by
    refine ⟨g, fun _ => 0, hw, Since.refl hw, ⟨fun key cs hc => by simp [lk] at hc, fun k k' h1 h2 _ => by simp [lk] at h1⟩, fun t e he => ?_, rfl, ?_, Nat.zero_le _, fun id cs hid _ => absurd hid (Nat.not_lt_zero _)⟩
    · obtain ⟨_, x, h1, h2⟩ := argE_get (lam := fun _ => 0) hl he
      refine ⟨x, ?_, h2⟩
      rw [Nat.sub_zero] at h1
      have hlt : t < cargs.size := by have := (List.getElem?_eq_some_iff.1 h1).1; simpa using this
      rw [Array.getElem?_append_left hlt]; simpa using h1
    · simp [C]; omega
  refine wp_mono (ex_sound (C := C) (hdr C rfl rfl) body _ _ _ w hd h hs) fun e a w' he => ?_
  have key : ∀ e' st, SRep C st a w' → RetL P fn H r H' e' st → a.defers = [] ∧ ∃ v, (results fn a.tmps).run P w' = .ok v w' ∧
      ∃ v₁ g', (Ending.returned v) = .returned v₁ ∧ WRep w' g' H' ∧ Since w g H w' g' H' ∧ VRep w' g' r v₁ := by
    rintro e' st ⟨g', lam, hs'⟩ ⟨_, vs, keep, h1, h2, h3, h4, h5⟩
    obtain ⟨xs, j1, j2⟩ := res_run hs' fn.results.toList vs h1
    dsimp only [C] at j1
    obtain ⟨k1, k2⟩ := fr_worldL hw hs'.wr hs'.si h2 h3 h4
    refine ⟨hs'.defs, ?_⟩
    have hrun : (fn.results.mapM (resF a)).run P w' = .ok xs.toArray w' := by
      rw [Array.mapM_eq_mapM_toList, map_eq_pure_bind, Sem.run_bind, j1]
      simp
    obtain ⟨d, h5⟩ := h5
    have hxl := LRep_length j2
    have hv : VRep w' g' (resOne vs) (if h : xs.toArray.size = 1 then xs.toArray[0] else .tuple xs.toArray) := by
      match vs, xs, j2, hxl with
      | [], [], j2, _ => simp only [resOne]; simp [VRep, LRep]
      | [v], [x], j2, _ =>
        simp only [LRep] at j2
        obtain ⟨y, rest, hh, j3, j4⟩ := j2
        simp only [List.cons.injEq] at hh; obtain ⟨rfl, rfl⟩ := hh
        simpa [resOne] using j3
      | v :: v' :: vs, x :: x' :: xs, j2, _ =>
        have : ¬ ((x :: x' :: xs).toArray.size = 1) := by simp
        rw [dif_neg this]
        simp only [resOne, VRep]
        exact ⟨_, rfl, by simpa using j2⟩
      | [], _ :: _, _, h => simp at h
      | [_], [], _, h => simp at h
      | [_], _ :: _ :: _, _, h => simp at h
      | _ :: _ :: _, [], _, h => simp at h
      | _ :: _ :: _, [_], _, h => simp at h
    refine ⟨_, ?_, _, frG g' H.length keep st.H, rfl, k1, k2, Fr_rep hs'.wr (fun k hk => (h3 k hk).1) d _ r _ h5 hv⟩
    simp only [results, Sem.run_bind]
    exact congrArg (fun q => Result.andThen q (fun vs w'' => (Sem.run P (Pure.pure (if h : vs.size = 1 then vs[0] else Value.tuple vs)) w''))) hrun
  cases e <;> simp only [Post] at he
  · obtain ⟨st, h1, h2⟩ := he; exact key _ st h1 h2
  · obtain ⟨st, h1, h2⟩ := he; exact h2.1.elim
  · obtain ⟨st, h1, h2⟩ := he; exact key _ st h1 h2
end Go.Sx

set_option linter.unusedVariables false
set_option linter.unusedSimpArgs false
namespace Go.Sx
section
variable (P : Program) (cfg : Cfg) (dr : Array Oper → (St → Prop) → St → Prop) (e : List (Nat × EV)) (L : List (Nat × List AV)) (H : List (List AV)) (Q : XE → St → Prop) (K : St → Prop)

/-! ### the rules by which a body is evaluated: each fires at a state that is written out -/
theorem ex_skip : Ex P cfg dr .skip Q ⟨e, L, H⟩ = Q .normal ⟨e, L, H⟩ := rfl
theorem ex_ret : Ex P cfg dr .ret Q ⟨e, L, H⟩ = Q .ret ⟨e, L, H⟩ := rfl
theorem ex_exit (i : Nat) : Ex P cfg dr (.exit i) Q ⟨e, L, H⟩ = Q (.exit i) ⟨e, L, H⟩ := rfl
def thenX (P : Program) (cfg : Cfg) (dr : Array Oper → (St → Prop) → St → Prop) (y : Code) (Q : XE → St → Prop) : XE → St → Prop := fun e s => match e with | .normal => Ex P cfg dr y Q s | e => Q e s
def blkX (id : Nat) (Q : XE → St → Prop) : XE → St → Prop := fun e s => match e with | .exit i => if i = id then Q .normal s else Q (.exit i) s | e => Q e s
theorem ex_seq (x y : Code) : Ex P cfg dr (.seq x y) Q ⟨e, L, H⟩ = Ex P cfg dr x (thenX P cfg dr y Q) ⟨e, L, H⟩ := rfl
theorem ex_block (id : Nat) (c : Code) : Ex P cfg dr (.block id c) Q ⟨e, L, H⟩ = Ex P cfg dr c (blkX id Q) ⟨e, L, H⟩ := rfl
theorem ex_cond (c : Operand) (x y : Code) : Ex P cfg dr (.cond c x y) Q ⟨e, L, H⟩ =
    match (St.ev ⟨e, L, H⟩ c).asB with
    | some b => (b = true → Ex P cfg dr x Q ⟨e, L, H⟩) ∧ (b = false → Ex P cfg dr y Q ⟨e, L, H⟩)
    | none => False := rfl
theorem ex_region (id : Nat) (ops : List Oper) : Ex P cfg dr (.region id ops.toArray false) Q ⟨e, L, H⟩ = exOps P cfg ops.toArray none ops (Q .normal) ⟨e, L, H⟩ := rfl
theorem ex_draw (id : Nat) (ops : Array Oper) : Ex P cfg dr (.region id ops true) Q ⟨e, L, H⟩ = dr ops (Q .normal) ⟨e, L, H⟩ := rfl
theorem then_normal (y : Code) : thenX P cfg dr y Q .normal ⟨e, L, H⟩ = Ex P cfg dr y Q ⟨e, L, H⟩ := rfl
theorem then_exit (y : Code) (i : Nat) : thenX P cfg dr y Q (.exit i) ⟨e, L, H⟩ = Q (.exit i) ⟨e, L, H⟩ := rfl
theorem then_ret (y : Code) : thenX P cfg dr y Q .ret ⟨e, L, H⟩ = Q .ret ⟨e, L, H⟩ := rfl
theorem blk_normal (i : Nat) : blkX i Q .normal ⟨e, L, H⟩ = Q .normal ⟨e, L, H⟩ := rfl
theorem blk_exit (i j : Nat) : blkX i Q (.exit j) ⟨e, L, H⟩ = if j = i then Q .normal ⟨e, L, H⟩ else Q (.exit j) ⟨e, L, H⟩ := rfl
theorem blk_ret (i : Nat) : blkX i Q .ret ⟨e, L, H⟩ = Q .ret ⟨e, L, H⟩ := rfl
variable (kn : Option (Nat × Bool))
theorem ops_nil (ops : Array Oper) : exOps P cfg ops kn [] K ⟨e, L, H⟩ = K ⟨e, L, H⟩ := rfl
theorem ops_cons0 (ops : Array Oper) (d : Option Tmp) (o : Op) (ty : TypeId) (pos : String) (aft : Array Edge) (rest : List Oper) :
    exOps P cfg ops none ({ dst := d, op := o, type := ty, pos := pos, after := aft, guard := none } :: rest) K ⟨e, L, H⟩ =
      opX P cfg { dst := d, op := o, type := ty, pos := pos, after := aft, guard := none } (exOps P cfg ops none rest K) ⟨e, L, H⟩ := rfl
theorem ops_cons1 (ops : Array Oper) (d : Option Tmp) (o : Op) (ty : TypeId) (pos : String) (aft : Array Edge) (j : Nat) (b : Bool) (rest : List Oper) :
    exOps P cfg ops (some (j, b)) ({ dst := d, op := o, type := ty, pos := pos, after := aft, guard := none } :: rest) K ⟨e, L, H⟩ =
      opX P cfg { dst := d, op := o, type := ty, pos := pos, after := aft, guard := none } (exOps P cfg ops (if ((ops[j]?).bind (·.dst)) == d then none else some (j, b)) rest K) ⟨e, L, H⟩ := rfl
/-- how a guard is met -/
def guardX (P : Program) (cfg : Cfg) (ops : Array Oper) (o : Oper) (j : Nat) (want : Bool) (t : Nat) (kn : Option (Nat × Bool)) (rest : List Oper) (K : St → Prop) (st : St) : Option Bool → Prop
  | none => if (st.ev (.tmp t)).isU then exOps P cfg ops (if kn.any (fun p => ((ops[p.1]?).bind (·.dst)) == o.dst) then none else kn) rest K (st.put o.dst (.val (.tup []))) else False
  | some b =>
    (b = want → opX P cfg o (exOps P cfg ops (some (j, want)) rest K) ⟨upd t (.val (.bool want)) st.env, st.L, st.H⟩) ∧
    (b = !want → exOps P cfg ops (some (j, !want)) rest K (St.put ⟨upd t (.val (.bool (!want))) st.env, st.L, st.H⟩ o.dst (.val (.tup []))))
def skipX (P : Program) (cfg : Cfg) (ops : Array Oper) (o : Oper) (j : Nat) (want : Bool) (kn : Option (Nat × Bool)) (rest : List Oper) (K : St → Prop) (st : St) : Option Nat → Prop
  | none => False
  | some t =>
    if o.dst = some t then False else
    if kn = some (j, want) then opX P cfg o (exOps P cfg ops kn rest K) st else
    if kn = some (j, !want) then exOps P cfg ops kn rest K (st.put o.dst (.val (.tup []))) else
    guardX P cfg ops o j want t kn rest K st ((st.ev (.tmp t)).asB)
theorem ops_guard (ops : Array Oper) (d : Option Tmp) (o : Op) (ty : TypeId) (pos : String) (aft : Array Edge) (j : Nat) (want : Bool) (rest : List Oper) :
    exOps P cfg ops kn ({ dst := d, op := o, type := ty, pos := pos, after := aft, guard := some (j, want) } :: rest) K ⟨e, L, H⟩ =
      skipX P cfg ops { dst := d, op := o, type := ty, pos := pos, after := aft, guard := some (j, want) } j want kn rest K ⟨e, L, H⟩ ((ops[j]?).bind (·.dst)) := by
  simp only [exOps, skipX, guardX]
  cases (ops[j]?).bind (·.dst) with
  | none => rfl
  | some t => cases (St.ev ⟨e, L, H⟩ (.tmp t)).asB <;> rfl
theorem skip_some (ops : Array Oper) (o : Oper) (j : Nat) (want : Bool) (rest : List Oper) (t : Nat) :
    skipX P cfg ops o j want kn rest K ⟨e, L, H⟩ (some t) = (if o.dst = some t then False else
    if kn = some (j, want) then opX P cfg o (exOps P cfg ops kn rest K) ⟨e, L, H⟩ else
    if kn = some (j, !want) then exOps P cfg ops kn rest K (St.put ⟨e, L, H⟩ o.dst (.val (.tup []))) else
    guardX P cfg ops o j want t kn rest K ⟨e, L, H⟩ ((St.ev ⟨e, L, H⟩ (.tmp t)).asB)) := rfl
theorem guard_some (ops : Array Oper) (o : Oper) (j : Nat) (want : Bool) (rest : List Oper) (t : Nat) (b : Bool) :
    guardX P cfg ops o j want t kn rest K ⟨e, L, H⟩ (some b) =
    ((b = want → opX P cfg o (exOps P cfg ops (some (j, want)) rest K) ⟨upd t (.val (.bool want)) e, L, H⟩) ∧
    (b = !want → exOps P cfg ops (some (j, !want)) rest K (St.put ⟨upd t (.val (.bool (!want))) e, L, H⟩ o.dst (.val (.tup []))))) := rfl
theorem upd_nil (t : Nat) (v : EV) : upd t v [] = [] := rfl
theorem upd_hit (t : Nat) (v x : EV) (r : List (Nat × EV)) : upd t v ((t, x) :: r) = (t, v) :: r := by simp [upd]
theorem upd_miss {k t : Nat} (h : (k == t) = false) (v x : EV) (r : List (Nat × EV)) : upd t v ((k, x) :: r) = (k, x) :: upd t v r := by
  have : k ≠ t := by simpa using h
  simp [upd, this]

theorem put_some (d : Nat) (v : EV) : St.put ⟨e, L, H⟩ (some d) v = ⟨(d, v) :: e, L, H⟩ := rfl
theorem put_none (v : EV) : St.put ⟨e, L, H⟩ none v = ⟨e, L, H⟩ := rfl
theorem ev_tmp (t : Nat) : St.ev ⟨e, L, H⟩ (.tmp t) = (lk e t).getD (.val .junk) := rfl
theorem ev_const (v : Value) : St.ev ⟨e, L, H⟩ (.const v) = .val (aOf v) := rfl
theorem ev_func (f : Nat) : St.ev ⟨e, L, H⟩ (.func f) = .val (.func f [] []) := rfl
theorem lk_hit {α : Type} (k : Nat) (v : α) (r : List (Nat × α)) : lk ((k, v) :: r) k = some v := by simp [lk]
theorem lk_miss {α : Type} {k t : Nat} (h : (k == t) = false) (v : α) (r : List (Nat × α)) : lk ((k, v) :: r) t = lk r t := by
  have : k ≠ t := by simpa using h
  simp [lk, this]
theorem aOf_bool (b : Bool) : aOf (.bool b) = .bool b := rfl
theorem aOf_int (k : IntKind) (n : Int) : aOf (.int k n) = .int k n := rfl
theorem aOf_nil : aOf (.slice none 0 0) = .slnil := rfl
theorem aOf_str (s : ByteArray) : aOf (.string s) = .str s := rfl

/-! operations, one by one -/
variable (d : Option Tmp) (ty : TypeId) (pos : String) (aft : Array Edge) (gd : Option (Nat × Bool))
/-- what a value that turns nothing leads to -/
def pureK (p : Option (Prop × EV)) (st : St) (d : Option Tmp) (K : St → Prop) : Prop :=
  match p with
  | some (c, v) => c ∧ K (st.put d v)
  | none => False
theorem pureK_some (c : Prop) (v : EV) : pureK (some (c, v)) ⟨e, L, H⟩ d K = (c ∧ K (St.put ⟨e, L, H⟩ d v)) := rfl
theorem app_val (v : EV) : St.app ⟨e, L, H⟩ d ⟨some v, none, H⟩ = St.put ⟨e, L, H⟩ d v := by cases d <;> rfl

theorem op_move (x : Operand) : opX P cfg ⟨d, .move x, ty, pos, aft, gd⟩ K ⟨e, L, H⟩ = K (St.put ⟨e, L, H⟩ d (St.ev ⟨e, L, H⟩ x)) := by
  simp [opX, opE, pureV, app_val]
theorem op_assign (x : Operand) : opX P cfg ⟨d, .assign x, ty, pos, aft, gd⟩ K ⟨e, L, H⟩ = K (St.put ⟨e, L, H⟩ d (St.ev ⟨e, L, H⟩ x)) := by
  simp [opX, opE, pureV, app_val]
theorem op_pick (c x y : Operand) : opX P cfg ⟨d, .pick c x y, ty, pos, aft, gd⟩ K ⟨e, L, H⟩ =
    pureK (((St.ev ⟨e, L, H⟩ c).asB).map fun b0 => (True, if b0 then St.ev ⟨e, L, H⟩ x else St.ev ⟨e, L, H⟩ y)) ⟨e, L, H⟩ d K := by
  simp only [opX, opE, pureV, pureK, app_val]; rfl
theorem op_bin (op : BinOp) (t t' : TypeId) (x y : Operand) : opX P cfg ⟨d, .binOp op t x y t', ty, pos, aft, gd⟩ K ⟨e, L, H⟩ =
    pureK (match binV P op t (St.ev ⟨e, L, H⟩ x) (St.ev ⟨e, L, H⟩ y) with
      | some (c, v) => some (c, .val v)
      | none => (ptrV P H op t (St.ev ⟨e, L, H⟩ x) (St.ev ⟨e, L, H⟩ y)).map fun v => (True, .val v)) ⟨e, L, H⟩ d K := by
  simp only [opX, opE, pureV, pureK, app_val]; rfl
theorem op_un (op : UnOp) (t : TypeId) (x : Operand) : opX P cfg ⟨d, .unOp op t x, ty, pos, aft, gd⟩ K ⟨e, L, H⟩ =
    pureK ((unV op (St.ev ⟨e, L, H⟩ x)).map fun (c, v) => (c, .val v)) ⟨e, L, H⟩ d K := by
  simp only [opX, opE, pureV, pureK, app_val]; rfl
/-- any other that turns nothing -/
def isPure : Op → Bool
  | .load .. | .nilCheck _ | .convert .. | .fieldAddr .. | .field .. | .indexAddr .. | .extract .. | .build .. | .makeFunc .. | .slice .. | .index .. => true
  | .call { callee := .builtin .len, .. } | .call { callee := .builtin .min, .. } | .call { callee := .builtin .max, .. } => true
  | _ => false
theorem op_pure (o : Op) (h : isPure o = true) : opX P cfg ⟨d, o, ty, pos, aft, gd⟩ K ⟨e, L, H⟩ = pureK (pureV P (St.ev ⟨e, L, H⟩) (lk L) H o) ⟨e, L, H⟩ d K := by
  simp only [opX, opE]
  split <;> first | (simp [isPure] at h; done) | (simp only [pureK, app_val]; rfl)

theorem op_effect (o : Op) (h : isPure o = false) : opX P cfg ⟨d, o, ty, pos, aft, gd⟩ K ⟨e, L, H⟩ =
    opE P cfg (St.ev ⟨e, L, H⟩) (fun d => noLoc d e = true ∨ NoLoc (St.ev ⟨e, L, H⟩) d) (lk L) H ⟨d, o, ty, pos, aft, gd⟩ fun f => K (St.app ⟨e, L, H⟩ d f) := rfl
theorem app_some (dd : Nat) (v : EV) (H' : List (List AV)) : St.app ⟨e, L, H⟩ (some dd) ⟨some v, none, H'⟩ = ⟨(dd, v) :: e, L, H'⟩ := rfl
theorem app_none (v : Option EV) (H' : List (List AV)) : St.app ⟨e, L, H⟩ none ⟨v, none, H'⟩ = ⟨e, L, H'⟩ := rfl
theorem app_noneL (v : Option EV) (x : Nat × List AV) (H' : List (List AV)) : St.app ⟨e, L, H⟩ none ⟨v, some x, H'⟩ = ⟨e, x :: L, H'⟩ := rfl
theorem app_someL (dd : Nat) (v : EV) (x : Nat × List AV) (H' : List (List AV)) : St.app ⟨e, L, H⟩ (some dd) ⟨some v, some x, H'⟩ = ⟨(dd, v) :: e, x :: L, H'⟩ := rfl
end
end Go.Sx

set_option linter.unusedVariables false
namespace Go.Sx

/-! ### what is known of types, found by instance -/
class TyI (P : Program) (t : TypeId) (sz : outParam Nat) (agg : outParam Bool) : Prop where
  sz : tsz P t = some sz
  kind : tkind P t = some agg
class FldI (P : Program) (t : TypeId) (i : Nat) (off : outParam Nat) (ft : outParam TypeId) : Prop where
  h : fieldOff P t i = some (off, ft)
  pos : (tsz P ft).any (0 < ·) = true
class SlI (P : Program) (t : TypeId) (el : outParam TypeId) (z : outParam Nat) : Prop where
  h : telem P t = some el
  z : tsz P el = some z
class ZI (P : Program) (t : TypeId) (cs : outParam (List AV)) : Prop where
  h : (tzero P t).bind AV.cells = some cs
class PtI (P : Program) (t : TypeId) : Prop where
  h : ptrTy P t = true
class EI (P : Program) (t : TypeId) (s by_ : outParam Nat) (zc : outParam (List AV)) : Prop where
  h : einfo P t = some (s, by_, zc)

section
variable {P : Program} {cfg : Cfg} {dr : Array Oper → (St → Prop) → St → Prop} {e : List (Nat × EV)} {L : List (Nat × List AV)} {H : List (List AV)} {Q : XE → St → Prop} {K : St → Prop}
variable {kn : Option (Nat × Bool)} {ops : Array Oper} {d : Option Tmp} {o : Op} {ty : TypeId} {pos : String} {aft : Array Edge} {rest : List Oper} {j : Nat} {b want : Bool} {gd : Option (Nat × Bool)} {dd : Nat}

/-! the steps, backwards -/
theorem b_seq {x y : Code} (h : Ex P cfg dr x (thenX P cfg dr y Q) ⟨e, L, H⟩) : Ex P cfg dr (.seq x y) Q ⟨e, L, H⟩ := h
theorem b_block {id : Nat} {c : Code} (h : Ex P cfg dr c (blkX id Q) ⟨e, L, H⟩) : Ex P cfg dr (.block id c) Q ⟨e, L, H⟩ := h
theorem b_skip (h : Q .normal ⟨e, L, H⟩) : Ex P cfg dr .skip Q ⟨e, L, H⟩ := h
theorem b_ret (h : Q .ret ⟨e, L, H⟩) : Ex P cfg dr .ret Q ⟨e, L, H⟩ := h
theorem b_exit {i : Nat} (h : Q (.exit i) ⟨e, L, H⟩) : Ex P cfg dr (.exit i) Q ⟨e, L, H⟩ := h
theorem b_region {id : Nat} {ops : List Oper} (h : exOps P cfg ops.toArray none ops (Q .normal) ⟨e, L, H⟩) : Ex P cfg dr (.region id ops.toArray false) Q ⟨e, L, H⟩ := h
theorem b_thn {y : Code} (h : Ex P cfg dr y Q ⟨e, L, H⟩) : thenX P cfg dr y Q .normal ⟨e, L, H⟩ := h
theorem b_thr {y : Code} (h : Q .ret ⟨e, L, H⟩) : thenX P cfg dr y Q .ret ⟨e, L, H⟩ := h
theorem b_the {y : Code} {i : Nat} (h : Q (.exit i) ⟨e, L, H⟩) : thenX P cfg dr y Q (.exit i) ⟨e, L, H⟩ := h
theorem b_bln {i : Nat} (h : Q .normal ⟨e, L, H⟩) : blkX i Q .normal ⟨e, L, H⟩ := h
theorem b_blr {i : Nat} (h : Q .ret ⟨e, L, H⟩) : blkX i Q .ret ⟨e, L, H⟩ := h
theorem b_ble {i : Nat} (h : Q .normal ⟨e, L, H⟩) : blkX i Q (.exit i) ⟨e, L, H⟩ := by simp [blkX]; exact h
theorem b_blo {i k : Nat} (hik : (k == i) = false) (h : Q (.exit k) ⟨e, L, H⟩) : blkX i Q (.exit k) ⟨e, L, H⟩ := by
  have : k ≠ i := by simpa using hik
  simp [blkX, this]; exact h
/-- a test, its value found -/
def condK (P : Program) (cfg : Cfg) (dr : Array Oper → (St → Prop) → St → Prop) (x y : Code) (Q : XE → St → Prop) (st : St) (v : EV) : Prop :=
  match v.asB with
  | some b => (b = true → Ex P cfg dr x Q st) ∧ (b = false → Ex P cfg dr y Q st)
  | none => False
theorem b_cond {c : Operand} {x y : Code} {v : EV} (hv : St.ev ⟨e, L, H⟩ c = v) (h : condK P cfg dr x y Q ⟨e, L, H⟩ v) : Ex P cfg dr (.cond c x y) Q ⟨e, L, H⟩ := by subst hv; exact h
theorem c_T {x y : Code} (h : Ex P cfg dr x Q ⟨e, L, H⟩) : condK P cfg dr x y Q ⟨e, L, H⟩ (.val (.bool true)) := ⟨fun _ => h, (fun h => Bool.noConfusion h)⟩
theorem c_F {x y : Code} (h : Ex P cfg dr y Q ⟨e, L, H⟩) : condK P cfg dr x y Q ⟨e, L, H⟩ (.val (.bool false)) := ⟨(fun h => Bool.noConfusion h), fun _ => h⟩
theorem c_P {x y : Code} {p : Prop} [Decidable p] (h1 : p → Ex P cfg dr x Q ⟨e, L, H⟩) (h2 : ¬ p → Ex P cfg dr y Q ⟨e, L, H⟩) : condK P cfg dr x y Q ⟨e, L, H⟩ (.val (.bool (decide p))) :=
  ⟨fun h => h1 (of_decide_eq_true h), fun h => h2 (of_decide_eq_false h)⟩
theorem c_B {x y : Code} {b : Bool} (h1 : b = true → Ex P cfg dr x Q ⟨e, L, H⟩) (h2 : b = false → Ex P cfg dr y Q ⟨e, L, H⟩) : condK P cfg dr x y Q ⟨e, L, H⟩ (.val (.bool b)) := ⟨h1, h2⟩
theorem b_nil (h : K ⟨e, L, H⟩) : exOps P cfg ops kn [] K ⟨e, L, H⟩ := h
theorem b_c0 (h : opX P cfg ⟨d, o, ty, pos, aft, none⟩ (exOps P cfg ops none rest K) ⟨e, L, H⟩) : exOps P cfg ops none (⟨d, o, ty, pos, aft, none⟩ :: rest) K ⟨e, L, H⟩ := h
theorem b_c1 (hj : (((ops[j]?).bind (·.dst)) == d) = false) (h : opX P cfg ⟨d, o, ty, pos, aft, none⟩ (exOps P cfg ops (some (j, b)) rest K) ⟨e, L, H⟩) :
    exOps P cfg ops (some (j, b)) (⟨d, o, ty, pos, aft, none⟩ :: rest) K ⟨e, L, H⟩ := by
  rw [ops_cons1, hj]; exact h
theorem upd_same {t : Nat} {v : EV} : ∀ {e : List (Nat × EV)}, lk e t = some v → upd t v e = e
  | [], h => by simp [lk] at h
  | (k, x) :: r, h => by
    simp only [lk] at h
    simp only [upd]
    split
    · rename_i hk; simp only [hk, if_true, Option.some.injEq] at h; rw [h]
    · rename_i hk; simp only [hk, if_false] at h; rw [upd_same h]
theorem ev_lk {t : Nat} {b : Bool} (h : St.ev ⟨e, L, H⟩ (.tmp t) = .val (.bool b)) : lk e t = some (.val (.bool b)) := by
  simp only [St.ev] at h
  cases hl : lk e t with
  | none => simp [hl] at h
  | some x => simp [hl] at h; rw [h]
/-- a guard, its slot found -/
def guardK (P : Program) (cfg : Cfg) (ops : Array Oper) (o : Oper) (j : Nat) (want : Bool) (t : Nat) (rest : List Oper) (K : St → Prop) (st : St) (v : EV) : Prop :=
  St.ev st (.tmp t) = v →
  match v.asB with
  | none => False
  | some b =>
    (b = want → opX P cfg o (exOps P cfg ops (some (j, want)) rest K) ⟨upd t (.val (.bool want)) st.env, st.L, st.H⟩) ∧
    (b = !want → exOps P cfg ops (some (j, !want)) rest K (St.put ⟨upd t (.val (.bool (!want))) st.env, st.L, st.H⟩ o.dst (.val (.tup []))))
theorem b_gT {t : Nat} (ht : (ops[j]?).bind (·.dst) = some t) (hd : (d == some t) = false) (h : opX P cfg ⟨d, o, ty, pos, aft, some (j, want)⟩ (exOps P cfg ops (some (j, want)) rest K) ⟨e, L, H⟩) :
    exOps P cfg ops (some (j, want)) (⟨d, o, ty, pos, aft, some (j, want)⟩ :: rest) K ⟨e, L, H⟩ := by
  have hd' : d ≠ some t := by simpa using hd
  rw [ops_guard, ht, skip_some]
  simp only [hd', if_false, if_true]; exact h
theorem b_gF {t : Nat} (ht : (ops[j]?).bind (·.dst) = some t) (hd : (dd == t) = false) (hb : b = !want) (h : exOps P cfg ops (some (j, b)) rest K ⟨(dd, .val (.tup [])) :: e, L, H⟩) :
    exOps P cfg ops (some (j, b)) (⟨some dd, o, ty, pos, aft, some (j, want)⟩ :: rest) K ⟨e, L, H⟩ := by
  have hd' : dd ≠ t := by simpa using hd
  subst hb
  rw [ops_guard, ht, skip_some]
  have h2 : ¬ (!want) = want := by cases want <;> simp
  simp only [Option.some.injEq, Prod.mk.injEq, hd', h2, and_false, if_false, if_true]; exact h
theorem guardK_X {t : Nat} {kn' : Option (Nat × Bool)} (h : guardK P cfg ops ⟨d, o, ty, pos, aft, gd⟩ j want t rest K ⟨e, L, H⟩ (St.ev ⟨e, L, H⟩ (.tmp t))) : guardX P cfg ops ⟨d, o, ty, pos, aft, gd⟩ j want t kn' rest K ⟨e, L, H⟩ ((St.ev ⟨e, L, H⟩ (.tmp t)).asB) := by
  have h' := h rfl
  unfold guardX
  cases hb : (St.ev ⟨e, L, H⟩ (.tmp t)).asB with
  | none => rw [hb] at h'; exact h'.elim
  | some b => rw [hb] at h'; exact h'
theorem b_g0 {t : Nat} {v : EV} (ht : (ops[j]?).bind (·.dst) = some t) (hd : (d == some t) = false) (hv : St.ev ⟨e, L, H⟩ (.tmp t) = v)
    (h : guardK P cfg ops ⟨d, o, ty, pos, aft, some (j, want)⟩ j want t rest K ⟨e, L, H⟩ v) :
    exOps P cfg ops none (⟨d, o, ty, pos, aft, some (j, want)⟩ :: rest) K ⟨e, L, H⟩ := by
  have hd' : d ≠ some t := by simpa using hd
  subst hv
  rw [ops_guard, ht, skip_some]
  simp only [hd', if_false, reduceCtorEq]
  exact guardK_X h
theorem b_g1 {t j' : Nat} {b' : Bool} {v : EV} (ht : (ops[j]?).bind (·.dst) = some t) (hd : (d == some t) = false) (hj : (j' == j) = false) (hv : St.ev ⟨e, L, H⟩ (.tmp t) = v)
    (h : guardK P cfg ops ⟨d, o, ty, pos, aft, some (j, want)⟩ j want t rest K ⟨e, L, H⟩ v) :
    exOps P cfg ops (some (j', b')) (⟨d, o, ty, pos, aft, some (j, want)⟩ :: rest) K ⟨e, L, H⟩ := by
  have hd' : d ≠ some t := by simpa using hd
  have hj' : j' ≠ j := by simpa using hj
  subst hv
  rw [ops_guard, ht, skip_some]
  simp only [hd', if_false, Option.some.injEq, Prod.mk.injEq, hj', false_and]
  exact guardK_X h
/-- the guard's own operation was passed over -/
theorem b_gU {t : Nat} (ht : (ops[j]?).bind (·.dst) = some t) (hd : (dd == t) = false) (hk : kn ≠ some (j, want) ∧ kn ≠ some (j, !want)) (hv : St.ev ⟨e, L, H⟩ (.tmp t) = .val (.tup [])) (hn : kn.any (fun p => ((ops[p.1]?).bind (·.dst)) == some dd) = false)
    (h : exOps P cfg ops kn rest K ⟨(dd, .val (.tup [])) :: e, L, H⟩) : exOps P cfg ops kn (⟨some dd, o, ty, pos, aft, some (j, want)⟩ :: rest) K ⟨e, L, H⟩ := by
  have hd' : dd ≠ t := by simpa using hd
  rw [ops_guard, ht, skip_some]
  simp only [Option.some.injEq, hd', if_false, hk.1, hk.2, hv, EV.asB, guardX, EV.isU, if_true, hn, Bool.false_eq_true]
  exact h
theorem g_TT {t : Nat} (h : opX P cfg ⟨d, o, ty, pos, aft, gd⟩ (exOps P cfg ops (some (j, true)) rest K) ⟨e, L, H⟩) : guardK P cfg ops ⟨d, o, ty, pos, aft, gd⟩ j true t rest K ⟨e, L, H⟩ (.val (.bool true)) :=
  fun hv => ⟨fun _ => by rw [upd_same (ev_lk hv)]; exact h, (fun h => Bool.noConfusion h)⟩
theorem g_FF {t : Nat} (h : opX P cfg ⟨d, o, ty, pos, aft, gd⟩ (exOps P cfg ops (some (j, false)) rest K) ⟨e, L, H⟩) : guardK P cfg ops ⟨d, o, ty, pos, aft, gd⟩ j false t rest K ⟨e, L, H⟩ (.val (.bool false)) :=
  fun hv => ⟨fun _ => by rw [upd_same (ev_lk hv)]; exact h, (fun h => Bool.noConfusion h)⟩
theorem g_TF {t : Nat} (h : exOps P cfg ops (some (j, true)) rest K ⟨(dd, .val (.tup [])) :: e, L, H⟩) : guardK P cfg ops ⟨some dd, o, ty, pos, aft, gd⟩ j false t rest K ⟨e, L, H⟩ (.val (.bool true)) :=
  fun hv => ⟨(fun h => Bool.noConfusion h), fun _ => by simp only [Bool.not_false]; rw [upd_same (ev_lk hv)]; exact h⟩
theorem g_FT {t : Nat} (h : exOps P cfg ops (some (j, false)) rest K ⟨(dd, .val (.tup [])) :: e, L, H⟩) : guardK P cfg ops ⟨some dd, o, ty, pos, aft, gd⟩ j true t rest K ⟨e, L, H⟩ (.val (.bool false)) :=
  fun hv => ⟨(fun h => Bool.noConfusion h), fun _ => by simp only [Bool.not_true]; rw [upd_same (ev_lk hv)]; exact h⟩
theorem g_PT {t : Nat} {p : Prop} [Decidable p] (h1 : p → opX P cfg ⟨some dd, o, ty, pos, aft, gd⟩ (exOps P cfg ops (some (j, true)) rest K) ⟨upd t (.val (.bool true)) e, L, H⟩)
    (h2 : ¬ p → exOps P cfg ops (some (j, false)) rest K ⟨(dd, .val (.tup [])) :: upd t (.val (.bool false)) e, L, H⟩) :
    guardK P cfg ops ⟨some dd, o, ty, pos, aft, gd⟩ j true t rest K ⟨e, L, H⟩ (.val (.bool (decide p))) :=
  fun _ => ⟨fun h => h1 (of_decide_eq_true h), fun h => h2 (of_decide_eq_false h)⟩
theorem g_PF {t : Nat} {p : Prop} [Decidable p] (h1 : ¬ p → opX P cfg ⟨some dd, o, ty, pos, aft, gd⟩ (exOps P cfg ops (some (j, false)) rest K) ⟨upd t (.val (.bool false)) e, L, H⟩)
    (h2 : p → exOps P cfg ops (some (j, true)) rest K ⟨(dd, .val (.tup [])) :: upd t (.val (.bool true)) e, L, H⟩) :
    guardK P cfg ops ⟨some dd, o, ty, pos, aft, gd⟩ j false t rest K ⟨e, L, H⟩ (.val (.bool (decide p))) :=
  fun _ => ⟨fun h => h1 (of_decide_eq_false h), fun h => h2 (of_decide_eq_true h)⟩
theorem g_BT {t : Nat} {b : Bool} (h1 : b = true → opX P cfg ⟨some dd, o, ty, pos, aft, gd⟩ (exOps P cfg ops (some (j, true)) rest K) ⟨upd t (.val (.bool true)) e, L, H⟩)
    (h2 : b = false → exOps P cfg ops (some (j, false)) rest K ⟨(dd, .val (.tup [])) :: upd t (.val (.bool false)) e, L, H⟩) :
    guardK P cfg ops ⟨some dd, o, ty, pos, aft, gd⟩ j true t rest K ⟨e, L, H⟩ (.val (.bool b)) := fun _ => ⟨h1, h2⟩
theorem g_BF {t : Nat} {b : Bool} (h1 : b = false → opX P cfg ⟨some dd, o, ty, pos, aft, gd⟩ (exOps P cfg ops (some (j, false)) rest K) ⟨upd t (.val (.bool false)) e, L, H⟩)
    (h2 : b = true → exOps P cfg ops (some (j, true)) rest K ⟨(dd, .val (.tup [])) :: upd t (.val (.bool true)) e, L, H⟩) :
    guardK P cfg ops ⟨some dd, o, ty, pos, aft, gd⟩ j false t rest K ⟨e, L, H⟩ (.val (.bool b)) := fun _ => ⟨h1, h2⟩

/-! operations -/
theorem b_move {x : Operand} {v : EV} (hv : St.ev ⟨e, L, H⟩ x = v) (h : K ⟨(dd, v) :: e, L, H⟩) : opX P cfg ⟨some dd, .move x, ty, pos, aft, gd⟩ K ⟨e, L, H⟩ := by
  subst hv; rw [op_move]; exact h
theorem b_assign {x : Operand} {v : EV} (hv : St.ev ⟨e, L, H⟩ x = v) (h : K ⟨(dd, v) :: e, L, H⟩) : opX P cfg ⟨some dd, .assign x, ty, pos, aft, gd⟩ K ⟨e, L, H⟩ := by
  subst hv; rw [op_assign]; exact h
/-- a value, found; what it asks is asked -/
def valK (dd : Nat) (K : St → Prop) (st : St) (r : Option (Prop × AV)) : Prop :=
  match r with
  | some (c, v) => c ∧ K ⟨(dd, .val v) :: st.env, st.L, st.H⟩
  | none => False
theorem b_bin {op : BinOp} {t t' : TypeId} {x y : Operand} {vx vy : EV} (hx : St.ev ⟨e, L, H⟩ x = vx) (hy : St.ev ⟨e, L, H⟩ y = vy) {r : Option (Prop × AV)} (hr : binV P op t vx vy = r) (h : valK dd K ⟨e, L, H⟩ r) :
    opX P cfg ⟨some dd, .binOp op t x y t', ty, pos, aft, gd⟩ K ⟨e, L, H⟩ := by
  subst hr hx hy; rw [op_bin]
  cases hb : binV P op t (St.ev ⟨e, L, H⟩ x) (St.ev ⟨e, L, H⟩ y) with
  | none => rw [hb] at h; exact h.elim
  | some p => obtain ⟨c, v⟩ := p; rw [hb] at h; exact h
/-- two pointers, are they one? -/
theorem b_ptr {t t' : TypeId} [pt : PtI P t] {x y : Operand} {s s' : AV} {a a' : Nat} (hx : St.ev ⟨e, L, H⟩ x = .val (.eptr s a)) (hy : St.ev ⟨e, L, H⟩ y = .val (.eptr s' a')) {r : Bool} (hr : ptrEq H s a s' a' = some r) (h : K ⟨(dd, .val (.bool r)) :: e, L, H⟩) :
    opX P cfg ⟨some dd, .binOp .eql t x y t', ty, pos, aft, gd⟩ K ⟨e, L, H⟩ := by
  rw [op_bin, hx, hy]
  have : binV P .eql t (.val (.eptr s a)) (.val (.eptr s' a')) = none := by simp [binV, AV.asF, othV, nilEq]
  rw [this]
  simp only [ptrV, pt.h, if_true, hr, Option.map_some, pureK]
  exact ⟨trivial, h⟩
theorem b_un {op : UnOp} {t : TypeId} {x : Operand} {vx : EV} (hx : St.ev ⟨e, L, H⟩ x = vx) {r : Option (Prop × AV)} (hr : unV op vx = r) (h : valK dd K ⟨e, L, H⟩ r) :
    opX P cfg ⟨some dd, .unOp op t x, ty, pos, aft, gd⟩ K ⟨e, L, H⟩ := by
  subst hr hx; rw [op_un]
  cases hb : unV op (St.ev ⟨e, L, H⟩ x) with
  | none => rw [hb] at h; exact h
  | some p => obtain ⟨c, v⟩ := p; rw [hb] at h; exact h
/-! what a value comes to, where arithmetic knows it; a sum that does not wrap -/
theorem v_w {n : Int} (hw : -9223372036854775808 ≤ n ∧ n ≤ 9223372036854775807) (h : K ⟨(dd, .val (.int .i64 n)) :: e, L, H⟩) : valK dd K ⟨e, L, H⟩ (some (True, .int .i64 (IntKind.i64.wrap n))) := by
  rw [IntWalk.i64_in n hw]; exact ⟨trivial, h⟩
theorem v_T {p : Prop} [Decidable p] (hp : p) (h : K ⟨(dd, .val (.bool true)) :: e, L, H⟩) : valK dd K ⟨e, L, H⟩ (some (True, .bool (decide p))) := by
  rw [decide_eq_true hp]; exact ⟨trivial, h⟩
theorem v_F {p : Prop} [Decidable p] (hp : ¬ p) (h : K ⟨(dd, .val (.bool false)) :: e, L, H⟩) : valK dd K ⟨e, L, H⟩ (some (True, .bool (decide p))) := by
  rw [decide_eq_false hp]; exact ⟨trivial, h⟩
theorem v_eq {x y : Int} (h : valK dd K ⟨e, L, H⟩ (some (True, .bool (decide (x = y))))) : valK dd K ⟨e, L, H⟩ (some (True, .bool (x == y))) := h
theorem v_ne {x y : Int} (h : valK dd K ⟨e, L, H⟩ (some (True, .bool (decide (x ≠ y))))) : valK dd K ⟨e, L, H⟩ (some (True, .bool (x != y))) := by
  have : (x != y) = decide (x ≠ y) := by simp only [bne, ne_eq, decide_not]; rfl
  rw [this]; exact h
theorem v_nT (h : K ⟨(dd, .val (.bool false)) :: e, L, H⟩) : valK dd K ⟨e, L, H⟩ (some (True, .bool (!true))) := ⟨trivial, h⟩
theorem v_nF (h : K ⟨(dd, .val (.bool true)) :: e, L, H⟩) : valK dd K ⟨e, L, H⟩ (some (True, .bool (!false))) := ⟨trivial, h⟩
theorem v_nP {p : Prop} [Decidable p] (h : K ⟨(dd, .val (.bool (decide (¬ p)))) :: e, L, H⟩) : valK dd K ⟨e, L, H⟩ (some (True, .bool (!(decide p)))) := by
  rw [← decide_not]; exact ⟨trivial, h⟩
theorem v_k {v : AV} (h : K ⟨(dd, .val v) :: e, L, H⟩) : valK dd K ⟨e, L, H⟩ (some (True, v)) := ⟨trivial, h⟩
theorem v_c {c : Prop} {v : AV} (hc : c) (h : valK dd K ⟨e, L, H⟩ (some (True, v))) : valK dd K ⟨e, L, H⟩ (some (c, v)) := ⟨hc, h.2⟩

def pickK (dd : Nat) (K : St → Prop) (y z : Operand) (st : St) (v : EV) : Prop :=
  match v.asB with
  | some b => K ⟨(dd, if b then St.ev st y else St.ev st z) :: st.env, st.L, st.H⟩
  | none => False
theorem b_pick {x y z : Operand} {v : EV} (hv : St.ev ⟨e, L, H⟩ x = v) (h : pickK dd K y z ⟨e, L, H⟩ v) : opX P cfg ⟨some dd, .pick x y z, ty, pos, aft, gd⟩ K ⟨e, L, H⟩ := by
  subst hv
  rw [op_pick]
  unfold pickK at h
  cases hb : (St.ev ⟨e, L, H⟩ x).asB with
  | none => rw [hb] at h; exact h
  | some b => rw [hb] at h; exact ⟨trivial, h⟩
theorem p_T {y z : Operand} {v : EV} (hv : St.ev ⟨e, L, H⟩ y = v) (h : K ⟨(dd, v) :: e, L, H⟩) : pickK dd K y z ⟨e, L, H⟩ (.val (.bool true)) := by subst hv; exact h
theorem p_F {y z : Operand} {v : EV} (hv : St.ev ⟨e, L, H⟩ z = v) (h : K ⟨(dd, v) :: e, L, H⟩) : pickK dd K y z ⟨e, L, H⟩ (.val (.bool false)) := by subst hv; exact h

/-- a load, its address found -/
def loadK (P : Program) (t : TypeId) (dd : Nat) (K : St → Prop) (st : St) (v : EV) : Prop :=
  match v with
  | .loc key off => ∃ cs n l v', lk st.L key = some cs ∧ tsz P t = some n ∧ gc cs off n = some l ∧ ldv P t l = some v' ∧ K ⟨(dd, .val v') :: st.env, st.L, st.H⟩
  | .val (.eptr s off) => ∃ n l v', tsz P t = some n ∧ sread st.H s off n = some l ∧ ldv P t l = some v' ∧ K ⟨(dd, .val v') :: st.env, st.L, st.H⟩
  | _ => False
theorem b_load {t : TypeId} {x : Operand} {v : EV} (hv : St.ev ⟨e, L, H⟩ x = v) (h : loadK P t dd K ⟨e, L, H⟩ v) : opX P cfg ⟨some dd, .load t x, ty, pos, aft, gd⟩ K ⟨e, L, H⟩ := by
  subst hv
  rw [op_pure P cfg e L H K _ _ _ _ _ _ rfl]
  simp only [pureV]
  unfold loadK at h
  split at h
  · rename_i key off he
    obtain ⟨cs, n, l, v', h1, h2, h3, h4, hk⟩ := h
    rw [he]; simp only at h1 ⊢
    rw [h1, h2]; simp only [Option.bind_some, h3, h4, Option.map_some]
    exact ⟨trivial, hk⟩
  · rename_i s off he
    obtain ⟨n, l, v', h2, h3, h4, hk⟩ := h
    rw [he]; simp only at h3 ⊢
    rw [h2]; simp only [Option.bind_some, h3, h4, Option.map_some]
    exact ⟨trivial, hk⟩
  · exact h.elim
theorem l_loc1 {t : TypeId} {key off : Nat} {cs : List AV} {c : AV} [i : TyI P t 1 false] (h1 : lk L key = some cs) (h2 : cs[off]? = some c) (hk : K ⟨(dd, .val c) :: e, L, H⟩) : loadK P t dd K ⟨e, L, H⟩ (.loc key off) :=
  ⟨cs, 1, [c], c, h1, i.sz, by simp [gc, h2], by simp [ldv, i.kind], hk⟩
theorem l_locA {t : TypeId} {key off n : Nat} {cs l : List AV} [i : TyI P t n true] (h1 : lk L key = some cs) (h2 : gc cs off n = some l) (hk : K ⟨(dd, .val (.agg l)) :: e, L, H⟩) : loadK P t dd K ⟨e, L, H⟩ (.loc key off) :=
  ⟨cs, n, l, .agg l, h1, i.sz, h2, by simp [ldv, i.kind], hk⟩
theorem l_ptr1 {t : TypeId} {s : AV} {off : Nat} {c : AV} [i : TyI P t 1 false] (h2 : sread H s off 1 = some [c]) (hk : K ⟨(dd, .val c) :: e, L, H⟩) : loadK P t dd K ⟨e, L, H⟩ (.val (.eptr s off)) :=
  ⟨1, [c], c, i.sz, h2, by simp [ldv, i.kind], hk⟩
theorem l_ptrA {t : TypeId} {s : AV} {off n : Nat} {l : List AV} [i : TyI P t n true] (h2 : sread H s off n = some l) (hk : K ⟨(dd, .val (.agg l)) :: e, L, H⟩) : loadK P t dd K ⟨e, L, H⟩ (.val (.eptr s off)) :=
  ⟨n, l, .agg l, i.sz, h2, by simp [ldv, i.kind], hk⟩

/-- an address within an address -/
def faK (dd : Nat) (K : St → Prop) (o : Nat) (st : St) (v : EV) : Prop :=
  match v with
  | .loc key off => K ⟨(dd, .loc key (off + o)) :: st.env, st.L, st.H⟩
  | .val (.eptr s off) => K ⟨(dd, .val (.eptr s (off + o))) :: st.env, st.L, st.H⟩
  | _ => False
theorem b_fa {t : TypeId} {x : Operand} {i off : Nat} {ft : TypeId} [fi : FldI P t i off ft] {v : EV} (hv : St.ev ⟨e, L, H⟩ x = v) (h : faK dd K off ⟨e, L, H⟩ v) : opX P cfg ⟨some dd, .fieldAddr t x i, ty, pos, aft, gd⟩ K ⟨e, L, H⟩ := by
  subst hv
  rw [op_pure P cfg e L H K _ _ _ _ _ _ rfl]
  simp only [pureV, fi.h, Option.bind_some, fi.pos, if_true]
  unfold faK at h
  split at h
  · rename_i key off he; rw [he]; exact ⟨trivial, h⟩
  · rename_i s off he; rw [he]; exact ⟨trivial, h⟩
  · exact h.elim
theorem f_loc {key off o m : Nat} (hm : off + o = m) (h : K ⟨(dd, .loc key m) :: e, L, H⟩) : faK dd K o ⟨e, L, H⟩ (.loc key off) := by subst hm; exact h
theorem f_ptr {s : AV} {off o m : Nat} (hm : off + o = m) (h : K ⟨(dd, .val (.eptr s m)) :: e, L, H⟩) : faK dd K o ⟨e, L, H⟩ (.val (.eptr s off)) := by subst hm; exact h

theorem b_ia {t el : TypeId} {x y : Operand} {z : Nat} [si : SlI P t el z] {s : AV} {k : IntKind} {n : Int} {len i : Nat} (hx : St.ev ⟨e, L, H⟩ x = .val s) (hy : St.ev ⟨e, L, H⟩ y = .val (.int k n)) (hl : slen s = some len) (hn : n = (i : Int)) (hi : i < len)
    (h : K ⟨(dd, .val (.eptr s (i * z))) :: e, L, H⟩) : opX P cfg ⟨some dd, .indexAddr t x y, ty, pos, aft, gd⟩ K ⟨e, L, H⟩ := by
  subst hn
  rw [op_pure P cfg e L H K _ _ _ _ _ _ rfl]
  simp only [pureV, si.h, hx, hy, tailI, hl, Option.bind_some, si.z, Option.map_some, Int.toNat_natCast]
  exact ⟨by omega, h⟩

theorem b_box {t : TypeId} {x : Operand} {vx : EV} (hx : St.ev ⟨e, L, H⟩ x = vx) {r : Option (List AV)} (hr : vx.asV.bind AV.cells = r) {cs : List AV} (hcs : r = some cs) (hesc : cfg.esc = false) (hn : noLoc dd e = true)
    (h : K ⟨(dd, .loc dd 0) :: e, (dd, cs) :: L, H⟩) : opX P cfg ⟨some dd, .box t x, ty, pos, aft, gd⟩ K ⟨e, L, H⟩ := by
  subst hcs hx; simp only [opX, opE, hr, newX, hesc, Bool.false_eq_true, if_false]; exact ⟨.inl hn, h⟩
theorem b_alloc {t : TypeId} {cs : List AV} [z : ZI P t cs] (hesc : cfg.esc = false) (hn : noLoc dd e = true)
    (h : K ⟨(dd, .loc dd 0) :: e, (dd, cs) :: L, H⟩) : opX P cfg ⟨some dd, .alloc t, ty, pos, aft, gd⟩ K ⟨e, L, H⟩ := by
  simp only [opX, opE, z.h, newX, hesc, Bool.false_eq_true, if_false]; exact ⟨.inl hn, h⟩
theorem b_len {x : Operand} {ts : Array TypeId} {t : TypeId} {el z : Nat} [si : SlI P t el z] (hts : ts[0]? = some t) {s : AV} {n : Nat} (hx : St.ev ⟨e, L, H⟩ x = .val s) (hs : slen s = some n) (h : K ⟨(dd, .val (.int .i64 n)) :: e, L, H⟩) :
    opX P cfg ⟨some dd, .call { callee := .builtin .len, args := #[x], argTypes := ts }, ty, pos, aft, gd⟩ K ⟨e, L, H⟩ := by
  rw [op_pure P cfg e L H K _ _ _ _ _ _ rfl]
  have hu := telem_eq si.h
  simp only [pureV, hts, Option.bind_some, hu, hx, EV.asV, hs, Option.map_some]
  exact ⟨trivial, h⟩
theorem b_call {id : Nat} {args : Array Operand} {ts : Array TypeId} {ra : Option (List AV)} (ha : argsX (St.ev ⟨e, L, H⟩) args.toList = ra) {vs : List AV} (hvs : ra = some vs) {r : AV} {H' : List (List AV)}
    (hs : CSpec P id vs H r H') (ho : OldOk cfg.n0 H H') (h : K ⟨(dd, .val r) :: e, L, H'⟩) :
    opX P cfg ⟨some dd, .call { callee := .value (.func id), args := args, argTypes := ts }, ty, pos, aft, gd⟩ K ⟨e, L, H⟩ := by
  subst hvs; simp only [opX, opE, ev_func, ha]; exact ⟨r, H', by simpa using hs, ho, h⟩

/-! the end -/
theorem b_ret1 {fn : Func} {H₀ H' : List (List AV)} {r v : AV} {t : Nat} {x : XE} (hx : x = .ret ∨ x = .normal) (hf : fn.results = #[.tmp t]) (hv : St.ev ⟨e, L, H⟩ (.tmp t) = .val v) (hH : H = H') (hH0 : H' = H₀) (hm : mx v ≤ H₀.length) (hr : v = r) :
    RetQ P fn H₀ r H' x ⟨e, L, H⟩ := by
  subst hH hH0 hr
  refine ⟨by rcases hx with rfl | rfl <;> trivial, [v], [], ?_, List.nodup_nil, by simp, by simp [frH], Fr.old hm⟩
  simp [hf, resV, hv, EV.asV]
end
end Go.Sx

set_option linter.unusedVariables false
set_option linter.unusedSimpArgs false
namespace Go.Sx

/-! ### an operation looks at its operands alone -/
theorem pureV_congr {P : Program} {ρ ρ' : Operand → EV} {lL : Nat → Option (List AV)} {H : List (List AV)} (op : Op) (h : ∀ x ∈ op.operands.toList, ρ x = ρ' x) : pureV P ρ lL H op = pureV P ρ' lL H op := by
  cases op
  case move x => simp only [Op.operands] at h; simp only [pureV, h x (by simp)]
  case assign x => simp only [Op.operands] at h; simp only [pureV, h x (by simp)]
  case pick c a b => simp only [Op.operands] at h; simp only [pureV, h c (by simp), h a (by simp), h b (by simp)]
  case load t x => simp only [Op.operands] at h; simp only [pureV, h x (by simp)]
  case nilCheck x => simp only [Op.operands] at h; simp only [pureV, h x (by simp)]
  case binOp op t x y t' => simp only [Op.operands] at h; simp only [pureV, h x (by simp), h y (by simp)]
  case unOp op t x => simp only [Op.operands] at h; simp only [pureV, h x (by simp)]
  case convert s t x => simp only [Op.operands] at h; simp only [pureV, h x (by simp)]
  case fieldAddr t x i => simp only [Op.operands] at h; simp only [pureV, h x (by simp)]
  case field t x i => simp only [Op.operands] at h; simp only [pureV, h x (by simp)]
  case indexAddr t x i => simp only [Op.operands] at h; simp only [pureV, h x (by simp), h i (by simp)]
  case slice t x lo hi mx =>
    simp only [Op.operands] at h
    have hx := h x (by simp)
    have hl : ∀ o, lo = some o → ρ o = ρ' o := fun o ho => h o (by simp [ho])
    have hh : ∀ o, hi = some o → ρ o = ρ' o := fun o ho => h o (by simp [ho])
    have h1 : ∀ d, bndI ρ d lo = bndI ρ' d lo := fun d => by cases lo with | none => rfl | some o => simp only [bndI, hl o rfl]
    have h2 : ∀ d, bndI ρ d hi = bndI ρ' d hi := fun d => by cases hi with | none => rfl | some o => simp only [bndI, hh o rfl]
    cases mx <;> simp only [pureV, hx, h1, h2]
  case index t x i => simp only [Op.operands] at h; simp only [pureV, h x (by simp), h i (by simp)]
  case extract x i => simp only [Op.operands] at h; simp only [pureV, h x (by simp)]
  case build t ps =>
    simp only [Op.operands] at h
    simp only [pureV, buildV]
    rw [List.map_congr_left (g := fun p : Nat × Operand => (p.1, (ρ' p.2).asV))]
    intro p hp
    simp only [h p.2 (by simp only [List.mem_map]; exact ⟨p, hp, rfl⟩)]
  case makeFunc f first caps =>
    cases f <;> simp only [pureV]
    simp only [Op.operands] at h
    rw [List.map_congr_left (l := first.toList) (g := fun x => (ρ' x).asV) (fun x hx => by rw [h x (by simp; exact .inl (by simpa using hx))]),
      List.map_congr_left (l := caps.toList) (g := fun x => (ρ' x).asV) (fun x hx => by rw [h x (by simp; exact .inr (by simpa using hx))])]
  case call c =>
    obtain ⟨callee, args, ts⟩ := c
    cases callee with
    | value f => simp only [pureV]
    | invoke r m => simp only [pureV]
    | builtin b =>
      have ha : ∀ x ∈ args.toList, ρ x = ρ' x := fun x hx => h x (by simp [Op.operands, Call.operands]; simpa using hx)
      cases b <;> simp only [pureV]
      case len =>
        split
        · rename_i he _; rw [ha _ (by rw [he]; simp)]
        · rename_i he _; rw [ha _ (by rw [he]; simp)]
        · rfl
      case min => rw [List.map_congr_left (g := fun x => (ρ' x).asI) (fun x hx => by rw [ha x hx])]
      case max => rw [List.map_congr_left (g := fun x => (ρ' x).asI) (fun x hx => by rw [ha x hx])]
  all_goals simp only [pureV]

theorem argsX_congr {ρ ρ' : Operand → EV} {xs : List Operand} (h : ∀ x ∈ xs, ρ x = ρ' x) : argsX ρ xs = argsX ρ' xs := by
  simp only [argsX]
  rw [List.map_congr_left (g := fun x => (ρ' x).asV) (fun x hx => by rw [h x hx])]

theorem newX_mono {cfg : Cfg} {NL NL' : Nat → Prop} {H : List (List AV)} {dst : Option Tmp} {cs : List AV} {K K' : Eff → Prop} (hN : ∀ d, dst = some d → NL d → NL' d) (hK : ∀ e, K e → K' e) (hx : newX cfg NL H dst cs K) : newX cfg NL' H dst cs K' := by
  unfold newX at *
  cases dst with
  | none => exact hx
  | some d =>
    dsimp only at hx ⊢
    split at hx
    · rename_i he; simp only [he, if_true]; exact hK _ hx
    · rename_i he; simp only [he, if_false]; exact ⟨hN d rfl hx.1, hK _ hx.2⟩
theorem storeX_mono {cfg : Cfg} {lL : Nat → Option (List AV)} {H : List (List AV)} {x : EV} {vs : List AV} {K K' : Eff → Prop} (hK : ∀ e, K e → K' e) (hx : storeX cfg lL H x vs K) : storeX cfg lL H x vs K' := by
  unfold storeX at *
  split at hx
  · split at hx
    · rename_i h; (try rw [h]); exact ⟨hx.1, hK _ hx.2⟩
    · exact hx.elim
  · split at hx
    · rename_i h; (try rw [h]); exact ⟨hx.1, hx.2.1, hx.2.2.1, hK _ hx.2.2.2⟩
    · exact hx.elim
  · exact hx.elim
theorem appX_mono {cfg : Cfg} {sz : Nat} {H : List (List AV)} {s : AV} {n : Nat} {xs : List AV} {K K' : Eff → Prop} (hK : ∀ e, K e → K' e) (hx : appX cfg sz H s n xs K) : appX cfg sz H s n xs K' := by
  unfold appX at *
  split at hx
  · exact ⟨hx.1, fun h => hK _ (hx.2.1 h), fun h => hK _ (hx.2.2 h)⟩
  · split at hx
    · rename_i h; (try rw [h]); obtain ⟨h1, h2, h3, h4, h5, h6, h7⟩ := hx; exact ⟨h1, h2, h3, h4, h5, h6, hK _ h7⟩
    · exact hx.elim
  · exact hx.elim
theorem cpyX_mono {cfg : Cfg} {sz : Nat} {H : List (List AV)} {s : AV} {n : Nat} {xs : List AV} {K K' : Eff → Prop} (hK : ∀ e, K e → K' e) (hx : cpyX cfg sz H s n xs K) : cpyX cfg sz H s n xs K' := by
  unfold cpyX at *
  split at hx
  · split at hx
    · rename_i h; (try rw [h]); obtain ⟨h1, h2, h3, h4, h7⟩ := hx; exact ⟨h1, h2, h3, h4, hK _ h7⟩
    · exact hx.elim
  · exact hx.elim

theorem opE_mono {P : Program} {cfg : Cfg} {ρ ρ' : Operand → EV} {NL NL' : Nat → Prop} {lL : Nat → Option (List AV)} {H : List (List AV)} {o : Oper} {K K' : Eff → Prop} (hr : ∀ x ∈ o.op.operands.toList, ρ x = ρ' x) (hN : ∀ d, o.dst = some d → NL d → NL' d)
    (hK : ∀ e, K e → K' e) (hx : opE P cfg ρ NL lL H o K) : opE P cfg ρ' NL' lL H o K' := by
  obtain ⟨dst, op, ty, pos, aft, gd⟩ := o
  dsimp only at hr hN
  have pure : ∀ op', op' = op → (match pureV P ρ lL H op with | some (c, v) => c ∧ K ⟨some v, none, H⟩ | none => False) → (match pureV P ρ' lL H op' with | some (c, v) => c ∧ K' ⟨some v, none, H⟩ | none => False) := by
    rintro op' rfl hh
    rw [← pureV_congr op' hr]
    split at hh
    · rename_i h; exact ⟨hh.1, hK _ hh.2⟩
    · exact hh.elim
  cases op
  case alloc t =>
    unfold opE at hx ⊢
    dsimp only at hx ⊢
    split at hx
    · rename_i h; (try rw [h]); exact newX_mono hN hK hx
    · exact hx.elim
  case box t x =>
    unfold opE at hx ⊢
    dsimp only at hx ⊢
    rw [hr x (by simp [Op.operands])] at hx
    split at hx
    · rename_i h; (try rw [h]); exact newX_mono hN hK hx
    · exact hx.elim
  case store t x v =>
    unfold opE at hx ⊢
    dsimp only at hx ⊢
    rw [hr x (by simp [Op.operands]), hr v (by simp [Op.operands])] at hx
    split at hx
    · rename_i h; (try rw [h]); exact ⟨hx.1, hx.2.1, storeX_mono hK hx.2.2⟩
    · exact hx.elim
  case buildSlice t n ps =>
    unfold opE at hx ⊢
    dsimp only at hx ⊢
    have hm : ps.toList.map (fun p : Nat × Operand => (p.1, (ρ p.2).asV)) = ps.toList.map (fun p => (p.1, (ρ' p.2).asV)) :=
      List.map_congr_left (fun p hp => by rw [hr p.2 (by simp [Op.operands]; exact ⟨p.1, by simpa using hp⟩)])
    rw [hm] at hx
    split at hx
    · rename_i h; (try rw [h])
      (try dsimp only)
      split at hx
      · rename_i h; (try rw [h])
        (try dsimp only)
        refine ⟨hx.1, hx.2.1, hx.2.2.1, ?_⟩
        have := hx.2.2.2
        split at this
        · rename_i h; simp only [h, if_true]; exact hK _ this
        · rename_i h; simp only [h, if_false]; exact hK _ this
      · exact hx.elim
    · exact hx.elim
  case makeSlice t l c =>
    unfold opE at hx ⊢
    dsimp only at hx ⊢
    rw [hr l (by simp [Op.operands]), hr c (by simp [Op.operands])] at hx
    split at hx
    · rename_i h1 h2 h3; (try rw [h1, h2, h3])
      obtain ⟨h1, h2, h3, h4, h5, h6, h7⟩ := hx
      exact ⟨h1, h2, h3, h4, h5, h6, hK _ h7⟩
    · exact hx.elim
  case call c =>
    obtain ⟨callee, args, ts⟩ := c
    cases callee with
    | value f =>
      unfold opE at hx ⊢
      dsimp only at hx ⊢
      rw [hr f (by simp [Op.operands, Call.operands]), argsX_congr (ρ := ρ) (ρ' := ρ') (fun x hx => hr x (by simp [Op.operands, Call.operands]; exact .inr (by simpa using hx)))] at hx
      split at hx
      · rename_i h1 h2; (try rw [h1, h2])
        obtain ⟨r, H', h1, h2, h3⟩ := hx
        exact ⟨r, H', h1, h2, hK _ h3⟩
      · exact hx.elim
    | invoke r m => exact pure _ rfl hx
    | builtin b =>
      have ha : args.toList.map (fun x => (ρ x).asV) = args.toList.map (fun x => (ρ' x).asV) :=
        List.map_congr_left (fun x hx => by rw [hr x (by simp [Op.operands, Call.operands]; simpa using hx)])
      cases b
      case append =>
        unfold opE at hx ⊢
        dsimp only at hx ⊢
        rw [ha] at hx
        split at hx
        · rename_i h1 h2; (try rw [h1, h2])
          (try dsimp only)
          split at hx
          · rename_i h3 h4; (try rw [h3, h4])
            (try dsimp only)
            split at hx
            · rename_i h5; (try rw [h5]); exact ⟨hx.1, hx.2.1, hx.2.2.1, hx.2.2.2.1, appX_mono hK hx.2.2.2.2⟩
            · exact hx.elim
          · exact hx.elim
        · exact hx.elim
      case copy =>
        unfold opE at hx ⊢
        dsimp only at hx ⊢
        rw [ha] at hx
        split at hx
        · rename_i h1 h2; (try rw [h1, h2])
          (try dsimp only)
          split at hx
          · rename_i h3 h4; (try rw [h3, h4])
            (try dsimp only)
            split at hx
            · rename_i h5; (try rw [h5]); exact ⟨hx.1, cpyX_mono hK hx.2⟩
            · exact hx.elim
          · exact hx.elim
        · exact hx.elim
      all_goals exact pure _ rfl hx
  all_goals exact pure _ rfl hx

/-! ### two states that say the same -/
structure Eqv (s t : St) : Prop where
  env : ∀ k, lk s.env k = lk t.env k
  L : ∀ k, lk s.L k = lk t.L k
  H : s.H = t.H
theorem Eqv.refl (s : St) : Eqv s s := ⟨fun _ => rfl, fun _ => rfl, rfl⟩
theorem Eqv.symm {s t : St} (h : Eqv s t) : Eqv t s := ⟨fun k => (h.env k).symm, fun k => (h.L k).symm, h.H.symm⟩
theorem Eqv.trans {s t u : St} (h : Eqv s t) (h' : Eqv t u) : Eqv s u := ⟨fun k => (h.env k).trans (h'.env k), fun k => (h.L k).trans (h'.L k), h.H.trans h'.H⟩
theorem Eqv.ev {s t : St} (h : Eqv s t) : s.ev = t.ev := by
  funext x
  cases x <;> simp only [St.ev]
  rw [h.env]
theorem SRepG.eqv {C : Cx} {s t : St} {a : Act} {w : World} {g : Gh} {lam : Nat → Nat} (h : SRepG C s a w g lam) (he : Eqv s t) : SRepG C t a w g lam := by
  obtain ⟨e', L', H'⟩ := t
  obtain ⟨h1, h2, h3⟩ := he
  dsimp only at h1 h2 h3; subst h3
  exact h.weakEnv (fun k e hk => by rw [h1]; exact hk) (fun k cs hk => by rw [h2]; exact hk)
theorem SRep.eqv {C : Cx} {s t : St} {a : Act} {w : World} (h : SRep C s a w) (he : Eqv s t) : SRep C t a w := by
  obtain ⟨g, lam, h⟩ := h; exact ⟨g, lam, h.eqv he⟩
end Go.Sx

set_option linter.unusedVariables false
set_option linter.unusedSimpArgs false
namespace Go.Sx

def noBox : Op → Bool
  | .alloc _ | .box .. => false
  | _ => true
/-- where a pointer to a box comes from -/
def LocOf (cfg : Cfg) (ρ : Operand → EV) (o : Oper) (k : Nat) : Prop :=
  (cfg.esc = false ∧ noBox o.op = false ∧ o.dst = some k) ∨ ∃ x ∈ o.op.operands.toList, ∃ off, ρ x = .loc k off

theorem pureV_lL {P : Program} {ρ : Operand → EV} {lL lL' : Nat → Option (List AV)} {H : List (List AV)} (op : Op) (h : ∀ x ∈ op.operands.toList, ∀ k off, ρ x = .loc k off → lL k = lL' k) : pureV P ρ lL H op = pureV P ρ lL' H op := by
  cases op
  case load t x =>
    simp only [pureV]
    cases hx : ρ x with
    | val v => cases v <;> rfl
    | loc k off =>
      have := h x (by simp [Op.operands]) k off hx
      simp only [this]
  case call c =>
    obtain ⟨callee, args, ts⟩ := c
    cases callee with
    | value f => rfl
    | invoke r m => rfl
    | builtin b => cases b <;> rfl
  case makeFunc f a b => cases f <;> rfl
  case slice t x lo hi m => cases m <;> rfl
  all_goals rfl
theorem binV_val {P : Program} : True := trivial
theorem pureV_loc {P : Program} {ρ : Operand → EV} {lL : Nat → Option (List AV)} {H : List (List AV)} {op : Op} {c : Prop} {k off : Nat} (h : pureV P ρ lL H op = some (c, .loc k off)) : ∃ x ∈ op.operands.toList, ∃ off', ρ x = .loc k off' := by
  cases op
  case move x => simp only [pureV, Option.some.injEq, Prod.mk.injEq] at h; exact ⟨x, by simp [Op.operands], off, h.2⟩
  case assign x => simp only [pureV, Option.some.injEq, Prod.mk.injEq] at h; exact ⟨x, by simp [Op.operands], off, h.2⟩
  case pick a x y =>
    simp only [pureV, Option.map_eq_some_iff, Prod.mk.injEq] at h
    obtain ⟨b, _, _, h⟩ := h
    cases b
    · exact ⟨y, by simp [Op.operands], off, by simpa using h⟩
    · exact ⟨x, by simp [Op.operands], off, by simpa using h⟩
  case nilCheck x =>
    simp only [pureV] at h
    split at h
    · rename_i key o he; simp only [Option.some.injEq, Prod.mk.injEq, EV.loc.injEq] at h; obtain ⟨_, rfl, rfl⟩ := h; exact ⟨x, by simp [Op.operands], _, he⟩
    · simp at h
    · simp at h
    · simp at h
  case fieldAddr t x i =>
    simp only [pureV, Option.bind_eq_some_iff] at h
    obtain ⟨p, _, h⟩ := h
    split at h
    · split at h
      · rename_i key o he; simp only [Option.some.injEq, Prod.mk.injEq, EV.loc.injEq] at h; obtain ⟨_, rfl, _⟩ := h; exact ⟨x, by simp [Op.operands], _, he⟩
      · simp at h
      · simp at h
    · simp at h
  case load t x =>
    simp only [pureV] at h
    split at h
    · simp only [Option.bind_eq_some_iff, Option.map_eq_some_iff, Prod.mk.injEq] at h; obtain ⟨_, _, _, _, _, _, _, _, _, h⟩ := h; cases h
    · simp only [Option.bind_eq_some_iff, Option.map_eq_some_iff, Prod.mk.injEq] at h; obtain ⟨_, _, _, _, _, _, _, h⟩ := h; cases h
    · cases h
  case binOp op t x y t' =>
    simp only [pureV] at h
    split at h
    · simp at h
    · simp at h
  case unOp op t x => simp [pureV] at h
  case convert s d x =>
    simp only [pureV] at h
    split at h <;> simp at h
  case field t x i =>
    simp only [pureV, Option.bind_eq_some_iff] at h
    obtain ⟨p, _, h⟩ := h
    split at h
    · simp only [Option.bind_eq_some_iff, Option.map_eq_some_iff, Prod.mk.injEq] at h; obtain ⟨_, _, _, _, _, _, _, h⟩ := h; cases h
    · cases h
  case indexAddr t x i =>
    simp only [pureV] at h
    split at h
    · simp only [Option.bind_eq_some_iff, Option.map_eq_some_iff, Prod.mk.injEq] at h; obtain ⟨_, _, _, _, _, h⟩ := h; cases h
    · simp only [Option.bind_eq_some_iff] at h
      obtain ⟨_, _, _, _, h⟩ := h
      split at h
      · rename_i k2 o2 he
        simp only [Option.some.injEq, Prod.mk.injEq, EV.loc.injEq] at h
        obtain ⟨_, rfl, _⟩ := h
        exact ⟨x, by simp [Op.operands], o2, he⟩
      · simp at h
      · cases h
    · cases h
  case extract x i =>
    simp only [pureV] at h
    split at h
    · simp at h
    · cases h
  case slice t x lo hi m =>
    cases m with
    | some m => simp [pureV] at h
    | none => simp [pureV] at h
  case index t x i => simp [pureV] at h
  case build t ps => simp [pureV] at h
  case makeFunc f a b =>
    cases f <;> simp only [pureV, reduceCtorEq] at h
    split at h
    · simp at h
    · cases h
  case call c =>
    obtain ⟨callee, args, ts⟩ := c
    cases callee with
    | value f => simp [pureV] at h
    | invoke r m => simp [pureV] at h
    | builtin b =>
      cases b <;> simp only [pureV, reduceCtorEq] at h
      all_goals (repeat' split at h) <;> first | (simp at h; done) | (simp only [Option.map_eq_some_iff, Prod.mk.injEq] at h; obtain ⟨_, _, _, h⟩ := h; cases h)
  all_goals simp [pureV] at h

theorem newX_go {cfg : Cfg} {NL NL' : Nat → Prop} {H : List (List AV)} {dst : Option Tmp} {cs : List AV} {K K' : Eff → Prop} (hN : ∀ d, cfg.esc = false → dst = some d → NL d → NL' d)
    (hK : ∀ e : Eff, (∀ k off, e.v = some (.loc k off) → cfg.esc = false ∧ dst = some k) → (∀ k cs, e.l = some (k, cs) → cfg.esc = false ∧ dst = some k) → K e → K' e) (h : newX cfg NL H dst cs K) : newX cfg NL' H dst cs K' := by
  unfold newX at h ⊢
  cases dst with
  | none => exact h
  | some d =>
    dsimp only at h ⊢
    split at h
    · rename_i he; rw [if_pos he]; exact hK _ (fun k off hh => by simp at hh) (fun k cs hh => by simp at hh) h
    · rename_i he
      rw [if_neg he]
      refine ⟨hN d (by simpa using he) rfl h.1, hK _ (fun k off hh => ?_) (fun k cs hh => ?_) h.2⟩
      · simp at hh; exact ⟨by simpa using he, by rw [hh.1]⟩
      · simp at hh; exact ⟨by simpa using he, by rw [hh.1]⟩
theorem storeX_go {cfg : Cfg} {lL lL' : Nat → Option (List AV)} {H : List (List AV)} {x : EV} {vs : List AV} {K K' : Eff → Prop} (hl : ∀ k off, x = .loc k off → lL k = lL' k)
    (hK : ∀ e : Eff, (∀ k off, e.v ≠ some (.loc k off)) → (∀ k cs, e.l = some (k, cs) → ∃ off, x = .loc k off) → K e → K' e) (h : storeX cfg lL H x vs K) : storeX cfg lL' H x vs K' := by
  unfold storeX at h ⊢
  split at h
  · rename_i key off
    rw [← hl key off rfl]
    split at h
    · refine ⟨h.1, hK _ (fun _ _ hh => by simp at hh) (fun k cs hh => ?_) h.2⟩
      simp at hh; exact ⟨off, by rw [hh.1]⟩
    · exact h
  · skip
    split at h
    · exact ⟨h.1, h.2.1, h.2.2.1, hK _ (fun _ _ hh => by simp at hh) (fun k cs hh => by simp at hh) h.2.2.2⟩
    · exact h
  · exact h.elim
theorem appX_go {cfg : Cfg} {sz : Nat} {H : List (List AV)} {s : AV} {n : Nat} {xs : List AV} {K K' : Eff → Prop} (hK : ∀ e : Eff, (∀ k off, e.v ≠ some (.loc k off)) → (∀ p, e.l ≠ some p) → K e → K' e) (h : appX cfg sz H s n xs K) : appX cfg sz H s n xs K' := by
  unfold appX at h ⊢
  split at h
  · exact ⟨h.1, fun h0 => hK _ (by simp) (by simp) (h.2.1 h0), fun h0 => hK _ (by simp) (by simp) (h.2.2 h0)⟩
  · skip
    split at h
    · exact ⟨h.1, h.2.1, h.2.2.1, h.2.2.2.1, h.2.2.2.2.1, h.2.2.2.2.2.1, hK _ (by simp) (by simp) h.2.2.2.2.2.2⟩
    · exact h
  · exact h.elim
theorem cpyX_go {cfg : Cfg} {sz : Nat} {H : List (List AV)} {s : AV} {n : Nat} {xs : List AV} {K K' : Eff → Prop} (hK : ∀ e : Eff, (∀ k off, e.v ≠ some (.loc k off)) → (∀ p, e.l ≠ some p) → K e → K' e) (h : cpyX cfg sz H s n xs K) : cpyX cfg sz H s n xs K' := by
  unfold cpyX at h ⊢
  split at h
  · skip
    split at h
    · exact ⟨h.1, h.2.1, h.2.2.1, h.2.2.2.1, hK _ (by simp) (by simp) h.2.2.2.2⟩
    · exact h
  · exact h.elim

/-- an operation in a state that says the same of what it looks at -/
theorem opE_go {P : Program} {cfg : Cfg} {ρ ρ' : Operand → EV} {NL NL' : Nat → Prop} {lL lL' : Nat → Option (List AV)} {H : List (List AV)} {o : Oper} {K K' : Eff → Prop} (hr : ∀ x ∈ o.op.operands.toList, ρ x = ρ' x) (hN : ∀ d, cfg.esc = false → o.dst = some d → noBox o.op = false → NL d → NL' d)
    (hl : ∀ x ∈ o.op.operands.toList, ∀ k off, ρ x = .loc k off → lL k = lL' k)
    (hK : ∀ e, (∀ k off, e.v = some (.loc k off) → LocOf cfg ρ o k) → (∀ k cs, e.l = some (k, cs) → LocOf cfg ρ o k) → K e → K' e) (hx : opE P cfg ρ NL lL H o K) : opE P cfg ρ' NL' lL' H o K' := by
  obtain ⟨dst, op, ty, pos, aft, gd⟩ := o
  dsimp only at hr hN hl
  have pure : ∀ op', op' = op → (match pureV P ρ lL H op with | some (c, v) => c ∧ K ⟨some v, none, H⟩ | none => False) → (match pureV P ρ' lL' H op' with | some (c, v) => c ∧ K' ⟨some v, none, H⟩ | none => False) := by
    rintro op' rfl hh
    rw [← pureV_congr op' hr, ← pureV_lL op' hl]
    split at hh
    · rename_i c v h
      refine ⟨hh.1, hK _ (fun k off he => ?_) (fun k cs he => by simp at he) hh.2⟩
      simp only [Option.some.injEq] at he
      subst he
      exact .inr (pureV_loc h)
    · exact hh.elim
  have quiet : ∀ {v : EV} {H' : List (List AV)}, (∀ k off, v ≠ .loc k off) → K ⟨some v, none, H'⟩ → K' ⟨some v, none, H'⟩ := fun h hk => hK _ (fun k off he => by simp only [Option.some.injEq] at he; exact (h k off he).elim) (fun k cs he => by simp at he) hk
  cases op
  case alloc t =>
    unfold opE at hx ⊢
    dsimp only at hx ⊢
    split at hx
    · rename_i h; (try rw [h]); exact newX_go (fun d he hd => hN d he hd rfl) (fun e h1 h2 => hK e (fun k off he => .inl ⟨(h1 k off he).1, rfl, (h1 k off he).2⟩) (fun k cs he => .inl ⟨(h2 k cs he).1, rfl, (h2 k cs he).2⟩)) hx
    · exact hx.elim
  case box t x =>
    unfold opE at hx ⊢
    dsimp only at hx ⊢
    rw [hr x (by simp [Op.operands])] at hx
    split at hx
    · rename_i h; (try rw [h]); exact newX_go (fun d he hd => hN d he hd rfl) (fun e h1 h2 => hK e (fun k off he => .inl ⟨(h1 k off he).1, rfl, (h1 k off he).2⟩) (fun k cs he => .inl ⟨(h2 k cs he).1, rfl, (h2 k cs he).2⟩)) hx
    · exact hx.elim
  case store t x v =>
    unfold opE at hx ⊢
    dsimp only at hx ⊢
    rw [hr v (by simp [Op.operands])] at hx
    split at hx
    · rename_i h
      (try rw [h])
      refine ⟨hx.1, hx.2.1, ?_⟩
      rw [← hr x (by simp [Op.operands])]
      exact storeX_go (fun k off he => hl x (by simp [Op.operands]) k off he) (fun e h1 h2 => hK e (fun k off he => (h1 k off he).elim) (fun k cs he => by obtain ⟨off, h3⟩ := h2 k cs he; exact .inr ⟨x, by simp [Op.operands], off, h3⟩)) hx.2.2
    · exact hx.elim
  case buildSlice t n ps =>
    unfold opE at hx ⊢
    dsimp only at hx ⊢
    have hm : ps.toList.map (fun p : Nat × Operand => (p.1, (ρ p.2).asV)) = ps.toList.map (fun p => (p.1, (ρ' p.2).asV)) :=
      List.map_congr_left (fun p hp => by rw [hr p.2 (by simp [Op.operands]; exact ⟨p.1, by simpa using hp⟩)])
    rw [hm] at hx
    split at hx
    · rename_i h; (try rw [h])
      (try dsimp only)
      split at hx
      · rename_i h; (try rw [h])
        (try dsimp only)
        refine ⟨hx.1, hx.2.1, hx.2.2.1, ?_⟩
        have := hx.2.2.2
        split at this
        · rename_i h; simp only [h, if_true]; exact quiet (by simp) this
        · rename_i h; simp only [h, if_false]; exact quiet (by simp) this
      · exact hx.elim
    · exact hx.elim
  case makeSlice t l c =>
    unfold opE at hx ⊢
    dsimp only at hx ⊢
    rw [hr l (by simp [Op.operands]), hr c (by simp [Op.operands])] at hx
    split at hx
    · rename_i h1 h2 h3; (try rw [h1, h2, h3])
      obtain ⟨h1, h2, h3, h4, h5, h6, h7⟩ := hx
      exact ⟨h1, h2, h3, h4, h5, h6, quiet (by simp) h7⟩
    · exact hx.elim
  case call c =>
    obtain ⟨callee, args, ts⟩ := c
    cases callee with
    | value f =>
      unfold opE at hx ⊢
      dsimp only at hx ⊢
      rw [hr f (by simp [Op.operands, Call.operands]), argsX_congr (ρ := ρ) (ρ' := ρ') (fun x hx => hr x (by simp [Op.operands, Call.operands]; exact .inr (by simpa using hx)))] at hx
      split at hx
      · rename_i h1 h2; (try rw [h1, h2])
        obtain ⟨r, H', h1, h2, h3⟩ := hx
        exact ⟨r, H', h1, h2, quiet (by simp) h3⟩
      · exact hx.elim
    | invoke r m => exact pure _ rfl hx
    | builtin b =>
      have ha : args.toList.map (fun x => (ρ x).asV) = args.toList.map (fun x => (ρ' x).asV) :=
        List.map_congr_left (fun x hx => by rw [hr x (by simp [Op.operands, Call.operands]; simpa using hx)])
      cases b
      case append =>
        unfold opE at hx ⊢
        dsimp only at hx ⊢
        rw [ha] at hx
        split at hx
        · rename_i h1 h2; (try rw [h1, h2])
          (try dsimp only)
          split at hx
          · rename_i h3 h4; (try rw [h3, h4])
            (try dsimp only)
            split at hx
            · rename_i h5; (try rw [h5]); exact ⟨hx.1, hx.2.1, hx.2.2.1, hx.2.2.2.1, appX_go (fun e h1 h2 => hK e (fun k off he => (h1 k off he).elim) (fun k cs he => (h2 _ he).elim)) hx.2.2.2.2⟩
            · exact hx.elim
          · exact hx.elim
        · exact hx.elim
      case copy =>
        unfold opE at hx ⊢
        dsimp only at hx ⊢
        rw [ha] at hx
        split at hx
        · rename_i h1 h2; (try rw [h1, h2])
          (try dsimp only)
          split at hx
          · rename_i h3 h4; (try rw [h3, h4])
            (try dsimp only)
            split at hx
            · rename_i h5; (try rw [h5]); exact ⟨hx.1, cpyX_go (fun e h1 h2 => hK e (fun k off he => (h1 k off he).elim) (fun k cs he => (h2 _ he).elim)) hx.2⟩
            · exact hx.elim
          · exact hx.elim
        · exact hx.elim
      all_goals exact pure _ rfl hx
  all_goals exact pure _ rfl hx
end Go.Sx
