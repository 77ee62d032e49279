/- A part of the proofs of this seat: SxG. No condition is set. -/
import Derived.Test.YtchhjighipjnnaaSxF
import Derived.LoopN
set_option linter.unusedVariables false
set_option linter.unusedSimpArgs false
namespace Go.Sx

/-- THE PREDICATE TRANSFORMER OF A BODY -/
def Ex (P : Program) (cfg : Cfg) (draw : Array Oper → (St → Prop) → St → Prop) : Code → (XE → St → Prop) → St → Prop
  | .skip, Q, st => Q .normal st
  | .region _ ops d, Q, st => if d then draw ops (Q .normal) st else exOps P cfg ops none ops.toList (Q .normal) st
  | .seq x y, Q, st => Ex P cfg draw x (fun e s => match e with | .normal => Ex P cfg draw y Q s | e => Q e s) st
  | .cond c x y, Q, st =>
    match (st.ev c).asB with
    | some b => (b = true → Ex P cfg draw x Q st) ∧ (b = false → Ex P cfg draw y Q st)
    | none => False
  | .block id c, Q, st => Ex P cfg draw c (fun e s => match e with | .exit i => if i = id then Q .normal s else Q (.exit i) s | e => Q e s) st
  | .loop c, Q, st => ∃ ks n, roundsX (Ex P cfg draw c) ks Q n (prune ks st)
  | .exit id, Q, st => Q (.exit id) st
  | .ret, Q, st => Q .ret st
  | _, _, _ => False

def dstsOk (N : Nat) : Code → Bool
  | .region _ ops _ => ops.toList.all fun o => match o.dst with | some d => decide (d < N) | none => true
  | .seq x y => dstsOk N x && dstsOk N y
  | .cond _ x y => dstsOk N x && dstsOk N y
  | .block _ c => dstsOk N c
  | .loop c => dstsOk N c
  | .skip | .exit _ | .ret => true
  | _ => false

section
variable {C : Cx} {st : St} {a : Act} {w : World} {g : Gh} {lam : Nat → Nat}

def Post (C : Cx) (Q : XE → St → Prop) : Exit → Act → World → Prop
  | .normal, a, w => ∃ st, SRep C st a w ∧ Q .normal st
  | .exit i, a, w => ∃ st, SRep C st a w ∧ Q (.exit i) st
  | .ret, a, w => ∃ st, SRep C st a w ∧ Q .ret st
  | _, _, _ => False

theorem noLoc_ok {key : Nat} : ∀ {env : List (Nat × EV)}, noLoc key env = true → ∀ t off, lk env t ≠ some (.loc key off)
  | [], _, t, off => by simp [lk]
  | (k, .val v) :: r, h, t, off => by
    simp only [noLoc] at h
    simp only [lk]
    split
    · simp
    · exact noLoc_ok h t off
  | (k, .loc k' o) :: r, h, t, off => by
    simp only [noLoc] at h
    split at h
    · simp at h
    · rename_i hk
      simp only [lk]
      split
      · simp only [ne_eq, Option.some.injEq, EV.loc.injEq, not_and]; intro hh; exact absurd hh hk
      · exact noLoc_ok h t off
theorem noLoc_ev {st : St} {d : Nat} (h : noLoc d st.env = true ∨ NoLoc st.ev d) : NoLoc st.ev d := by
  rcases h with h | h
  · intro t off hh
    simp only [St.ev] at hh
    cases hl : lk st.env t with
    | none => simp [hl] at hh
    | some e => simp [hl] at hh; exact noLoc_ok h t off (by rw [hl, hh])
  · exact h

theorem SRepG.weakEnv (h : SRepG C st a w g lam) {env' : List (Nat × EV)} {L' : List (Nat × List AV)} (he : ∀ t e, lk env' t = some e → lk st.env t = some e) (hL : ∀ k cs, lk L' k = some cs → lk st.L k = some cs) :
    SRepG C ⟨env', L', st.H⟩ a w g lam where
  wr := h.wr
  si := h.si
  lr := ⟨fun key cs hc => h.lr.box key cs (hL key cs hc), fun k k' h1 h2 hh => by
    obtain ⟨c1, hc1⟩ := Option.ne_none_iff_exists'.1 h1
    obtain ⟨c2, hc2⟩ := Option.ne_none_iff_exists'.1 h2
    exact h.lr.inj k k' (by rw [hL k c1 hc1]; simp) (by rw [hL k' c2 hc2]; simp) hh⟩
  env t e hte := h.env t e (he t e hte)
  defs := h.defs
  size := h.size
  n0 := h.n0
  om := h.om
theorem lk_filterMap {α : Type} (ks : List Nat) (l : List (Nat × α)) : ∀ t e, lk (ks.filterMap (fun k => (lk l k).map (k, ·))) t = some e → lk l t = some e := by
  induction ks with
  | nil => intro t e h; simp [lk] at h
  | cons k ks ih =>
    intro t e h
    rw [List.filterMap_cons] at h
    cases hk : lk l k with
    | none => rw [hk] at h; exact ih t e h
    | some v =>
      rw [hk] at h
      simp only [Option.map_some, lk] at h
      split at h
      · rename_i hh; subst hh; simp only [Option.some.injEq] at h; subst h; exact hk
      · exact ih t e h
theorem SRep.prune (h : SRep C st a w) (ks : List Nat) : SRep C (Sx.prune ks st) a w := by
  obtain ⟨g, lam, h⟩ := h
  exact ⟨g, lam, h.weakEnv (lk_filterMap ks st.env) (lk_filterMap ks st.L)⟩

theorem lk_upd {t : Nat} {v : EV} : ∀ {env : List (Nat × EV)} {t' : Nat} {e : EV}, lk (upd t v env) t' = some e → (t' = t ∧ e = v ∧ lk env t ≠ none) ∨ lk env t' = some e
  | [], t', e, h => by simp [upd, lk] at h
  | (k, x) :: r, t', e, h => by
    simp only [upd] at h
    by_cases hk : k = t
    · subst hk
      simp only [if_true, lk] at h
      split at h
      · rename_i hh; subst hh; simp only [Option.some.injEq] at h; exact .inl ⟨rfl, h.symm, by simp [lk]⟩
      · rename_i hh; right; simp only [lk, if_neg hh]; exact h
    · simp only [if_neg hk, lk] at h
      split at h
      · rename_i hh; right; simp only [lk, if_pos hh]; exact h
      · rename_i hh
        rcases lk_upd h with ⟨h1, h2, h3⟩ | h1
        · exact .inl ⟨h1, h2, by simp only [lk, if_neg hk]; exact h3⟩
        · right; simp only [lk, if_neg hh]; exact h1

/-- what a temporary holds, put anew by a value that says more -/
theorem SRepG.know (h : SRepG C st a w g lam) {t : Nat} {b : Bool} (hb : (st.ev (.tmp t)).asB = some b) : SRepG C ⟨upd t (.val (.bool b)) st.env, st.L, st.H⟩ a w g lam := by
  have := asB_eq hb
  simp only [St.ev] at this
  have hl : lk st.env t = some (.val (.bool b)) := by
    cases hq : lk st.env t with
    | none => simp [hq] at this
    | some e => simp [hq] at this; rw [this]
  refine h.weakEnv (fun t' e he => ?_) (fun k cs hc => hc)
  rcases lk_upd he with ⟨rfl, rfl, _⟩ | h1
  · exact hl
  · exact h1

/-- a guard is known -/
def Known (ops : Array Oper) (tmps : Array Value) : Option (Nat × Bool) → Prop
  | none => True
  | some (j, b) => yielded ops tmps j = some b

theorem Known.put {ops : Array Oper} {a : Act} {kn : Option (Nat × Bool)} (h : Known ops a.tmps kn) {dst : Option Tmp} (hne : ∀ j b, kn = some (j, b) → ∀ t, (ops[j]?).bind (·.dst) = some t → dst ≠ some t) (v : Value) : Known ops (a.put dst v).tmps kn := by
  cases kn with
  | none => trivial
  | some p =>
    obtain ⟨j, b⟩ := p
    simp only [Known, yielded] at h ⊢
    cases ht : (ops[j]?).bind (·.dst) with
    | none => rw [ht] at h; simp at h
    | some t =>
      rw [ht] at h
      have := hne j b rfl t ht
      cases dst with
      | none => exact h
      | some d =>
        have hdt : d ≠ t := fun hh => this (by rw [hh])
        simpa [Act.put, hdt] using h

theorem urep {w : World} {g : Gh} {lam : Nat → Nat} : ERep w g lam (.val (.tup [])) undef := by
  simp only [ERep, VRep]; exact ⟨#[], rfl, by simp [LRep]⟩
theorem ops_sound {ops : Array Oper} {Q : Exit → Act → World → Prop} : ∀ (l : List Nat) (ol : List Oper) (kn : Option (Nat × Bool)) (K : St → Prop) (st : St) (a : Act) (w : World),
    l.map (fun i => ops[i]?) = ol.map some → (∀ o ∈ ol, ∀ d, o.dst = some d → d < C.N) → Known ops a.tmps kn →
    exOps C.P C.cfg ops kn ol K st → SRep C st a w → (∀ st a w, K st → SRep C st a w → Q .normal a w) → wpOps C.P ops Q l a w
  | [], ol, kn, K, st, a, w, hl, hN, hkn, hx, hs, hK => by
    have : ol = [] := by simpa using hl.symm
    subst this
    exact hK st a w hx hs
  | i :: l, ol, kn, K, st, a, w, hl, hN, hkn, hx, hs, hK => by
    cases ol with
    | nil => simp at hl
    | cons o ol =>
      simp only [List.map_cons, List.cons.injEq] at hl
      obtain ⟨ho, hl⟩ := hl
      simp only [wpOps, ho]
      obtain ⟨g, lam, hs⟩ := hs
      have hN' : ∀ o ∈ ol, ∀ d, o.dst = some d → d < C.N := fun o' h' => hN o' (by simp [h'])
      have rest : ∀ kn st a w, Known ops a.tmps kn → exOps C.P C.cfg ops kn ol K st → SRep C st a w → wpOps C.P ops Q l a w := fun kn st a w h0 h1 h2 => ops_sound l ol kn K st a w hl hN' h0 h1 h2 hK
      have one : ∀ (kn : Option (Nat × Bool)) (st : St), (∀ v, Known ops (a.put o.dst v).tmps kn) → SRepG C st a w g lam → opX C.P C.cfg o (exOps C.P C.cfg ops kn ol K) st → o.wp C.P a w (wpOps C.P ops Q l) Q := by
        intro kn st hkn hs hx
        have := op_sound hs (hN o (by simp)) (fun d hd => noLoc_ev hd) hx Q
        unfold Oper.wp at this ⊢
        revert this
        have hkp : ∀ v (a' : Act), a' = a.put o.dst v → Known ops a'.tmps kn := fun v a' h => h ▸ hkn v
        unfold Oper.upon
        split <;> first
          | exact fun h => h
          | (rintro ⟨e, h1, h2⟩; exact rest _ _ _ _ (hkp _ _ rfl) h1 h2)
          | (rintro ⟨e, h1, h2⟩
             refine rest _ _ _ _ ?_ h1 h2
             have := hkn undef
             cases hd : o.dst <;> (rw [hd] at this; exact this))
          | (intro h; refine h.mono fun e w' he => ?_
             cases e with
             | returned v => obtain ⟨e, h1, h2⟩ := he; exact rest _ _ _ _ (hkp _ _ rfl) h1 h2
             | panicked c => exact he
             | outgrown => exact he)
          | (intro h; refine h.mono fun v w' he => ?_
             obtain ⟨e, h1, h2⟩ := he; exact rest _ _ _ _ (hkp _ _ rfl) h1 h2)
      unfold exOps at hx
      split at hx
      · rename_i hg
        have hw : Region.wanted o (yielded ops a.tmps) = true := by simp [Region.wanted, hg]
        simp only [hw, if_true]
        refine .inl (one _ st (fun v => ?_) hs hx)
        split
        · trivial
        · rename_i hany
          refine hkn.put (fun j b hk t ht hdt => hany ?_) v
          subst hk
          simp [ht, hdt]
      · rename_i j want hg
        split at hx
        · exact hx.elim
        rename_i t ht
        split at hx
        · exact hx.elim
        rename_i hdt
        have hkput : ∀ b v, yielded ops a.tmps j = some b → Known ops (a.put o.dst v).tmps (some (j, b)) := by
          intro b v hy
          refine Known.put (kn := some (j, b)) hy (fun j' b' hk t' ht' => ?_) v
          simp only [Option.some.injEq, Prod.mk.injEq] at hk
          obtain ⟨rfl, rfl⟩ := hk
          rw [ht] at ht'; simp only [Option.some.injEq] at ht'; subst ht'
          exact hdt
        split at hx
        · rename_i hk
          subst hk
          simp only [Known] at hkn
          have hw : Region.wanted o (yielded ops a.tmps) = true := by simp [Region.wanted, hg, hkn]
          simp only [hw, if_true]
          exact .inl (one _ st (fun v => hkput want v hkn) hs hx)
        split at hx
        · rename_i hk
          subst hk
          simp only [Known] at hkn
          have hw : Region.wanted o (yielded ops a.tmps) = false := by
            simp only [Region.wanted, hg, hkn]; cases want <;> rfl
          simp only [hw, Bool.false_eq_true, if_false]
          refine rest _ _ _ _ (hkput _ undef hkn) hx ⟨g, lam, ?_⟩
          cases hd : o.dst with
          | none => exact hs
          | some d => exact hs.put (hN o (by simp) d hd) urep
        split at hx
        · split at hx
          · rename_i hu
            have hy : yielded ops a.tmps j = none := by
              have hq := isU_eq hu
              unfold yielded
              rw [ht]
              simp only [St.ev] at hq
              cases hl' : lk st.env t with
              | none => simp [hl'] at hq
              | some e =>
                simp [hl'] at hq; subst hq
                obtain ⟨x, h1, h2⟩ := hs.env t _ hl'
                simp only [ERep, VRep] at h2
                obtain ⟨vs, rfl, _⟩ := h2
                simp [h1]
            have hw : Region.wanted o (yielded ops a.tmps) = false := by simp [Region.wanted, hg, hy]
            simp only [hw, Bool.false_eq_true, if_false]
            refine rest _ _ _ _ ?_ hx ⟨g, lam, ?_⟩
            · split
              · trivial
              · rename_i hany
                refine hkn.put (fun j b hk t ht hdt => hany ?_) undef
                subst hk
                simp [ht, hdt]
            · cases hd : o.dst with
              | none => exact hs
              | some d => exact hs.put (hN o (by simp) d hd) urep
          · exact hx.elim
        rename_i b hb
        have hk := hs.know hb
        have hy : yielded ops a.tmps j = some b := by
          have := hs.evB hb
          unfold yielded
          rw [ht]
          have hq := asB_eq hb
          simp only [St.ev] at hq
          cases hl' : lk st.env t with
          | none => simp [hl'] at hq
          | some e =>
            simp [hl'] at hq; subst hq
            obtain ⟨x, h1, h2⟩ := hs.env t _ hl'
            simp only [ERep, VRep] at h2; subst h2
            simp [h1]
        by_cases hbw : b = want
        · subst hbw
          have hw : Region.wanted o (yielded ops a.tmps) = true := by simp [Region.wanted, hg, hy]
          simp only [hw, if_true]
          exact .inl (one _ _ (fun v => hkput _ v hy) hk (hx.1 rfl))
        · have hbn : b = !want := by cases b <;> cases want <;> simp_all
          have hw : Region.wanted o (yielded ops a.tmps) = false := by
            simp only [Region.wanted, hg, hy]; subst hbn; cases want <;> rfl
          simp only [hw, Bool.false_eq_true, if_false]
          have hx2 := hx.2 hbn
          rw [hbn] at hk hy
          refine rest _ _ _ _ (hkput _ undef hy) hx2 ⟨g, lam, ?_⟩
          cases hd : o.dst with
          | none => exact hk
          | some d => exact hk.put (hN o (by simp) d hd) urep

def DrawOk (C : Cx) (draw : Array Oper → (St → Prop) → St → Prop) : Prop := ∀ (ops : Array Oper) (K : St → Prop) (st : St) (a : Act) (w : World) (id : Nat) (Q : Exit → Act → World → Prop),
  (∀ o ∈ ops.toList, ∀ d, o.dst = some d → d < C.N) → draw ops K st → SRep C st a w → (∀ st a w, K st → SRep C st a w → Q .normal a w) → (Code.region id ops true).wp C.P Q a w

theorem ex_sound {draw : Array Oper → (St → Prop) → St → Prop} (hdr : DrawOk C draw) : ∀ (c : Code) (Q : XE → St → Prop) (st : St) (a : Act) (w : World), dstsOk C.N c = true →
    Ex C.P C.cfg draw c Q st → SRep C st a w → c.wp C.P (Post C Q) a w
  | .skip, Q, st, a, w, _, hx, hs => wp_skip ⟨st, hs, hx⟩
  | .exit id, Q, st, a, w, _, hx, hs => wp_exit ⟨st, hs, hx⟩
  | .ret, Q, st, a, w, _, hx, hs => wp_ret ⟨st, hs, hx⟩
  | .region id ops d, Q, st, a, w, hd, hx, hs => by
    have hN : ∀ o ∈ ops.toList, ∀ d, o.dst = some d → d < C.N := by
      intro o ho d hod
      simp only [dstsOk, List.all_eq_true] at hd
      have := hd o ho
      simp only [hod, decide_eq_true_eq] at this
      exact this
    simp only [Ex] at hx
    cases d with
    | true => exact hdr ops (Q .normal) st a w id _ hN (by simpa using hx) hs (fun st a w h1 h2 => ⟨st, h2, h1⟩)
    | false =>
      refine wp_region (ops_sound (C := C) (ops := ops) (Q := Post C Q) _ ops.toList none (Q .normal) st a w ?_ hN trivial (by simpa using hx) hs (fun st a w h1 h2 => ⟨st, h2, h1⟩))
      apply List.ext_getElem?
      intro i
      simp only [List.getElem?_map, List.getElem?_range, Array.getElem?_toList]
      by_cases hi : i < ops.size
      · simp [hi]
      · simp [hi]
  | .seq x y, Q, st, a, w, hd, hx, hs => by
    simp only [dstsOk, Bool.and_eq_true] at hd
    simp only [Ex] at hx
    refine wp_seq (wp_mono (ex_sound hdr x _ st a w hd.1 hx hs) fun e a w he => ?_)
    cases e <;> simp only [Post, Exit.then] at he ⊢
    · obtain ⟨st', h1, h2⟩ := he; exact ex_sound hdr y Q st' a w hd.2 h2 h1
    · exact he
    · exact he
  | .cond c x y, Q, st, a, w, hd, hx, hs => by
    simp only [dstsOk, Bool.and_eq_true] at hd
    simp only [Ex] at hx
    split at hx
    · rename_i b hb
      have hc : a.eval c = .bool b := by obtain ⟨g, lam, hs⟩ := hs; exact hs.evB hb
      refine wp_cond_split hc (fun h => ?_) (fun h => ?_)
      · exact ex_sound hdr x Q st a w hd.1 (hx.1 h) hs
      · exact ex_sound hdr y Q st a w hd.2 (hx.2 h) hs
    · exact hx.elim
  | .block id c, Q, st, a, w, hd, hx, hs => by
    simp only [dstsOk] at hd
    simp only [Ex] at hx
    refine wp_block (wp_mono (ex_sound hdr c _ st a w hd hx hs) fun e a w he => ?_)
    cases e <;> simp only [Post, Exit.inBlock] at he ⊢
    · exact he
    · obtain ⟨st', h1, h2⟩ := he
      split
      · rename_i hh; simp only [hh, if_true] at h2; exact ⟨st', h1, h2⟩
      · rename_i hh; simp only [hh, if_false] at h2; exact ⟨st', h1, h2⟩
    · exact he
  | .loop c, Q, st, a, w, hd, hx, hs => by
    simp only [dstsOk] at hd
    simp only [Ex] at hx
    obtain ⟨ks, n, hx⟩ := hx
    refine wp_loop_rounds n ?_
    have key : ∀ n st a w, roundsX (Ex C.P C.cfg draw c) ks Q n st → SRep C st a w → Code.rounds C.P c (Post C Q) n a w := by
      intro n
      induction n with
      | zero => intro st a w h _; exact h.elim
      | succ n ih =>
        intro st a w h hs
        rw [rounds_succ]
        refine wp_mono (ex_sound hdr c _ st a w hd h hs) fun e a w he => ?_
        cases e <;> simp only [Post, Exit.then] at he ⊢
        · obtain ⟨st', h1, h2⟩ := he; exact ih _ a w h2 (h1.prune ks)
        · exact he
        · exact he
    exact key n _ a w hx (hs.prune ks)
  | .rangeFunc .., _, _, _, _, _, hx, _ => by simp [Ex] at hx
  | .scope _, _, _, _, _, _, hx, _ => by simp [Ex] at hx
  | .label _, _, _, _, _, _, hx, _ => by simp [Ex] at hx
  | .goto _, _, _, _, _, _, hx, _ => by simp [Ex] at hx
  | .refuse _, _, _, _, _, _, hx, _ => by simp [Ex] at hx
end
end Go.Sx
