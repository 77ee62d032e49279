/- A part of the proofs of this seat: RD. No condition is set. -/
import Derived.Test.YtchhjighipjnnaaRC
set_option linter.unusedVariables false
set_option linter.unusedSimpArgs false
namespace Go.Sx

section
variable {P : Program} {cfg : Cfg} {call : CallR} (hcall : ∀ f args H r H', call f args H = some (r, H') → CSpec P f args H r H')
include hcall
theorem oneR_ok {o : Oper} {st : St} {e : EffR} {K : St → Prop} (h : oneR P cfg call o st = some e) (hK : K (st.app o.dst (e.eff st.H))) : opX P cfg o K st := by
  unfold oneR at h
  rw [Option.bind_eq_some_iff] at h
  obtain ⟨e', h1, h2⟩ := h
  rw [fE_eq] at h2
  cases h2
  exact opR_ok (K := fun e => K (st.app o.dst e)) hcall (fun d hd => .inl hd) h1 hK

theorem exOpsR_ok {ops : Array Oper} {Q : St → Prop} {st' : St} (hQ : Q st') : ∀ (l : List Oper) (kn : Option (Nat × Bool)) (st : St), KnA ops kn st → exOpsR P cfg call ops l st = some st' → exOps P cfg ops kn l Q st
  | [], kn, st, hk, h => by
    simp only [exOpsR, Option.some.injEq] at h; subst h
    simpa [exOps] using hQ
  | o :: rest, kn, st, hk, h => by
    unfold exOpsR at h
    unfold exOps
    have kput : ∀ {kn : Option (Nat × Bool)} (s : St), KnA ops kn st → (∀ t, o.dst ≠ some t → lk s.env t = lk st.env t) → KnA ops (if kn.any (fun p => ((ops[p.1]?).bind (·.dst)) == o.dst) then none else kn) s := by
      intro kn s hkn ha
      split
      · trivial
      · rename_i hany
        cases kn with
        | none => trivial
        | some p =>
          obtain ⟨j, b⟩ := p
          obtain ⟨t, ht, hv⟩ := hkn
          exact KnA_of ht (fun hd => hany (by simp [ht, hd])) hv ha
    cases hg : o.guard with
    | none =>
      simp only [guardR, hg] at h
      dsimp only
      cases h1 : oneR P cfg call o st with
      | none => rw [h1] at h; cases h
      | some e =>
        rw [h1] at h
        exact oneR_ok hcall h1 (exOpsR_ok hQ rest _ _ (kput _ hk fun t ht => lk_app_ne ht) h)
    | some p =>
      obtain ⟨j, want⟩ := p
      simp only [guardR, hg] at h
      dsimp only
      cases ht : (ops[j]?).bind (·.dst) with
      | none => rw [ht] at h; cases h
      | some t =>
        rw [ht] at h
        dsimp only at h ⊢
        by_cases hd : o.dst = some t
        · rw [if_pos hd] at h; cases h
        rw [if_neg hd] at h ⊢
        have go : ∀ b, st.ev (.tmp t) = .val (.bool b) → (b = want → (∃ e, oneR P cfg call o st = some e ∧ exOpsR P cfg call ops rest (st.app o.dst (e.eff st.H)) = some st')) ∧
            (b = !want → exOpsR P cfg call ops rest (st.put o.dst (.val (.tup []))) = some st') := by
          intro b hb
          rw [hb] at h
          dsimp only at h
          refine ⟨fun hw => ?_, fun hw => ?_⟩
          · subst hw
            rw [beq_self_eq_true] at h
            dsimp only at h
            cases h1 : oneR P cfg call o st with
            | none => rw [h1] at h; cases h
            | some e => rw [h1] at h; exact ⟨e, rfl, h⟩
          · subst hw
            have : ((!want) == want) = false := by cases want <;> rfl
            rw [this] at h
            exact h
        split
        · rename_i hkn
          subst hkn
          obtain ⟨t', ht', hv⟩ := hk
          rw [ht] at ht'; simp only [Option.some.injEq] at ht'; subst ht'
          obtain ⟨e, h1, h2⟩ := (go _ hv).1 rfl
          exact oneR_ok hcall h1 (exOpsR_ok hQ rest _ _ (KnA_of ht hd hv fun t ht => lk_app_ne ht) h2)
        split
        · rename_i hkn
          subst hkn
          obtain ⟨t', ht', hv⟩ := hk
          rw [ht] at ht'; simp only [Option.some.injEq] at ht'; subst ht'
          exact exOpsR_ok hQ rest _ _ (KnA_of ht hd hv fun t ht => lk_put_ne ht) ((go _ hv).2 rfl)
        cases hb : (st.ev (.tmp t)).asB with
        | none =>
          dsimp only
          have hu : (st.ev (.tmp t)).isU = true ∧ exOpsR P cfg call ops rest (st.put o.dst (.val (.tup []))) = some st' := by
            split at h
            · cases h
            · rename_i heq
              split at heq
              · rename_i he; rw [he] at hb; cases hb
              · cases heq
              · cases heq
            · rename_i heq
              split at heq
              · rename_i he; rw [he] at hb; cases hb
              · rename_i he; rw [he]; exact ⟨rfl, h⟩
              · cases heq
          rw [if_pos hu.1]
          exact exOpsR_ok hQ rest _ _ (kput _ hk fun t ht => lk_put_ne ht) hu.2
        | some b =>
          dsimp only
          obtain ⟨hu, hv⟩ := upd_ev hb
          refine ⟨fun hw => ?_, fun hw => ?_⟩
          · obtain ⟨e, h1, h2⟩ := (go _ hv).1 hw
            subst hw
            rw [hu]
            exact oneR_ok hcall h1 (exOpsR_ok hQ rest _ _ (KnA_of ht hd hv fun t ht => lk_app_ne ht) h2)
          · have h2 := (go _ hv).2 hw
            rw [← hw, hu]
            exact exOpsR_ok hQ rest _ _ (KnA_of ht hd hv fun t ht => lk_put_ne ht) h2

theorem exDR_ok {ops : Array Oper} {nY : NY} {Q : St → Prop} {st' : St} (hQ : Q st') : ∀ (l : List (Nat × DFl)) (kn : Option (Nat × Bool)) (st : St), KnA ops kn st → exDR P cfg call ops nY l st = some st' → exD P cfg ops nY kn l Q st
  | [], kn, st, hk, h => by
    simp only [exDR, Option.some.injEq] at h; subst h
    simpa [exD] using hQ
  | (i, f) :: rest, kn, st, hk, h => by
    unfold exDR at h
    unfold exD
    cases ho : ops[i]? with
    | none => rw [ho] at h; cases h
    | some o =>
    rw [ho] at h
    dsimp only at h ⊢
    have kput : ∀ {kn : Option (Nat × Bool)} (s : St), KnA ops kn st → (∀ t, o.dst ≠ some t → lk s.env t = lk st.env t) → KnA ops (if kn.any (fun p => ((ops[p.1]?).bind (·.dst)) == o.dst) then none else kn) s := by
      intro kn s hkn ha
      split
      · trivial
      · rename_i hany
        cases kn with
        | none => trivial
        | some p =>
          obtain ⟨j, b⟩ := p
          obtain ⟨t, ht, hv⟩ := hkn
          exact KnA_of ht (fun hd => hany (by simp [ht, hd])) hv ha
    have one : ∀ e {x : Option St}, (if ckR f nY o st e then x else none) = some st' → ckX f nY o st (st.app o.dst (e.eff st.H)) ∧ x = some st' := by
      intro e x hh
      split at hh
      · rename_i hc; exact ⟨ckR_ok hc, hh⟩
      · cases hh
    cases hg : o.guard with
    | none =>
      simp only [guardR, hg] at h
      dsimp only
      cases h1 : oneR P cfg call o st with
      | none => rw [h1] at h; cases h
      | some e =>
        rw [h1] at h
        obtain ⟨h2, h3⟩ := one e h
        exact oneR_ok hcall (K := fun s => ckX f nY o st s ∧ exD P cfg ops nY _ rest Q s) h1 ⟨h2, exDR_ok hQ rest _ _ (kput _ hk fun t ht => lk_app_ne ht) h3⟩
    | some p =>
      obtain ⟨j, want⟩ := p
      simp only [guardR, hg] at h
      dsimp only
      cases ht : (ops[j]?).bind (·.dst) with
      | none => rw [ht] at h; cases h
      | some t =>
        rw [ht] at h
        dsimp only at h ⊢
        by_cases hd : o.dst = some t
        · rw [if_pos hd] at h; cases h
        rw [if_neg hd] at h ⊢
        have go : ∀ b, st.ev (.tmp t) = .val (.bool b) → (b = want → (∃ e, oneR P cfg call o st = some e ∧ ckX f nY o st (st.app o.dst (e.eff st.H)) ∧ exDR P cfg call ops nY rest (st.app o.dst (e.eff st.H)) = some st')) ∧
            (b = !want → exDR P cfg call ops nY rest (st.put o.dst (.val (.tup []))) = some st') := by
          intro b hb
          rw [hb] at h
          dsimp only at h
          refine ⟨fun hw => ?_, fun hw => ?_⟩
          · subst hw
            rw [beq_self_eq_true] at h
            dsimp only at h
            cases h1 : oneR P cfg call o st with
            | none => rw [h1] at h; cases h
            | some e => rw [h1] at h; exact ⟨e, rfl, one e h⟩
          · subst hw
            have : ((!want) == want) = false := by cases want <;> rfl
            rw [this] at h
            exact h
        split
        · rename_i hkn
          subst hkn
          obtain ⟨t', ht', hv⟩ := hk
          rw [ht] at ht'; simp only [Option.some.injEq] at ht'; subst ht'
          obtain ⟨e, h1, h2, h3⟩ := (go _ hv).1 rfl
          exact oneR_ok hcall (K := fun s => ckX f nY o st s ∧ exD P cfg ops nY _ rest Q s) h1 ⟨h2, exDR_ok hQ rest _ _ (KnA_of ht hd hv fun t ht => lk_app_ne ht) h3⟩
        split
        · rename_i hkn
          subst hkn
          obtain ⟨t', ht', hv⟩ := hk
          rw [ht] at ht'; simp only [Option.some.injEq] at ht'; subst ht'
          exact exDR_ok hQ rest _ _ (KnA_of ht hd hv fun t ht => lk_put_ne ht) ((go _ hv).2 rfl)
        cases hb : (st.ev (.tmp t)).asB with
        | none =>
          dsimp only
          have hu : (st.ev (.tmp t)).isU = true ∧ exDR P cfg call ops nY rest (st.put o.dst (.val (.tup []))) = some st' := by
            split at h
            · cases h
            · rename_i heq
              split at heq
              · rename_i he; rw [he] at hb; cases hb
              · cases heq
              · cases heq
            · rename_i heq
              split at heq
              · rename_i he; rw [he] at hb; cases hb
              · rename_i he; rw [he]; exact ⟨rfl, h⟩
              · cases heq
          rw [if_pos hu.1]
          exact exDR_ok hQ rest _ _ (kput _ hk fun t ht => lk_put_ne ht) hu.2
        | some b =>
          dsimp only
          obtain ⟨hu, hv⟩ := upd_ev hb
          refine ⟨fun hw => ?_, fun hw => ?_⟩
          · obtain ⟨e, h1, h2, h3⟩ := (go _ hv).1 hw
            subst hw
            rw [hu]
            exact oneR_ok hcall (K := fun s => ckX f nY o st s ∧ exD P cfg ops nY _ rest Q s) h1 ⟨h2, exDR_ok hQ rest _ _ (KnA_of ht hd hv fun t ht => lk_app_ne ht) h3⟩
          · have h2 := (go _ hv).2 hw
            rw [← hw, hu]
            exact exDR_ok hQ rest _ _ (KnA_of ht hd hv fun t ht => lk_put_ne ht) h2

theorem runC_ok {ord : Nat → Option (List Nat × (Bool × List Nat) × List Nat × List (Nat × DFl))} {lf : Nat} : ∀ (c : Code) (Q : XE → St → Prop) (st : St) (e : XE) (st' : St), runC P cfg call ord lf c st = some (e, st') → Q e st' → Ex P cfg (drawX P cfg) c Q st
  | .skip, Q, st, e, st', h, hQ => by simp only [runC, Option.some.injEq, Prod.mk.injEq] at h; obtain ⟨rfl, rfl⟩ := h; exact hQ
  | .exit id, Q, st, e, st', h, hQ => by simp only [runC, Option.some.injEq, Prod.mk.injEq] at h; obtain ⟨rfl, rfl⟩ := h; exact hQ
  | .ret, Q, st, e, st', h, hQ => by simp only [runC, Option.some.injEq, Prod.mk.injEq] at h; obtain ⟨rfl, rfl⟩ := h; exact hQ
  | .region id ops d, Q, st, e, st', h, hQ => by
    unfold runC at h; unfold Ex
    cases d with
    | true =>
      simp only [if_true] at h ⊢
      split at h
      · cases h
      · rename_i nY wm ch fl ho
        split at h
        · rename_i hc
          simp only [Bool.and_eq_true] at hc
          simp only [Option.map_eq_some_iff, Prod.mk.injEq] at h
          obtain ⟨s, h1, rfl, rfl⟩ := h
          exact ⟨⟨nY, _⟩, ch, fl, hc.1, hc.2, exDR_ok hcall hQ _ _ _ trivial h1⟩
        · cases h
    | false =>
      simp only [Bool.false_eq_true, if_false, Option.map_eq_some_iff, Prod.mk.injEq] at h ⊢
      obtain ⟨s, h1, rfl, rfl⟩ := h
      exact exOpsR_ok hcall hQ _ _ _ trivial h1
  | .seq x y, Q, st, e, st', h, hQ => by
    unfold runC at h; unfold Ex
    split at h
    · rename_i s hs
      exact runC_ok x _ st _ _ hs (runC_ok y _ s _ _ h hQ)
    · rename_i r hr
      refine runC_ok x _ st _ _ h ?_
      cases e with
      | normal => exact (hr _ h).elim
      | exit i => exact hQ
      | ret => exact hQ
  | .cond c x y, Q, st, e, st', h, hQ => by
    unfold runC at h; unfold Ex
    split at h
    · rename_i hb; rw [hb]; exact ⟨fun _ => runC_ok x _ st _ _ h hQ, fun hh => by cases hh⟩
    · rename_i hb; rw [hb]; exact ⟨fun hh => (by cases hh), fun _ => runC_ok y _ st _ _ h hQ⟩
    · cases h
  | .block id c, Q, st, e, st', h, hQ => by
    unfold runC at h; unfold Ex
    split at h
    · rename_i i s hs
      refine runC_ok c _ st _ _ hs ?_
      dsimp only
      split at h
      · rename_i hi; rw [if_pos hi]; cases h; exact hQ
      · rename_i hi; rw [if_neg hi]; cases h; exact hQ
    · rename_i r hr
      refine runC_ok c _ st _ _ h ?_
      cases e with
      | normal => exact hQ
      | exit i => exact (hr _ _ h).elim
      | ret => exact hQ
  | .loop c, Q, st, e, st', h, hQ => by
    unfold runC at h; unfold Ex
    rw [fNs_eq, fSt_eq] at h
    refine ⟨keysL st.L (keysR st.env []), lf, ?_⟩
    generalize keysL st.L (keysR st.env []) = ks at h ⊢
    have go : ∀ n s, roundsR (runC P cfg call ord lf c) ks n s = some (e, st') → roundsX (Ex P cfg (drawX P cfg) c) ks Q n s := by
      intro n
      induction n with
      | zero => intro s h; simp [roundsR] at h
      | succ n ih =>
        intro s h
        unfold roundsR at h
        unfold roundsX
        split at h
        · rename_i s' hs
          rw [fSt_eq] at h
          exact runC_ok c _ s _ _ hs (ih _ h)
        · rename_i r hr
          refine runC_ok c _ s _ _ h ?_
          cases e with
          | normal => exact (hr _ h).elim
          | exit i => exact hQ
          | ret => exact hQ
    exact go lf _ h
  | .rangeFunc .., Q, st, e, st', h, hQ => by simp [runC] at h
  | .scope _, Q, st, e, st', h, hQ => by simp [runC] at h
  | .label _, Q, st, e, st', h, hQ => by simp [runC] at h
  | .goto _, Q, st, e, st', h, hQ => by simp [runC] at h
  | .refuse _, Q, st, e, st', h, hQ => by simp [runC] at h
end
end Go.Sx
