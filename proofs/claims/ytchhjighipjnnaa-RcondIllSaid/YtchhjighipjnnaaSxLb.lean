/- A part of the proofs of this seat: SxLb. No condition is set. -/
import Derived.Test.YtchhjighipjnnaaSxL
set_option linter.unusedVariables false
set_option linter.unusedSimpArgs false
namespace Go.Sx

def noBox : Op → Bool
  | .alloc _ | .box .. => false
  | _ => true
/-- where a pointer to a box comes from -/
def LocOf (cfg : Cfg) (ρ : Operand → EV) (o : Oper) (k : Nat) : Prop :=
  (cfg.esc = false ∧ noBox o.op = false ∧ o.dst = some k) ∨ ∃ x ∈ o.op.operands.toList, ∃ off, ρ x = .loc k off

theorem pureV_lL {P : Program} {ρ : Operand → EV} {lL lL' : Nat → Option (List AV)} {H : List (List AV)} (op : Op) (h : ∀ x ∈ op.operands.toList, ∀ k off, ρ x = .loc k off → lL k = lL' k) : pureV P ρ lL H op = pureV P ρ lL' H op := by
  cases op
  case load t x =>
    simp only [pureV]
    cases hx : ρ x with
    | val v => cases v <;> rfl
    | loc k off =>
      have := h x (by simp [Op.operands]) k off hx
      simp only [this]
  case call c =>
    obtain ⟨callee, args, ts⟩ := c
    cases callee with
    | value f => rfl
    | invoke r m => rfl
    | builtin b => cases b <;> rfl
  case makeFunc f a b => cases f <;> rfl
  case slice t x lo hi m => cases m <;> rfl
  all_goals rfl
theorem binV_val {P : Program} : True := trivial
theorem pureV_loc {P : Program} {ρ : Operand → EV} {lL : Nat → Option (List AV)} {H : List (List AV)} {op : Op} {c : Prop} {k off : Nat} (h : pureV P ρ lL H op = some (c, .loc k off)) : ∃ x ∈ op.operands.toList, ∃ off', ρ x = .loc k off' := by
  cases op
  case move x => simp only [pureV, Option.some.injEq, Prod.mk.injEq] at h; exact ⟨x, by simp [Op.operands], off, h.2⟩
  case assign x => simp only [pureV, Option.some.injEq, Prod.mk.injEq] at h; exact ⟨x, by simp [Op.operands], off, h.2⟩
  case pick a x y =>
    simp only [pureV, Option.map_eq_some_iff, Prod.mk.injEq] at h
    obtain ⟨b, _, _, h⟩ := h
    cases b
    · exact ⟨y, by simp [Op.operands], off, by simpa using h⟩
    · exact ⟨x, by simp [Op.operands], off, by simpa using h⟩
  case nilCheck x =>
    simp only [pureV] at h
    split at h
    · rename_i key o he; simp only [Option.some.injEq, Prod.mk.injEq, EV.loc.injEq] at h; obtain ⟨_, rfl, rfl⟩ := h; exact ⟨x, by simp [Op.operands], _, he⟩
    · simp at h
    · simp at h
    · simp at h
  case fieldAddr t x i =>
    simp only [pureV, Option.bind_eq_some_iff] at h
    obtain ⟨p, _, h⟩ := h
    split at h
    · split at h
      · rename_i key o he; simp only [Option.some.injEq, Prod.mk.injEq, EV.loc.injEq] at h; obtain ⟨_, rfl, _⟩ := h; exact ⟨x, by simp [Op.operands], _, he⟩
      · simp at h
      · simp at h
    · simp at h
  case load t x =>
    simp only [pureV] at h
    split at h
    · simp only [Option.bind_eq_some_iff, Option.map_eq_some_iff, Prod.mk.injEq] at h; obtain ⟨_, _, _, _, _, _, _, _, _, h⟩ := h; cases h
    · simp only [Option.bind_eq_some_iff, Option.map_eq_some_iff, Prod.mk.injEq] at h; obtain ⟨_, _, _, _, _, _, _, h⟩ := h; cases h
    · cases h
  case binOp op t x y t' =>
    simp only [pureV] at h
    split at h
    · simp at h
    · simp at h
  case unOp op t x => simp [pureV] at h
  case convert s d x =>
    simp only [pureV] at h
    split at h <;> simp at h
  case field t x i =>
    simp only [pureV, Option.bind_eq_some_iff] at h
    obtain ⟨p, _, h⟩ := h
    split at h
    · simp only [Option.bind_eq_some_iff, Option.map_eq_some_iff, Prod.mk.injEq] at h; obtain ⟨_, _, _, _, _, _, _, h⟩ := h; cases h
    · cases h
  case indexAddr t x i =>
    simp only [pureV] at h
    split at h
    · simp only [Option.bind_eq_some_iff, Option.map_eq_some_iff, Prod.mk.injEq] at h; obtain ⟨_, _, _, _, _, h⟩ := h; cases h
    · cases h
  case extract x i =>
    simp only [pureV] at h
    split at h
    · simp at h
    · cases h
  case slice t x lo hi m =>
    cases m with
    | some m => simp [pureV] at h
    | none => simp [pureV] at h
  case index t x i => simp [pureV] at h
  case build t ps => simp [pureV] at h
  case makeFunc f a b =>
    cases f <;> simp only [pureV, reduceCtorEq] at h
    split at h
    · simp at h
    · cases h
  case call c =>
    obtain ⟨callee, args, ts⟩ := c
    cases callee with
    | value f => simp [pureV] at h
    | invoke r m => simp [pureV] at h
    | builtin b =>
      cases b <;> simp only [pureV, reduceCtorEq] at h
      all_goals (repeat' split at h) <;> first | (simp at h; done) | (simp only [Option.map_eq_some_iff, Prod.mk.injEq] at h; obtain ⟨_, _, _, h⟩ := h; cases h)
  all_goals simp [pureV] at h

theorem newX_go {cfg : Cfg} {NL NL' : Nat → Prop} {H : List (List AV)} {dst : Option Tmp} {cs : List AV} {K K' : Eff → Prop} (hN : ∀ d, cfg.esc = false → dst = some d → NL d → NL' d)
    (hK : ∀ e : Eff, (∀ k off, e.v = some (.loc k off) → cfg.esc = false ∧ dst = some k) → (∀ k cs, e.l = some (k, cs) → cfg.esc = false ∧ dst = some k) → K e → K' e) (h : newX cfg NL H dst cs K) : newX cfg NL' H dst cs K' := by
  unfold newX at h ⊢
  cases dst with
  | none => exact h
  | some d =>
    dsimp only at h ⊢
    split at h
    · rename_i he; rw [if_pos he]; exact hK _ (fun k off hh => by simp at hh) (fun k cs hh => by simp at hh) h
    · rename_i he
      rw [if_neg he]
      refine ⟨hN d (by simpa using he) rfl h.1, hK _ (fun k off hh => ?_) (fun k cs hh => ?_) h.2⟩
      · simp at hh; exact ⟨by simpa using he, by rw [hh.1]⟩
      · simp at hh; exact ⟨by simpa using he, by rw [hh.1]⟩
theorem storeX_go {cfg : Cfg} {lL lL' : Nat → Option (List AV)} {H : List (List AV)} {x : EV} {vs : List AV} {K K' : Eff → Prop} (hl : ∀ k off, x = .loc k off → lL k = lL' k)
    (hK : ∀ e : Eff, (∀ k off, e.v ≠ some (.loc k off)) → (∀ k cs, e.l = some (k, cs) → ∃ off, x = .loc k off) → K e → K' e) (h : storeX cfg lL H x vs K) : storeX cfg lL' H x vs K' := by
  unfold storeX at h ⊢
  split at h
  · rename_i key off
    rw [← hl key off rfl]
    split at h
    · refine ⟨h.1, hK _ (fun _ _ hh => by simp at hh) (fun k cs hh => ?_) h.2⟩
      simp at hh; exact ⟨off, by rw [hh.1]⟩
    · exact h
  · skip
    split at h
    · exact ⟨h.1, h.2.1, h.2.2.1, hK _ (fun _ _ hh => by simp at hh) (fun k cs hh => by simp at hh) h.2.2.2⟩
    · exact h
  · exact h.elim
theorem appX_go {cfg : Cfg} {sz : Nat} {H : List (List AV)} {s : AV} {n : Nat} {xs : List AV} {K K' : Eff → Prop} (hK : ∀ e : Eff, (∀ k off, e.v ≠ some (.loc k off)) → (∀ p, e.l ≠ some p) → K e → K' e) (h : appX cfg sz H s n xs K) : appX cfg sz H s n xs K' := by
  unfold appX at h ⊢
  split at h
  · exact ⟨h.1, fun h0 => hK _ (by simp) (by simp) (h.2.1 h0), fun h0 => hK _ (by simp) (by simp) (h.2.2 h0)⟩
  · skip
    split at h
    · exact ⟨h.1, h.2.1, h.2.2.1, h.2.2.2.1, h.2.2.2.2.1, h.2.2.2.2.2.1, hK _ (by simp) (by simp) h.2.2.2.2.2.2⟩
    · exact h
  · exact h.elim
theorem cpyX_go {cfg : Cfg} {sz : Nat} {H : List (List AV)} {s : AV} {n : Nat} {xs : List AV} {K K' : Eff → Prop} (hK : ∀ e : Eff, (∀ k off, e.v ≠ some (.loc k off)) → (∀ p, e.l ≠ some p) → K e → K' e) (h : cpyX cfg sz H s n xs K) : cpyX cfg sz H s n xs K' := by
  unfold cpyX at h ⊢
  split at h
  · skip
    split at h
    · exact ⟨h.1, h.2.1, h.2.2.1, h.2.2.2.1, hK _ (by simp) (by simp) h.2.2.2.2⟩
    · exact h
  · exact h.elim

/-- an operation in a state that says the same of what it looks at -/
theorem opE_go {P : Program} {cfg : Cfg} {ρ ρ' : Operand → EV} {NL NL' : Nat → Prop} {lL lL' : Nat → Option (List AV)} {H : List (List AV)} {o : Oper} {K K' : Eff → Prop} (hr : ∀ x ∈ o.op.operands.toList, ρ x = ρ' x) (hN : ∀ d, cfg.esc = false → o.dst = some d → noBox o.op = false → NL d → NL' d)
    (hl : ∀ x ∈ o.op.operands.toList, ∀ k off, ρ x = .loc k off → lL k = lL' k)
    (hK : ∀ e, (∀ k off, e.v = some (.loc k off) → LocOf cfg ρ o k) → (∀ k cs, e.l = some (k, cs) → LocOf cfg ρ o k) → K e → K' e) (hx : opE P cfg ρ NL lL H o K) : opE P cfg ρ' NL' lL' H o K' := by
  obtain ⟨dst, op, ty, pos, aft, gd⟩ := o
  dsimp only at hr hN hl
  have pure : ∀ op', op' = op → (match pureV P ρ lL H op with | some (c, v) => c ∧ K ⟨some v, none, H⟩ | none => False) → (match pureV P ρ' lL' H op' with | some (c, v) => c ∧ K' ⟨some v, none, H⟩ | none => False) := by
    rintro op' rfl hh
    rw [← pureV_congr op' hr, ← pureV_lL op' hl]
    split at hh
    · rename_i c v h
      refine ⟨hh.1, hK _ (fun k off he => ?_) (fun k cs he => by simp at he) hh.2⟩
      simp only [Option.some.injEq] at he
      subst he
      exact .inr (pureV_loc h)
    · exact hh.elim
  have quiet : ∀ {v : EV} {H' : List (List AV)}, (∀ k off, v ≠ .loc k off) → K ⟨some v, none, H'⟩ → K' ⟨some v, none, H'⟩ := fun h hk => hK _ (fun k off he => by simp only [Option.some.injEq] at he; exact (h k off he).elim) (fun k cs he => by simp at he) hk
  cases op
  case alloc t =>
    unfold opE at hx ⊢
    dsimp only at hx ⊢
    split at hx
    · rename_i h; (try rw [h]); exact newX_go (fun d he hd => hN d he hd rfl) (fun e h1 h2 => hK e (fun k off he => .inl ⟨(h1 k off he).1, rfl, (h1 k off he).2⟩) (fun k cs he => .inl ⟨(h2 k cs he).1, rfl, (h2 k cs he).2⟩)) hx
    · exact hx.elim
  case box t x =>
    unfold opE at hx ⊢
    dsimp only at hx ⊢
    rw [hr x (by simp [Op.operands])] at hx
    split at hx
    · rename_i h; (try rw [h]); exact newX_go (fun d he hd => hN d he hd rfl) (fun e h1 h2 => hK e (fun k off he => .inl ⟨(h1 k off he).1, rfl, (h1 k off he).2⟩) (fun k cs he => .inl ⟨(h2 k cs he).1, rfl, (h2 k cs he).2⟩)) hx
    · exact hx.elim
  case store t x v =>
    unfold opE at hx ⊢
    dsimp only at hx ⊢
    rw [hr v (by simp [Op.operands])] at hx
    split at hx
    · rename_i h
      (try rw [h])
      refine ⟨hx.1, hx.2.1, ?_⟩
      rw [← hr x (by simp [Op.operands])]
      exact storeX_go (fun k off he => hl x (by simp [Op.operands]) k off he) (fun e h1 h2 => hK e (fun k off he => (h1 k off he).elim) (fun k cs he => by obtain ⟨off, h3⟩ := h2 k cs he; exact .inr ⟨x, by simp [Op.operands], off, h3⟩)) hx.2.2
    · exact hx.elim
  case buildSlice t n ps =>
    unfold opE at hx ⊢
    dsimp only at hx ⊢
    have hm : ps.toList.map (fun p : Nat × Operand => (p.1, (ρ p.2).asV)) = ps.toList.map (fun p => (p.1, (ρ' p.2).asV)) :=
      List.map_congr_left (fun p hp => by rw [hr p.2 (by simp [Op.operands]; exact ⟨p.1, by simpa using hp⟩)])
    rw [hm] at hx
    split at hx
    · rename_i h; (try rw [h])
      (try dsimp only)
      split at hx
      · rename_i h; (try rw [h])
        (try dsimp only)
        refine ⟨hx.1, hx.2.1, hx.2.2.1, ?_⟩
        have := hx.2.2.2
        split at this
        · rename_i h; simp only [h, if_true]; exact quiet (by simp) this
        · rename_i h; simp only [h, if_false]; exact quiet (by simp) this
      · exact hx.elim
    · exact hx.elim
  case makeSlice t l c =>
    unfold opE at hx ⊢
    dsimp only at hx ⊢
    rw [hr l (by simp [Op.operands]), hr c (by simp [Op.operands])] at hx
    split at hx
    · rename_i h1 h2 h3; (try rw [h1, h2, h3])
      obtain ⟨h1, h2, h3, h4, h5, h6, h7⟩ := hx
      exact ⟨h1, h2, h3, h4, h5, h6, quiet (by simp) h7⟩
    · exact hx.elim
  case call c =>
    obtain ⟨callee, args, ts⟩ := c
    cases callee with
    | value f =>
      unfold opE at hx ⊢
      dsimp only at hx ⊢
      rw [hr f (by simp [Op.operands, Call.operands]), argsX_congr (ρ := ρ) (ρ' := ρ') (fun x hx => hr x (by simp [Op.operands, Call.operands]; exact .inr (by simpa using hx)))] at hx
      split at hx
      · rename_i h1 h2; (try rw [h1, h2])
        obtain ⟨r, H', h1, h2, h3⟩ := hx
        exact ⟨r, H', h1, h2, quiet (by simp) h3⟩
      · exact hx.elim
    | invoke r m => exact pure _ rfl hx
    | builtin b =>
      have ha : args.toList.map (fun x => (ρ x).asV) = args.toList.map (fun x => (ρ' x).asV) :=
        List.map_congr_left (fun x hx => by rw [hr x (by simp [Op.operands, Call.operands]; simpa using hx)])
      cases b
      case append =>
        unfold opE at hx ⊢
        dsimp only at hx ⊢
        rw [ha] at hx
        split at hx
        · rename_i h1 h2; (try rw [h1, h2])
          (try dsimp only)
          split at hx
          · rename_i h3 h4; (try rw [h3, h4])
            (try dsimp only)
            split at hx
            · rename_i h5; (try rw [h5]); exact ⟨hx.1, hx.2.1, hx.2.2.1, hx.2.2.2.1, appX_go (fun e h1 h2 => hK e (fun k off he => (h1 k off he).elim) (fun k cs he => (h2 _ he).elim)) hx.2.2.2.2⟩
            · exact hx.elim
          · exact hx.elim
        · exact hx.elim
      case copy =>
        unfold opE at hx ⊢
        dsimp only at hx ⊢
        rw [ha] at hx
        split at hx
        · rename_i h1 h2; (try rw [h1, h2])
          (try dsimp only)
          split at hx
          · rename_i h3 h4; (try rw [h3, h4])
            (try dsimp only)
            split at hx
            · rename_i h5; (try rw [h5]); exact ⟨hx.1, cpyX_go (fun e h1 h2 => hK e (fun k off he => (h1 k off he).elim) (fun k cs he => (h2 _ he).elim)) hx.2⟩
            · exact hx.elim
          · exact hx.elim
        · exact hx.elim
      all_goals exact pure _ rfl hx
  all_goals exact pure _ rfl hx
end Go.Sx
