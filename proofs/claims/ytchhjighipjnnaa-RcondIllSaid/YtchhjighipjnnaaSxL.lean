/- A part of the proofs of this seat: SxL. No condition is set. -/
import Derived.Test.YtchhjighipjnnaaSxK
set_option linter.unusedVariables false
set_option linter.unusedSimpArgs false
namespace Go.Sx

/-! ### an operation looks at its operands alone -/
theorem pureV_congr {P : Program} {ρ ρ' : Operand → EV} {lL : Nat → Option (List AV)} {H : List (List AV)} (op : Op) (h : ∀ x ∈ op.operands.toList, ρ x = ρ' x) : pureV P ρ lL H op = pureV P ρ' lL H op := by
  cases op
  case move x => simp only [Op.operands] at h; simp only [pureV, h x (by simp)]
  case assign x => simp only [Op.operands] at h; simp only [pureV, h x (by simp)]
  case pick c a b => simp only [Op.operands] at h; simp only [pureV, h c (by simp), h a (by simp), h b (by simp)]
  case load t x => simp only [Op.operands] at h; simp only [pureV, h x (by simp)]
  case nilCheck x => simp only [Op.operands] at h; simp only [pureV, h x (by simp)]
  case binOp op t x y t' => simp only [Op.operands] at h; simp only [pureV, h x (by simp), h y (by simp)]
  case unOp op t x => simp only [Op.operands] at h; simp only [pureV, h x (by simp)]
  case convert s t x => simp only [Op.operands] at h; simp only [pureV, h x (by simp)]
  case fieldAddr t x i => simp only [Op.operands] at h; simp only [pureV, h x (by simp)]
  case field t x i => simp only [Op.operands] at h; simp only [pureV, h x (by simp)]
  case indexAddr t x i => simp only [Op.operands] at h; simp only [pureV, h x (by simp), h i (by simp)]
  case slice t x lo hi mx =>
    simp only [Op.operands] at h
    have hx := h x (by simp)
    have hl : ∀ o, lo = some o → ρ o = ρ' o := fun o ho => h o (by simp [ho])
    have hh : ∀ o, hi = some o → ρ o = ρ' o := fun o ho => h o (by simp [ho])
    have h1 : ∀ d, bndI ρ d lo = bndI ρ' d lo := fun d => by cases lo with | none => rfl | some o => simp only [bndI, hl o rfl]
    have h2 : ∀ d, bndI ρ d hi = bndI ρ' d hi := fun d => by cases hi with | none => rfl | some o => simp only [bndI, hh o rfl]
    cases mx <;> simp only [pureV, hx, h1, h2]
  case index t x i => simp only [Op.operands] at h; simp only [pureV, h x (by simp), h i (by simp)]
  case extract x i => simp only [Op.operands] at h; simp only [pureV, h x (by simp)]
  case build t ps =>
    simp only [Op.operands] at h
    simp only [pureV, buildV]
    rw [List.map_congr_left (g := fun p : Nat × Operand => (p.1, (ρ' p.2).asV))]
    intro p hp
    simp only [h p.2 (by simp only [List.mem_map]; exact ⟨p, hp, rfl⟩)]
  case makeFunc f first caps =>
    cases f <;> simp only [pureV]
    simp only [Op.operands] at h
    rw [List.map_congr_left (l := first.toList) (g := fun x => (ρ' x).asV) (fun x hx => by rw [h x (by simp; exact .inl (by simpa using hx))]),
      List.map_congr_left (l := caps.toList) (g := fun x => (ρ' x).asV) (fun x hx => by rw [h x (by simp; exact .inr (by simpa using hx))])]
  case call c =>
    obtain ⟨callee, args, ts⟩ := c
    cases callee with
    | value f => simp only [pureV]
    | invoke r m => simp only [pureV]
    | builtin b =>
      have ha : ∀ x ∈ args.toList, ρ x = ρ' x := fun x hx => h x (by simp [Op.operands, Call.operands]; simpa using hx)
      cases b <;> simp only [pureV]
      case len =>
        split
        · rename_i he _; rw [ha _ (by rw [he]; simp)]
        · rename_i he _; rw [ha _ (by rw [he]; simp)]
        · rfl
      case min => rw [List.map_congr_left (g := fun x => (ρ' x).asI) (fun x hx => by rw [ha x hx])]
      case max => rw [List.map_congr_left (g := fun x => (ρ' x).asI) (fun x hx => by rw [ha x hx])]
  all_goals simp only [pureV]

theorem argsX_congr {ρ ρ' : Operand → EV} {xs : List Operand} (h : ∀ x ∈ xs, ρ x = ρ' x) : argsX ρ xs = argsX ρ' xs := by
  simp only [argsX]
  rw [List.map_congr_left (g := fun x => (ρ' x).asV) (fun x hx => by rw [h x hx])]

theorem newX_mono {cfg : Cfg} {NL NL' : Nat → Prop} {H : List (List AV)} {dst : Option Tmp} {cs : List AV} {K K' : Eff → Prop} (hN : ∀ d, dst = some d → NL d → NL' d) (hK : ∀ e, K e → K' e) (hx : newX cfg NL H dst cs K) : newX cfg NL' H dst cs K' := by
  unfold newX at *
  cases dst with
  | none => exact hx
  | some d =>
    dsimp only at hx ⊢
    split at hx
    · rename_i he; simp only [he, if_true]; exact hK _ hx
    · rename_i he; simp only [he, if_false]; exact ⟨hN d rfl hx.1, hK _ hx.2⟩
theorem storeX_mono {cfg : Cfg} {lL : Nat → Option (List AV)} {H : List (List AV)} {x : EV} {vs : List AV} {K K' : Eff → Prop} (hK : ∀ e, K e → K' e) (hx : storeX cfg lL H x vs K) : storeX cfg lL H x vs K' := by
  unfold storeX at *
  split at hx
  · split at hx
    · rename_i h; (try rw [h]); exact ⟨hx.1, hK _ hx.2⟩
    · exact hx.elim
  · split at hx
    · rename_i h; (try rw [h]); exact ⟨hx.1, hx.2.1, hx.2.2.1, hK _ hx.2.2.2⟩
    · exact hx.elim
  · exact hx.elim
theorem appX_mono {cfg : Cfg} {sz : Nat} {H : List (List AV)} {s : AV} {n : Nat} {xs : List AV} {K K' : Eff → Prop} (hK : ∀ e, K e → K' e) (hx : appX cfg sz H s n xs K) : appX cfg sz H s n xs K' := by
  unfold appX at *
  split at hx
  · exact ⟨hx.1, fun h => hK _ (hx.2.1 h), fun h => hK _ (hx.2.2 h)⟩
  · split at hx
    · rename_i h; (try rw [h]); obtain ⟨h1, h2, h3, h4, h5, h6, h7⟩ := hx; exact ⟨h1, h2, h3, h4, h5, h6, hK _ h7⟩
    · exact hx.elim
  · exact hx.elim
theorem cpyX_mono {cfg : Cfg} {sz : Nat} {H : List (List AV)} {s : AV} {n : Nat} {xs : List AV} {K K' : Eff → Prop} (hK : ∀ e, K e → K' e) (hx : cpyX cfg sz H s n xs K) : cpyX cfg sz H s n xs K' := by
  unfold cpyX at *
  split at hx
  · split at hx
    · rename_i h; (try rw [h]); obtain ⟨h1, h2, h3, h4, h7⟩ := hx; exact ⟨h1, h2, h3, h4, hK _ h7⟩
    · exact hx.elim
  · exact hx.elim

theorem opE_mono {P : Program} {cfg : Cfg} {ρ ρ' : Operand → EV} {NL NL' : Nat → Prop} {lL : Nat → Option (List AV)} {H : List (List AV)} {o : Oper} {K K' : Eff → Prop} (hr : ∀ x ∈ o.op.operands.toList, ρ x = ρ' x) (hN : ∀ d, o.dst = some d → NL d → NL' d)
    (hK : ∀ e, K e → K' e) (hx : opE P cfg ρ NL lL H o K) : opE P cfg ρ' NL' lL H o K' := by
  obtain ⟨dst, op, ty, pos, aft, gd⟩ := o
  dsimp only at hr hN
  have pure : ∀ op', op' = op → (match pureV P ρ lL H op with | some (c, v) => c ∧ K ⟨some v, none, H⟩ | none => False) → (match pureV P ρ' lL H op' with | some (c, v) => c ∧ K' ⟨some v, none, H⟩ | none => False) := by
    rintro op' rfl hh
    rw [← pureV_congr op' hr]
    split at hh
    · rename_i h; exact ⟨hh.1, hK _ hh.2⟩
    · exact hh.elim
  cases op
  case alloc t =>
    unfold opE at hx ⊢
    dsimp only at hx ⊢
    split at hx
    · rename_i h; (try rw [h]); exact newX_mono hN hK hx
    · exact hx.elim
  case box t x =>
    unfold opE at hx ⊢
    dsimp only at hx ⊢
    rw [hr x (by simp [Op.operands])] at hx
    split at hx
    · rename_i h; (try rw [h]); exact newX_mono hN hK hx
    · exact hx.elim
  case store t x v =>
    unfold opE at hx ⊢
    dsimp only at hx ⊢
    rw [hr x (by simp [Op.operands]), hr v (by simp [Op.operands])] at hx
    split at hx
    · rename_i h; (try rw [h]); exact ⟨hx.1, hx.2.1, storeX_mono hK hx.2.2⟩
    · exact hx.elim
  case buildSlice t n ps =>
    unfold opE at hx ⊢
    dsimp only at hx ⊢
    have hm : ps.toList.map (fun p : Nat × Operand => (p.1, (ρ p.2).asV)) = ps.toList.map (fun p => (p.1, (ρ' p.2).asV)) :=
      List.map_congr_left (fun p hp => by rw [hr p.2 (by simp [Op.operands]; exact ⟨p.1, by simpa using hp⟩)])
    rw [hm] at hx
    split at hx
    · rename_i h; (try rw [h])
      (try dsimp only)
      split at hx
      · rename_i h; (try rw [h])
        (try dsimp only)
        refine ⟨hx.1, hx.2.1, hx.2.2.1, ?_⟩
        have := hx.2.2.2
        split at this
        · rename_i h; simp only [h, if_true]; exact hK _ this
        · rename_i h; simp only [h, if_false]; exact hK _ this
      · exact hx.elim
    · exact hx.elim
  case makeSlice t l c =>
    unfold opE at hx ⊢
    dsimp only at hx ⊢
    rw [hr l (by simp [Op.operands]), hr c (by simp [Op.operands])] at hx
    split at hx
    · rename_i h1 h2 h3; (try rw [h1, h2, h3])
      obtain ⟨h1, h2, h3, h4, h5, h6, h7⟩ := hx
      exact ⟨h1, h2, h3, h4, h5, h6, hK _ h7⟩
    · exact hx.elim
  case call c =>
    obtain ⟨callee, args, ts⟩ := c
    cases callee with
    | value f =>
      unfold opE at hx ⊢
      dsimp only at hx ⊢
      rw [hr f (by simp [Op.operands, Call.operands]), argsX_congr (ρ := ρ) (ρ' := ρ') (fun x hx => hr x (by simp [Op.operands, Call.operands]; exact .inr (by simpa using hx)))] at hx
      split at hx
      · rename_i h1 h2; (try rw [h1, h2])
        obtain ⟨r, H', h1, h2, h3⟩ := hx
        exact ⟨r, H', h1, h2, hK _ h3⟩
      · exact hx.elim
    | invoke r m => exact pure _ rfl hx
    | builtin b =>
      have ha : args.toList.map (fun x => (ρ x).asV) = args.toList.map (fun x => (ρ' x).asV) :=
        List.map_congr_left (fun x hx => by rw [hr x (by simp [Op.operands, Call.operands]; simpa using hx)])
      cases b
      case append =>
        unfold opE at hx ⊢
        dsimp only at hx ⊢
        rw [ha] at hx
        split at hx
        · rename_i h1 h2; (try rw [h1, h2])
          (try dsimp only)
          split at hx
          · rename_i h3 h4; (try rw [h3, h4])
            (try dsimp only)
            split at hx
            · rename_i h5; (try rw [h5]); exact ⟨hx.1, hx.2.1, hx.2.2.1, hx.2.2.2.1, appX_mono hK hx.2.2.2.2⟩
            · exact hx.elim
          · exact hx.elim
        · exact hx.elim
      case copy =>
        unfold opE at hx ⊢
        dsimp only at hx ⊢
        rw [ha] at hx
        split at hx
        · rename_i h1 h2; (try rw [h1, h2])
          (try dsimp only)
          split at hx
          · rename_i h3 h4; (try rw [h3, h4])
            (try dsimp only)
            split at hx
            · rename_i h5; (try rw [h5]); exact ⟨hx.1, cpyX_mono hK hx.2⟩
            · exact hx.elim
          · exact hx.elim
        · exact hx.elim
      all_goals exact pure _ rfl hx
  all_goals exact pure _ rfl hx

/-! ### two states that say the same -/
structure Eqv (s t : St) : Prop where
  env : ∀ k, lk s.env k = lk t.env k
  L : ∀ k, lk s.L k = lk t.L k
  H : s.H = t.H
theorem Eqv.refl (s : St) : Eqv s s := ⟨fun _ => rfl, fun _ => rfl, rfl⟩
theorem Eqv.symm {s t : St} (h : Eqv s t) : Eqv t s := ⟨fun k => (h.env k).symm, fun k => (h.L k).symm, h.H.symm⟩
theorem Eqv.trans {s t u : St} (h : Eqv s t) (h' : Eqv t u) : Eqv s u := ⟨fun k => (h.env k).trans (h'.env k), fun k => (h.L k).trans (h'.L k), h.H.trans h'.H⟩
theorem Eqv.ev {s t : St} (h : Eqv s t) : s.ev = t.ev := by
  funext x
  cases x <;> simp only [St.ev]
  rw [h.env]
theorem SRepG.eqv {C : Cx} {s t : St} {a : Act} {w : World} {g : Gh} {lam : Nat → Nat} (h : SRepG C s a w g lam) (he : Eqv s t) : SRepG C t a w g lam := by
  obtain ⟨e', L', H'⟩ := t
  obtain ⟨h1, h2, h3⟩ := he
  dsimp only at h1 h2 h3; subst h3
  exact h.weakEnv (fun k e hk => by rw [h1]; exact hk) (fun k cs hk => by rw [h2]; exact hk)
theorem SRep.eqv {C : Cx} {s t : St} {a : Act} {w : World} (h : SRep C s a w) (he : Eqv s t) : SRep C t a w := by
  obtain ⟨g, lam, h⟩ := h; exact ⟨g, lam, h.eqv he⟩
end Go.Sx
