/- A part of the proofs of this seat: SxH. No condition is set. -/
import Derived.Test.YtchhjighipjnnaaSxG
set_option linter.unusedVariables false
set_option linter.unusedSimpArgs false
namespace Go.Sx

/-! ### what a call hands back -/
def All2 (R : AV → AV → Prop) (l l' : List AV) : Prop := l.length = l'.length ∧ ∀ (i : Nat) c c', l[i]? = some c → l'[i]? = some c' → R c c'
/-- a value as it is handed back: what it leads to of the call's own is told as a list that nobody writes any more (or kept: 'keep') -/
def FrR (n₀ : Nat) (keep : List Nat) (H : List (List AV)) : Nat → AV → AV → Prop
  | 0, _, _ => False
  | d + 1, v, v' =>
    (mx v ≤ n₀ ∧ v' = v) ∨ (v = .slnil ∧ v' = .sl none 0 []) ∨ v' = .junk ∨ (∃ b, v = .fraw b ∧ v' = .flt (cn b)) ∨
    (∃ id gen off len sz cs l l', v = .slm id gen off len sz ∧ v' = .sl none len l' ∧ n₀ ≤ id ∧ id ∉ keep ∧ H[id]? = some cs ∧ cs.length = gen ∧ gc cs off (len * sz) = some l ∧ All2 (FrR n₀ keep H d) l l') ∨
    (∃ id gen off len sz cs j, v = .slm id gen off len sz ∧ v' = .slm (n₀ + j) gen off len sz ∧ keep[j]? = some id ∧ H[id]? = some cs ∧ cs.length = gen) ∨
    (∃ id gen off len sz cs j o, v = .eptr (.slm id gen off len sz) o ∧ v' = .eptr (.slm (n₀ + j) gen off len sz) o ∧ keep[j]? = some id ∧ H[id]? = some cs ∧ cs.length = gen) ∨
    (∃ l l', v = .agg l ∧ v' = .agg l' ∧ All2 (FrR n₀ keep H d) l l') ∨
    (∃ l l', v = .tup l ∧ v' = .tup l' ∧ All2 (FrR n₀ keep H d) l l')
def Fr (n₀ : Nat) (keep : List Nat) (H : List (List AV)) (v v' : AV) : Prop := ∃ d, FrR n₀ keep H d v v'
def Frs (n₀ : Nat) (keep : List Nat) (H : List (List AV)) (l l' : List AV) : Prop := ∃ d, All2 (FrR n₀ keep H d) l l'

section
variable {n₀ : Nat} {keep : List Nat} {H : List (List AV)}
theorem FrR.mono : ∀ {d : Nat} {v v' : AV}, FrR n₀ keep H d v v' → FrR n₀ keep H (d + 1) v v'
  | 0, _, _, h => h.elim
  | d + 1, v, v', h => by
    have hm : ∀ {l l'}, All2 (FrR n₀ keep H d) l l' → All2 (FrR n₀ keep H (d + 1)) l l' := fun h => ⟨h.1, fun i c c' h1 h2 => FrR.mono (h.2 i c c' h1 h2)⟩
    unfold FrR at h ⊢
    rcases h with h | h | h | h | ⟨id, gen, off, len, sz, cs, l, l', h1, h2, h3, h4, h5, h6, h7, h8⟩ | h | h | ⟨l, l', h1, h2, h3⟩ | ⟨l, l', h1, h2, h3⟩
    · exact .inl h
    · exact .inr (.inl h)
    · exact .inr (.inr (.inl h))
    · exact .inr (.inr (.inr (.inl h)))
    · exact .inr (.inr (.inr (.inr (.inl ⟨id, gen, off, len, sz, cs, l, l', h1, h2, h3, h4, h5, h6, h7, hm h8⟩))))
    · exact .inr (.inr (.inr (.inr (.inr (.inl h)))))
    · exact .inr (.inr (.inr (.inr (.inr (.inr (.inl h))))))
    · exact .inr (.inr (.inr (.inr (.inr (.inr (.inr (.inl ⟨l, l', h1, h2, hm h3⟩)))))))
    · exact .inr (.inr (.inr (.inr (.inr (.inr (.inr (.inr ⟨l, l', h1, h2, hm h3⟩)))))))
theorem FrR.le {d e : Nat} (hde : d ≤ e) {v v' : AV} (h : FrR n₀ keep H d v v') : FrR n₀ keep H e v v' := by
  induction hde with
  | refl => exact h
  | step _ ih => exact ih.mono
theorem Fr.old {v : AV} (h : mx v ≤ n₀) : Fr n₀ keep H v v := ⟨1, .inl ⟨h, rfl⟩⟩
theorem Fr.nil : Fr n₀ keep H .slnil (.sl none 0 []) := ⟨1, .inr (.inl ⟨rfl, rfl⟩)⟩
theorem Fr.junk (v : AV) : Fr n₀ keep H v .junk := ⟨1, .inr (.inr (.inl rfl))⟩
theorem Fr.raw (b : Nat) : Fr n₀ keep H (.fraw b) (.flt (cn b)) := ⟨1, .inr (.inr (.inr (.inl ⟨b, rfl, rfl⟩)))⟩
theorem Fr.fz {id gen off len sz : Nat} {cs l l' : List AV} (h1 : n₀ ≤ id) (h2 : id ∉ keep) (h3 : H[id]? = some cs) (h4 : cs.length = gen) (h5 : gc cs off (len * sz) = some l) (h6 : Frs n₀ keep H l l') :
    Fr n₀ keep H (.slm id gen off len sz) (.sl none len l') := by
  obtain ⟨d, h6⟩ := h6
  exact ⟨d + 1, .inr (.inr (.inr (.inr (.inl ⟨id, gen, off, len, sz, cs, l, l', rfl, rfl, h1, h2, h3, h4, h5, h6⟩))))⟩
theorem Fr.kp {id gen off len sz j : Nat} {cs : List AV} (h1 : keep[j]? = some id) (h2 : H[id]? = some cs) (h3 : cs.length = gen) : Fr n₀ keep H (.slm id gen off len sz) (.slm (n₀ + j) gen off len sz) :=
  ⟨1, .inr (.inr (.inr (.inr (.inr (.inl ⟨id, gen, off, len, sz, cs, j, rfl, rfl, h1, h2, h3⟩)))))⟩
theorem Fr.kpp {id gen off len sz j o : Nat} {cs : List AV} (h1 : keep[j]? = some id) (h2 : H[id]? = some cs) (h3 : cs.length = gen) : Fr n₀ keep H (.eptr (.slm id gen off len sz) o) (.eptr (.slm (n₀ + j) gen off len sz) o) :=
  ⟨1, .inr (.inr (.inr (.inr (.inr (.inr (.inl ⟨id, gen, off, len, sz, cs, j, o, rfl, rfl, h1, h2, h3⟩))))))⟩
theorem Fr.agg {l l' : List AV} (h : Frs n₀ keep H l l') : Fr n₀ keep H (.agg l) (.agg l') := by
  obtain ⟨d, h⟩ := h
  exact ⟨d + 1, .inr (.inr (.inr (.inr (.inr (.inr (.inr (.inl ⟨l, l', rfl, rfl, h⟩)))))))⟩
theorem Fr.tup {l l' : List AV} (h : Frs n₀ keep H l l') : Fr n₀ keep H (.tup l) (.tup l') := by
  obtain ⟨d, h⟩ := h
  exact ⟨d + 1, .inr (.inr (.inr (.inr (.inr (.inr (.inr (.inr ⟨l, l', rfl, rfl, h⟩)))))))⟩
theorem Frs.nil : Frs n₀ keep H [] [] := ⟨0, rfl, fun i c c' h => by simp at h⟩
theorem Frs.cons {v v' : AV} {l l' : List AV} (h : Fr n₀ keep H v v') (k : Frs n₀ keep H l l') : Frs n₀ keep H (v :: l) (v' :: l') := by
  obtain ⟨d, h⟩ := h
  obtain ⟨e, k⟩ := k
  refine ⟨max d e, by simp [k.1], fun i c c' h1 h2 => ?_⟩
  cases i with
  | zero => simp at h1 h2; subst h1 h2; exact h.le (Nat.le_max_left _ _)
  | succ i => simp at h1 h2; exact (k.2 i c c' h1 h2).le (Nat.le_max_right _ _)
theorem Frs.old {l : List AV} (h : mxL l ≤ n₀) : Frs n₀ keep H l l := by
  refine ⟨1, rfl, fun i c c' h1 h2 => ?_⟩
  rw [h1] at h2; simp only [Option.some.injEq] at h2; subst h2
  exact .inl ⟨mxL_le.1 h i c h1, rfl⟩
end

def frG (g : Gh) (n₀ : Nat) (keep : List Nat) (H : List (List AV)) : Gh where
  ρ id gen := if id < n₀ then g.ρ id gen else
    match keep[id - n₀]? with
    | some k => if (H[k]?).map List.length = some gen then g.ρ k gen else none
    | none => none
  Fz b := g.Fz b ∨ ∃ id cs δ, n₀ ≤ id ∧ id ∉ keep ∧ H[id]? = some cs ∧ g.ρ id cs.length = some (b, δ)
def frH (n₀ : Nat) (keep : List Nat) (H : List (List AV)) : List (List AV) := H.take n₀ ++ keep.map fun k => (H[k]?).getD []

theorem frG_ext {w : World} {g : Gh} {n₀ : Nat} {keep : List Nat} {H : List (List AV)} : ExtN n₀ w g w (frG g n₀ keep H) where
  fz b hb := .inl hb
  fzw _ _ := rfl
  rho id gen p hid hp := by simp only [frG, if_pos hid]; exact hp
  bsz _ _ h := h

theorem Fr_rep {w : World} {g : Gh} {n₀ : Nat} {keep : List Nat} {H : List (List AV)} (hw : WRep w g H) (hk : ∀ k ∈ keep, n₀ ≤ k) :
    ∀ (d : Nat) (v v' : AV) (x : Value), FrR n₀ keep H d v v' → VRep w g v x → VRep w (frG g n₀ keep H) v' x
  | 0, _, _, _, h, _ => h.elim
  | d + 1, v, v', x, h, hv => by
    have ih := Fr_rep hw hk d
    have ihL : ∀ {l l' : List AV} {vs : List Value}, All2 (FrR n₀ keep H d) l l' → LRep w g l vs → LRep w (frG g n₀ keep H) l' vs := by
      intro l l' vs ha hl
      rw [LRep_iff] at hl ⊢
      refine ⟨by rw [hl.1, ha.1], fun i c x h1 h2 => ?_⟩
      have hlt : i < l.length := by rw [ha.1]; exact (List.getElem?_eq_some_iff.1 h1).1
      exact ih l[i] c x (ha.2 i l[i] c (by simp [hlt]) h1) (hl.2 i l[i] x (by simp [hlt]) h2)
    have ihC : ∀ {l l' : List AV} {b o : Nat}, All2 (FrR n₀ keep H d) l l' → CRep w g l b o → CRep w (frG g n₀ keep H) l' b o := by
      intro l l' b o ha hl
      rw [CRep_iff] at hl ⊢
      intro i c h1
      have hlt : i < l.length := by rw [ha.1]; exact (List.getElem?_eq_some_iff.1 h1).1
      obtain ⟨x, j1, j2, j3⟩ := hl i l[i] (by simp [hlt])
      exact ⟨x, j1, j2, ih l[i] c x (ha.2 i l[i] c (by simp [hlt]) h1) j3⟩
    unfold FrR at h
    rcases h with ⟨h1, rfl⟩ | ⟨rfl, rfl⟩ | rfl | ⟨b, rfl, rfl⟩ | ⟨id, gen, off, len, sz, cs, l, l', rfl, rfl, h3, h4, h5, h6, h7, h8⟩ | ⟨id, gen, off, len, sz, cs, j, rfl, rfl, h1, h2, h3⟩ | ⟨id, gen, off, len, sz, cs, j, o, rfl, rfl, h1, h2, h3⟩ | ⟨l, l', rfl, rfl, h3⟩ | ⟨l, l', rfl, rfl, h3⟩
    · exact VRep.extN frG_ext _ _ h1 hv
    · simp only [VRep] at hv ⊢
      exact ⟨0, Nat.le_refl _, .inl ⟨by simp, by simp, by simp, none, hv⟩⟩
    · simp [VRep]
    · simp only [VRep] at hv ⊢
      exact ⟨b, hv.1, hv.2, rfl⟩
    · simp only [VRep] at hv ⊢
      obtain ⟨b, δ, cap, m, k1, k2, k3, k4, k5, k6⟩ := hv
      rw [← h6] at k1
      obtain ⟨b', δ', c, e, q1, q2, q3, q4, q5, q6⟩ := hw.blk id cs h5
      rw [k1] at q1; simp only [Option.some.injEq, Prod.mk.injEq] at q1; obtain ⟨rfl, rfl⟩ := q1
      exact ⟨cap, k3, .inr ⟨b, δ + off, k2, by simp, .inr ⟨id, cs, δ, h3, h4, h5, k1⟩, ihC h8 (CRep_gc q4 h7)⟩⟩
    · simp only [VRep] at hv ⊢
      obtain ⟨b, δ, cap, m, k1, k2, k3, k4, k5, k6⟩ := hv
      refine ⟨b, δ, cap, m, ?_, k2, k3, k4, k5, k6⟩
      simp only [frG]
      rw [if_neg (by omega), show n₀ + j - n₀ = j from by omega, h1]
      simp [h2, h3, k1]
    · simp only [VRep, SBase] at hv ⊢
      obtain ⟨b, o', k1, δ, k2, k3⟩ := hv
      refine ⟨b, o', k1, δ, ?_, k3⟩
      simp only [frG]
      rw [if_neg (by omega), show n₀ + j - n₀ = j from by omega, h1]
      simp [h2, h3, k2]
    · simp only [VRep] at hv ⊢
      obtain ⟨vs, k1, k2, k3⟩ := hv
      exact ⟨vs, k1, k2, ihL h3 k3⟩
    · simp only [VRep] at hv ⊢
      obtain ⟨vs, k1, k2⟩ := hv
      exact ⟨vs, k1, ihL h3 k2⟩

theorem fr_world {w₀ w : World} {g₀ g : Gh} {H₀ H : List (List AV)} {keep : List Nat} (hw₀ : WRep w₀ g₀ H₀) (hw : WRep w g H) (hs : Since w₀ g₀ H₀ w g H) (hom : ∀ id cs, id < H₀.length → H[id]? = some cs → mxL cs ≤ H₀.length) (hnd : keep.Nodup)
    (hk : ∀ k ∈ keep, H₀.length ≤ k ∧ ∃ cs, H[k]? = some cs ∧ mxL cs ≤ H₀.length) :
    WRep w (frG g H₀.length keep H) (frH H₀.length keep H) ∧ Since w₀ g₀ H₀ w (frG g H₀.length keep H) (frH H₀.length keep H) := by
  have hlen : H₀.length ≤ H.length := hs.len
  have htl : (H.take H₀.length).length = H₀.length := by simp; omega
  have hget : ∀ id cs, (frH H₀.length keep H)[id]? = some cs → (id < H₀.length ∧ H[id]? = some cs) ∨ (H₀.length ≤ id ∧ ∃ k, keep[id - H₀.length]? = some k ∧ H[k]? = some cs) := by
    intro id cs hc
    unfold frH at hc
    by_cases hid : id < H₀.length
    · rw [List.getElem?_append_left (by rw [htl]; exact hid), List.getElem?_take, if_pos hid] at hc
      exact .inl ⟨hid, hc⟩
    · rw [List.getElem?_append_right (by rw [htl]; omega), htl, List.getElem?_map, Option.map_eq_some_iff] at hc
      obtain ⟨k, h1, h2⟩ := hc
      obtain ⟨_, cs', h3, _⟩ := hk k (List.mem_of_getElem? h1)
      rw [h3] at h2; simp only [Option.getD_some] at h2; subst h2
      exact .inr ⟨by omega, k, h1, h3⟩
  have hrho : ∀ id cs, (frH H₀.length keep H)[id]? = some cs → ∃ k, H[k]? = some cs ∧ (frG g H₀.length keep H).ρ id cs.length = g.ρ k cs.length ∧ ((id < H₀.length ∧ k = id) ∨ (H₀.length ≤ id ∧ keep[id - H₀.length]? = some k ∧ H₀.length ≤ k)) ∧ mxL cs ≤ H₀.length := by
    intro id cs hc
    rcases hget id cs hc with ⟨hid, hc⟩ | ⟨hid, k, h1, h2⟩
    · exact ⟨id, hc, by simp only [frG, if_pos hid], .inl ⟨hid, rfl⟩, hom id cs hid hc⟩
    · obtain ⟨h3, cs', h4, h5⟩ := hk k (List.mem_of_getElem? h1)
      rw [h2] at h4; simp only [Option.some.injEq] at h4; subst h4
      refine ⟨k, h2, ?_, .inr ⟨hid, h1, h3⟩, h5⟩
      simp only [frG]
      rw [if_neg (by omega), h1]
      simp [h2]
  have hnf : ∀ k cs b δ, H[k]? = some cs → g.ρ k cs.length = some (b, δ) → (k < H₀.length ∨ k ∈ keep) → ¬ (frG g H₀.length keep H).Fz b := by
    rintro k cs b δ hc hp hkk (hf | ⟨id, cs', δ', h1, h2, h3, h4⟩)
    · obtain ⟨b', δ', c, e, q1, q2, q3, q4, q5, q6⟩ := hw.blk k cs hc
      rw [hp] at q1; simp only [Option.some.injEq, Prod.mk.injEq] at q1; obtain ⟨rfl, rfl⟩ := q1
      exact q5 hf
    · have := hw.inj k id cs cs' b δ δ' hc h3 hp h4
      subst this
      rcases hkk with h | h
      · omega
      · exact h2 h
  have hfl : (frH H₀.length keep H).length = H₀.length + keep.length := by simp [frH]; omega
  refine ⟨⟨fun id cs hc => ?_, fun i j cs₁ cs₂ b δ₁ δ₂ h1 h2 h3 h4 => ?_, fun b hb => ?_, fun id gen b δ hp => ?_, fun id gen p hp => ?_⟩, ?_⟩
  · obtain ⟨k, h1, h2, h3, h4⟩ := hrho id cs hc
    obtain ⟨b, δ, c, e, q1, q2, q3, q4, q5, q6⟩ := hw.blk k cs h1
    refine ⟨b, δ, c, e, by rw [h2]; exact q1, q2, q3, CRep.extN frG_ext cs b δ h4 rfl q4, hnf k cs b δ h1 q1 ?_, by omega⟩
    rcases h3 with ⟨h, rfl⟩ | ⟨_, h, _⟩
    · exact .inl h
    · exact .inr (List.mem_of_getElem? h)
  · obtain ⟨k, p1, p2, p3, _⟩ := hrho i cs₁ h1
    obtain ⟨k', r1, r2, r3, _⟩ := hrho j cs₂ h2
    rw [p2] at h3; rw [r2] at h4
    have hkk := hw.inj k k' cs₁ cs₂ b δ₁ δ₂ p1 r1 h3 h4
    subst hkk
    rcases p3 with ⟨a1, a2⟩ | ⟨a1, a2, a3⟩ <;> rcases r3 with ⟨b1, b2⟩ | ⟨b1, b2, b3⟩
    · omega
    · omega
    · omega
    · have hi := (List.getElem?_eq_some_iff.1 a2).1
      have hj := (List.getElem?_eq_some_iff.1 b2).1
      have hp := List.pairwise_iff_getElem.1 hnd
      obtain ⟨_, e1⟩ := List.getElem?_eq_some_iff.1 a2
      obtain ⟨_, e2⟩ := List.getElem?_eq_some_iff.1 b2
      rcases Nat.lt_trichotomy i j with h | h | h
      · exact absurd (e1.trans e2.symm) (hp _ _ hi hj (by omega))
      · exact h
      · exact absurd (e2.trans e1.symm) (hp _ _ hj hi (by omega))
  · rcases hb with hb | ⟨id, cs, δ, _, _, h3, h4⟩
    · exact hw.fzlt b hb
    · exact hw.rholt _ _ _ _ h4
  · simp only [frG] at hp
    split at hp
    · exact hw.rholt _ _ _ _ hp
    · split at hp
      · split at hp
        · exact hw.rholt _ _ _ _ hp
        · simp at hp
      · simp at hp
  · simp only [frG] at hp
    split at hp
    · rename_i hid
      obtain ⟨cs, h1, h2⟩ := hw.rhoid _ _ _ hp
      exact ⟨cs, by unfold frH; rw [List.getElem?_append_left (by rw [htl]; exact hid), List.getElem?_take, if_pos hid]; exact h1, h2⟩
    · rename_i hid
      split at hp
      · rename_i k hkj
        split at hp
        · rename_i hg
          obtain ⟨_, cs, h1, _⟩ := hk k (List.mem_of_getElem? hkj)
          rw [h1] at hg; simp only [Option.map_some, Option.some.injEq] at hg
          refine ⟨cs, ?_, by omega⟩
          unfold frH
          rw [List.getElem?_append_right (by rw [htl]; omega), htl, List.getElem?_map, hkj]
          simp [h1]
        · simp at hp
      · simp at hp
  · refine ⟨hs.sz, hs.keep, hs.bszk, hs.fro, fun b hb => .inl (hs.fz b hb), fun b hb hlt => ?_, fun id gen p hp => ?_, fun id cs b δ hlt hc hp => ?_, by rw [hfl]; omega, hs.same⟩
    · rcases hb with hb | ⟨id, cs, δ, h1, _, h3, h4⟩
      · exact hs.fznew b hb hlt
      · obtain ⟨cs₀, h5, _⟩ := hs.hbi id cs b δ hlt h3 h4
        have := (List.getElem?_eq_some_iff.1 h5).1
        omega
    · have h1 := hs.rho id gen p hp
      obtain ⟨cs, h2, _⟩ := hw.rhoid _ _ _ h1
      have hid : id < H₀.length := hw₀.ids _ _ _ hp
      simp only [frG, if_pos hid]; exact h1
    · obtain ⟨k, h1, h2, h3, _⟩ := hrho id cs hc
      rw [h2] at hp
      obtain ⟨cs₀, h5, h6⟩ := hs.hbi k cs b δ hlt h1 hp
      have hkl := (List.getElem?_eq_some_iff.1 h5).1
      rcases h3 with ⟨_, rfl⟩ | ⟨_, _, h⟩
      · exact ⟨cs₀, h5, h6⟩
      · omega

def resV (P : Program) (st : St) : ResultVar → Option AV
  | .tmp t => (st.ev (.tmp t)).asV
  | .cell x t =>
    match pureV P st.ev (lk st.L) st.H (.load t (.tmp x)) with
    | some (_, .val v) => some v
    | _ => none
def resOne : List AV → AV
  | [v] => v
  | vs => .tup vs

/-- THE END OF A BODY: what is handed back, and what of memory is kept -/
def RetQ (P : Program) (fn : Func) (H₀ : List (List AV)) (r : AV) (H' : List (List AV)) : XE → St → Prop := fun e st =>
  (match e with | .exit _ => False | _ => True) ∧ ∃ vs keep, (fn.results.toList.map (resV P st)).mapM id = some vs ∧ keep.Nodup ∧
    (∀ k ∈ keep, H₀.length ≤ k ∧ ∃ cs, st.H[k]? = some cs ∧ mxL cs ≤ H₀.length) ∧ frH H₀.length keep st.H = H' ∧ Fr H₀.length keep st.H (resOne vs) r

def argE : Nat → List AV → List (Nat × EV)
  | _, [] => []
  | i, v :: vs => (i, .val v) :: argE (i + 1) vs

def resF (a : Act) (r : ResultVar) : Sem Value :=
  match r with
  | .tmp t => Pure.pure (a.tmps.getD t undef)
  | .cell x t => do loadVar t (← asAddr (a.tmps.getD x undef))
theorem res_run {C : Cx} {st : St} {a : Act} {w : World} {g : Gh} {lam : Nat → Nat} (h : SRepG C st a w g lam) : ∀ (rs : List ResultVar) (vs : List AV), (rs.map (resV C.P st)).mapM id = some vs →
    ∃ xs : List Value, (rs.mapM (resF a)).run C.P w = .ok xs w ∧ LRep w g vs xs
  | [], vs, hv => by simp at hv; subst hv; exact ⟨[], rfl, by simp [LRep]⟩
  | r :: rs, vs, hv => by
    have hm := mapM_id hv
    cases vs with
    | nil => simp at hm
    | cons v vs =>
      simp only [List.map_cons, List.cons.injEq] at hm
      obtain ⟨hr, hm⟩ := hm
      have hv' : (rs.map (resV C.P st)).mapM id = some vs := by
        simp only [List.map_cons, List.mapM_cons, id_eq, hr, Option.bind_eq_bind, Option.bind_some, Option.bind_eq_some_iff, Option.pure_def, Option.some.injEq, List.cons.injEq, true_and] at hv
        obtain ⟨y, h1, rfl⟩ := hv
        exact h1
      obtain ⟨xs, h1, h2⟩ := res_run h rs vs hv'
      have one : ∃ x, (resF a r).run C.P w = .ok x w ∧ VRep w g v x := by
        cases r with
        | tmp t => exact ⟨a.tmps.getD t undef, rfl, h.evV (asV_eq hr)⟩
        | cell y t =>
          simp only [resV] at hr
          split at hr
          · rename_i c v' hp
            simp only [Option.some.injEq] at hr; subst hr
            simp only [pureV] at hp
            split at hp
            · rename_i key off he
              simp only [Option.bind_eq_some_iff, Option.map_eq_some_iff, Prod.mk.injEq] at hp
              obtain ⟨cs, h1, n, h2, l, h3, v'', h4, rfl, hq⟩ := hp
              simp only [EV.val.injEq] at hq; subst hq
              obtain ⟨c', e', k1, k2, k3, k4⟩ := h.lr.box key cs h1
              have hl := CRep_gc k3 h3
              rw [Nat.zero_add] at hl
              have hx : a.tmps.getD y undef = .pointer (some ⟨lam key, off, none⟩) := h.evL he
              have hagg := ld_same (P := C.P) h2 (gc_get h3).1 hl h4
              obtain ⟨x, j1, j2⟩ := hagg
              exact ⟨x, by simp only [resF, hx, asAddr, Sem.run_bind, Sem.run_pure, Result.andThen_ok, j1], j2⟩
            · rename_i s off he
              simp only [Option.bind_eq_some_iff, Option.map_eq_some_iff, Prod.mk.injEq] at hp
              obtain ⟨n, h2, l, h3, v'', h4, rfl, hq⟩ := hp
              simp only [EV.val.injEq] at hq; subst hq
              have hx := h.evV he
              simp only [VRep] at hx
              obtain ⟨b, o', hx, hs⟩ := hx
              obtain ⟨k1, k2⟩ := sread_rep h.wr hs h3
              obtain ⟨x, j1, j2⟩ := ld_same (P := C.P) h2 k2 k1 h4
              have hx' : a.tmps.getD y undef = .pointer (some ⟨b, o' + off, none⟩) := hx
              exact ⟨x, by simp only [resF, hx', asAddr, Sem.run_bind, Sem.run_pure, Result.andThen_ok, j1], j2⟩
            · simp at hp
          · simp at hr
      obtain ⟨x, j1, j2⟩ := one
      refine ⟨x :: xs, ?_, by simp only [LRep]; exact ⟨x, xs, rfl, j2, h2⟩⟩
      simp only [List.mapM_cons, Sem.run_bind, j1, Result.andThen_ok, h1, Sem.run_pure]
end Go.Sx
