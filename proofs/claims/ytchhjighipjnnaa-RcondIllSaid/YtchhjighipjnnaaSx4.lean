/- A part of the proofs of this seat: Sx4. No condition is set. -/
import Derived.Test.YtchhjighipjnnaaSx3
set_option linter.unusedVariables false
namespace Go.Sx

theorem CRep_iff {w : World} {g : Gh} : ∀ {cs : List AV} {b o : Nat}, CRep w g cs b o ↔ ∀ (i : Nat) c, cs[i]? = some c → ∃ v, w.cell? ⟨b, o + i, none⟩ = some v ∧ v.oneCell' = true ∧ VRep w g c v
  | [], b, o => by simp [CRep]
  | c :: cs, b, o => by
    rw [CRep, CRep_iff (cs := cs)]
    constructor
    · rintro ⟨h1, h2⟩ i d hi
      cases i with
      | zero => simp at hi; subst hi; simpa using h1
      | succ i => simp at hi; have := h2 i d hi; rwa [show o + 1 + i = o + (i + 1) from by omega] at this
    · intro h
      refine ⟨by simpa using h 0 c (by simp), fun i d hi => ?_⟩
      have := h (i + 1) d (by simpa using hi)
      rwa [show o + (i + 1) = o + 1 + i from by omega] at this

theorem LRep_length {w : World} {g : Gh} : ∀ {cs : List AV} {vs : List Value}, LRep w g cs vs → vs.length = cs.length
  | [], vs, h => by simp [LRep] at h; simp [h]
  | c :: cs, vs, h => by
    simp only [LRep] at h
    obtain ⟨v, rest, rfl, _, h⟩ := h
    simp [LRep_length h]
theorem LRep_iff {w : World} {g : Gh} : ∀ {cs : List AV} {vs : List Value}, LRep w g cs vs ↔ vs.length = cs.length ∧ ∀ (i : Nat) c v, cs[i]? = some c → vs[i]? = some v → VRep w g c v
  | [], vs => by simp [LRep]
  | c :: cs, vs => by
    rw [LRep]
    constructor
    · rintro ⟨v, rest, rfl, h1, h2⟩
      rw [LRep_iff] at h2
      refine ⟨by simp [h2.1], fun i d x hi hx => ?_⟩
      cases i with
      | zero => simp at hi hx; subst hi hx; exact h1
      | succ i => simp at hi hx; exact h2.2 i d x hi hx
    · rintro ⟨hl, h⟩
      cases vs with
      | nil => simp at hl
      | cons v rest =>
        refine ⟨v, rest, rfl, h 0 c v (by simp) (by simp), LRep_iff.2 ⟨by simpa using hl, fun i d x hi hx => h (i + 1) d x (by simpa using hi) (by simpa using hx)⟩⟩

/-! ### what a value leads to is there -/
mutual
theorem VRep.mx {w : World} {g : Gh} {n : Nat} (hn : ∀ id gen p, g.ρ id gen = some p → id < n) : ∀ (a : AV) (v : Value), VRep w g a v → mx a ≤ n
  | .sl tag len cells, v, hv => by
    simp only [VRep] at hv
    simp only [Sx.mx]
    obtain ⟨cap, hc, ⟨rfl, _⟩ | ⟨b, o, h1, h2, h3, h4⟩⟩ := hv
    · simp [mxL]
    · exact CRep.mx hn cells b o h4
  | .slm id gen off len sz, v, hv => by
    simp only [VRep] at hv
    obtain ⟨b, δ, cap, m, h1, _⟩ := hv
    have := hn id gen _ h1
    simp only [Sx.mx]; omega
  | .eptr s off, v, hv => by
    simp only [VRep] at hv
    obtain ⟨b, o, h1, h2⟩ := hv
    simpa [Sx.mx] using SBase.mx hn s b o h2
  | .agg cells, v, hv => by
    simp only [VRep] at hv
    obtain ⟨vs, h1, _, h2⟩ := hv
    simpa [Sx.mx] using LRep.mx hn cells _ h2
  | .tup cells, v, hv => by
    simp only [VRep] at hv
    obtain ⟨vs, h1, h2⟩ := hv
    simpa [Sx.mx] using LRep.mx hn cells _ h2
  | .func f first caps, v, hv => by
    simp only [VRep] at hv
    obtain ⟨fs, cs, h1, h2, h3⟩ := hv
    have a := LRep.mx hn first _ h2
    have b := LRep.mx hn caps _ h3
    simp only [Sx.mx]; omega
  | .junk, _, _ => by simp [Sx.mx]
  | .bool _, _, _ => by simp [Sx.mx]
  | .int _ _, _, _ => by simp [Sx.mx]
  | .flt _, _, _ => by simp [Sx.mx]
  | .fraw _, _, _ => by simp [Sx.mx]
  | .str _, _, _ => by simp [Sx.mx]
  | .slnil, _, _ => by simp [Sx.mx]
  | .raw _, _, _ => by simp [Sx.mx]
theorem SBase.mx {w : World} {g : Gh} {n : Nat} (hn : ∀ id gen p, g.ρ id gen = some p → id < n) : ∀ (a : AV) (b o : Nat), SBase w g a b o → Sx.mx a ≤ n
  | .sl tag len cells, b, o, hv => by
    simp only [SBase] at hv
    simpa [Sx.mx] using CRep.mx hn cells b o hv.2.2
  | .slm id gen off len sz, b, o, hv => by
    simp only [SBase] at hv
    obtain ⟨δ, h1, _⟩ := hv
    have := hn id gen _ h1
    simp only [Sx.mx]; omega
  | .eptr _ _, _, _, hv => by simp [SBase] at hv
  | .agg _, _, _, hv => by simp [SBase] at hv
  | .tup _, _, _, hv => by simp [SBase] at hv
  | .func _ _ _, _, _, hv => by simp [SBase] at hv
  | .junk, _, _, _ => by simp [Sx.mx]
  | .bool _, _, _, _ => by simp [Sx.mx]
  | .int _ _, _, _, _ => by simp [Sx.mx]
  | .flt _, _, _, _ => by simp [Sx.mx]
  | .fraw _, _, _, _ => by simp [Sx.mx]
  | .str _, _, _, _ => by simp [Sx.mx]
  | .slnil, _, _, _ => by simp [Sx.mx]
  | .raw _, _, _, _ => by simp [Sx.mx]
theorem CRep.mx {w : World} {g : Gh} {n : Nat} (hn : ∀ id gen p, g.ρ id gen = some p → id < n) : ∀ (cs : List AV) (b o : Nat), CRep w g cs b o → mxL cs ≤ n
  | [], _, _, _ => by simp [mxL]
  | c :: cs, b, o, hv => by
    simp only [CRep] at hv
    obtain ⟨⟨v, h1, h2, h3⟩, h4⟩ := hv
    have a := VRep.mx hn c v h3
    have b := CRep.mx hn cs b (o + 1) h4
    simp only [mxL]; omega
theorem LRep.mx {w : World} {g : Gh} {n : Nat} (hn : ∀ id gen p, g.ρ id gen = some p → id < n) : ∀ (cs : List AV) (vs : List Value), LRep w g cs vs → mxL cs ≤ n
  | [], _, _ => by simp [mxL]
  | c :: cs, vs, hv => by
    simp only [LRep] at hv
    obtain ⟨v, rest, h1, h2, h3⟩ := hv
    have a := VRep.mx hn c v h2
    have b := LRep.mx hn cs rest h3
    simp only [mxL]; omega
end
theorem WRep.ids {w : World} {g : Gh} {H : List (List AV)} (h : WRep w g H) : ∀ id gen p, g.ρ id gen = some p → id < H.length := by
  intro id gen p hp
  obtain ⟨cs, hc, _⟩ := h.rhoid id gen p hp
  exact (List.getElem?_eq_some_iff.1 hc).1

theorem mxL_append (a b : List AV) : mxL (a ++ b) = max (mxL a) (mxL b) := by
  induction a with
  | nil => simp [mxL]
  | cons c a ih => simp only [List.cons_append, mxL, ih]; omega
theorem mxL_le {cs : List AV} {n : Nat} : mxL cs ≤ n ↔ ∀ (i : Nat) c, cs[i]? = some c → mx c ≤ n := by
  induction cs with
  | nil => simp [mxL]
  | cons c cs ih =>
    simp only [mxL]
    constructor
    · intro h i d hi
      cases i with
      | zero => simp at hi; subst hi; omega
      | succ i => simp at hi; exact ih.1 (by omega) i d hi
    · intro h
      have h0 := h 0 c (by simp)
      have h1 := ih.2 fun i d hi => h (i + 1) d (by simpa using hi)
      omega

theorem sc_length (cs : List AV) (off : Nat) (vs : List AV) : (sc cs off vs).length = cs.length := by
  induction vs generalizing cs off with
  | nil => rfl
  | cons v vs ih => simp [sc, ih]
theorem sc_get (cs : List AV) (off : Nat) (vs : List AV) (i : Nat) (h : off + vs.length ≤ cs.length) :
    (sc cs off vs)[i]? = if off ≤ i ∧ i < off + vs.length then vs[i - off]? else cs[i]? := by
  induction vs generalizing cs off with
  | nil => simp [sc]; omega
  | cons v vs ih =>
    simp only [List.length_cons] at h
    rw [sc, ih _ _ (by simp; omega)]
    by_cases h1 : off + 1 ≤ i ∧ i < off + 1 + vs.length
    · rw [if_pos h1, if_pos (by simp; omega)]
      rw [show i - off = (i - (off + 1)) + 1 from by omega]; simp
    · rw [if_neg h1]
      by_cases h2 : i = off
      · subst h2; rw [if_pos (by simp)]; simp; rw [List.getElem?_set_self (by omega)]
      · rw [List.getElem?_set_ne (Ne.symm h2), if_neg (by simp; omega)]
theorem mxL_sc {cs : List AV} {off : Nat} {vs : List AV} {n : Nat} (h : off + vs.length ≤ cs.length) (hc : mxL cs ≤ n) (hv : mxL vs ≤ n) : mxL (sc cs off vs) ≤ n := by
  rw [mxL_le] at hc hv ⊢
  intro i c hi
  rw [sc_get _ _ _ _ h] at hi
  split at hi
  · exact hv _ _ hi
  · exact hc _ _ hi

theorem gc_get {cs : List AV} {n : Nat} : ∀ {off : Nat} {l : List AV}, gc cs off n = some l → l.length = n ∧ ∀ i, i < n → l[i]? = cs[off + i]? := by
  induction n with
  | zero => intro off l h; simp [gc] at h; subst h; simp
  | succ n ih =>
    intro off l h
    simp only [gc, Option.bind_eq_some_iff, Option.map_eq_some_iff] at h
    obtain ⟨c, hc, r, hr, rfl⟩ := h
    obtain ⟨h1, h2⟩ := ih hr
    refine ⟨by simp [h1], fun i hi => ?_⟩
    cases i with
    | zero => simpa using hc.symm
    | succ i => simpa [show off + (i + 1) = off + 1 + i from by omega] using h2 i (by omega)

theorem CRep_gc {w : World} {g : Gh} {cs : List AV} {b o off n : Nat} {l : List AV} (h : CRep w g cs b o) (hl : gc cs off n = some l) : CRep w g l b (o + off) := by
  rw [CRep_iff] at h ⊢
  intro i c hi
  obtain ⟨h1, h2⟩ := gc_get hl
  have hlt : i < n := by have := (List.getElem?_eq_some_iff.1 hi).1; omega
  rw [h2 i hlt] at hi
  have := h (off + i) c hi
  rwa [show o + (off + i) = o + off + i from by omega] at this

/-! ### worlds -/
theorem bsz_row {w : World} {b : Nat} {c : Array Value} {e : TypeId} {fr : Nat × Nat} (h : w.heap[b]? = some (.cells c e fr)) : bsz w b = some c.size := by simp [bsz, h]
theorem Ext.heap {w w' : World} (g : Gh) (h : w'.heap = w.heap) : Ext w g w' g :=
  ⟨fun _ h => h, fun _ _ => by rw [h], fun _ _ _ h => h, fun b n hb => by unfold Sx.bsz at hb ⊢; rw [h]; exact hb⟩
theorem WRep.heap {w w' : World} {g : Gh} {H : List (List AV)} (hw : WRep w g H) (h : w'.heap = w.heap) : WRep w' g H where
  blk id cs hc := by
    obtain ⟨b, δ, c, e, h1, h2, h3, h4, h5⟩ := hw.blk id cs hc
    exact ⟨b, δ, c, e, h1, by rw [h]; exact h2, h3, CRep.ext (Ext.heap g h) (by rw [h]) h4, h5⟩
  inj := hw.inj
  fzlt b hb := by rw [h]; exact hw.fzlt b hb
  rholt := by rw [h]; exact hw.rholt
  rhoid := hw.rhoid
structure Sames (w w' : World) : Prop where
  os : w'.os = w.os
  output : w'.output = w.output
  tape : w'.tape = w.tape
theorem Since.step {w₀ w w' : World} {g₀ g g' : Gh} {H₀ H H' : List (List AV)} (h : Since w₀ g₀ H₀ w g H) (he : Ext w g w' g')
    (hsz : w.heap.size ≤ w'.heap.size) (hk : ∀ b, b < w.heap.size → ¬ HB g H b → w'.heap[b]? = w.heap[b]?)
    (hf : ∀ a : Addr, a.block < w.heap.size → w'.frozen? a = w.frozen? a)
    (hfz : ∀ b, g'.Fz b → b < w.heap.size → g.Fz b)
    (hhb : ∀ id cs b δ, b < w.heap.size → H'[id]? = some cs → g'.ρ id cs.length = some (b, δ) → ∃ cs₁, H[id]? = some cs₁ ∧ g.ρ id cs₁.length = some (b, δ)) (hl : H.length ≤ H'.length)
    (hs : Sames w w') : Since w₀ g₀ H₀ w' g' H' where
  sz := Nat.le_trans h.sz hsz
  keep b hb hn := by
    rw [hk b (Nat.lt_of_lt_of_le hb h.sz) (fun hc => hn (h.hb b hb hc)), h.keep b hb hn]
  bszk b n hn := he.bsz b n (h.bszk b n hn)
  fro a ha := by rw [hf a (Nat.lt_of_lt_of_le ha h.sz), h.fro a ha]
  fz b hb := he.fz b (h.fz b hb)
  fznew b hb hlt := h.fznew b (hfz b hb (Nat.lt_of_lt_of_le hlt h.sz)) hlt
  rho id gen p hp := he.rho id gen p (h.rho id gen p hp)
  hbi id cs b δ hb h1 h2 := by
    obtain ⟨cs₁, h3, h4⟩ := hhb id cs b δ (Nat.lt_of_lt_of_le hb h.sz) h1 h2
    exact h.hbi id cs₁ b δ hb h3 h4
  len := Nat.le_trans h.len hl
  same := ⟨hs.os.trans h.same.1, hs.output.trans h.same.2.1, hs.tape.trans h.same.2.2⟩
theorem Since.refl {w : World} {g : Gh} {H : List (List AV)} (h : WRep w g H) : Since w g H w g H where
  sz := Nat.le_refl _
  keep _ _ _ := rfl
  bszk _ _ h := h
  fro _ _ := rfl
  fz _ h := h
  fznew _ h _ := h
  rho _ _ _ h := h
  hbi _ cs _ _ _ h1 h2 := ⟨cs, h1, h2⟩
  len := Nat.le_refl _
  same := ⟨rfl, rfl, rfl⟩

/-! ### local boxes -/
structure LRp (n₀ : Nat) (w : World) (g : Gh) (H : List (List AV)) (lam : Nat → Nat) (lL : Nat → Option (List AV)) : Prop where
  box : ∀ key cs, lL key = some cs → ∃ c e, w.heap[lam key]? = some (.cells c e (0, 0)) ∧ cs.length ≤ c.size ∧ CRep w g cs (lam key) 0 ∧
    ¬ g.Fz (lam key) ∧ ¬ HB g H (lam key) ∧ n₀ ≤ lam key
  inj : ∀ key key', lL key ≠ none → lL key' ≠ none → lam key = lam key' → key = key'
def ERep (w : World) (g : Gh) (lam : Nat → Nat) : EV → Value → Prop
  | .val v, x => VRep w g v x
  | .loc key off, x => x = .pointer (some ⟨lam key, off, none⟩)
theorem isU_eq {e : EV} (h : e.isU = true) : e = .val (.tup []) := by
  unfold EV.isU at h; split at h
  · rfl
  · cases h
theorem ERep.ext {w w' : World} {g g' : Gh} {lam : Nat → Nat} (h : Ext w g w' g') : ∀ {e : EV} {x : Value}, ERep w g lam e x → ERep w' g' lam e x
  | .val _, _, hv => VRep.ext h hv
  | .loc _ _, _, hv => hv
theorem LRp.step {n₀ : Nat} {w w' : World} {g g' : Gh} {H H' : List (List AV)} {lam : Nat → Nat} {lL : Nat → Option (List AV)} (h : LRp n₀ w g H lam lL) (he : Ext w g w' g')
    (hk : ∀ b, b < w.heap.size → ¬ HB g H b → w'.heap[b]? = w.heap[b]?) (hfz : ∀ b, g'.Fz b → b < w.heap.size → g.Fz b)
    (hhb : ∀ b, b < w.heap.size → HB g' H' b → HB g H b) : LRp n₀ w' g' H' lam lL where
  box key cs hc := by
    obtain ⟨c, e, h1, h2, h3, h4, h5, h6⟩ := h.box key cs hc
    have hlt : lam key < w.heap.size := (Array.getElem?_eq_some_iff.1 h1).1
    have hh := hk _ hlt h5
    exact ⟨c, e, hh.trans h1, h2, CRep.ext he hh h3, fun hf => h4 (hfz _ hf hlt), fun hb => h5 (hhb _ hlt hb), h6⟩
  inj := h.inj

structure Cx where
  P : Program
  cfg : Cfg
  w₀ : World
  g₀ : Gh
  H₀ : List (List AV)
  N : Nat

structure SRepG (C : Cx) (st : St) (a : Act) (w : World) (g : Gh) (lam : Nat → Nat) : Prop where
  wr : WRep w g st.H
  si : Since C.w₀ C.g₀ C.H₀ w g st.H
  lr : LRp C.w₀.heap.size w g st.H lam (lk st.L)
  env : ∀ t e, lk st.env t = some e → ∃ x, a.tmps[t]? = some x ∧ ERep w g lam e x
  defs : a.defers = []
  size : a.tmps.size = C.N
  n0 : C.cfg.n0 ≤ C.H₀.length
  om : ∀ id cs, id < C.cfg.n0 → st.H[id]? = some cs → mxL cs ≤ C.cfg.n0
def SRep (C : Cx) (st : St) (a : Act) (w : World) : Prop := ∃ g lam, SRepG C st a w g lam

end Go.Sx
