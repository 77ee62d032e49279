/- A part of the proofs of this seat: Sx5. No condition is set. -/
import Derived.Test.YtchhjighipjnnaaSx4
set_option linter.unusedVariables false
namespace Go.Sx

theorem al_new (w : World) (o : Obj) : (w.alloc o).heap[w.heap.size]? = some o := by
  show (w.heap.push o)[w.heap.size]? = some o
  simp
theorem al_old (w : World) (o : Obj) {i : Nat} (h : i < w.heap.size) : (w.alloc o).heap[i]? = w.heap[i]? := by
  show (w.heap.push o)[i]? = w.heap[i]?
  rw [Array.getElem?_push, if_neg (Nat.ne_of_lt h)]
theorem al_size (w : World) (o : Obj) : (w.alloc o).heap.size = w.heap.size + 1 := by
  show (w.heap.push o).size = _
  simp
theorem fro_eq {w w' : World} {a : Addr} (h : w'.heap[a.block]? = w.heap[a.block]?) : w'.frozen? a = w.frozen? a := by
  simp only [World.frozen?, h]
theorem bsz_lt {w : World} {b n : Nat} (h : bsz w b = some n) : b < w.heap.size := by
  unfold bsz at h
  rcases Nat.lt_or_ge b w.heap.size with hl | hl
  · exact hl
  · rw [Array.getElem?_eq_none hl] at h; simp at h
theorem bsz_eq {w w' : World} {b : Nat} (h : w'.heap[b]? = w.heap[b]?) : bsz w' b = bsz w b := by
  unfold bsz; rw [h]
theorem setRow_size (w : World) (b : Nat) (c : Array Value) : (w.setRow b c).heap.size = w.heap.size := by simp [World.setRow]

section
variable {C : Cx} {st : St} {a : Act} {w : World} {g : Gh} {lam : Nat → Nat}

theorem SRepG.lt0 (h : SRepG C st a w g lam) (cs : List AV) (vs : List Value) (hv : LRep w g cs vs) : mxL cs ≤ st.H.length := LRep.mx h.wr.ids cs vs hv

/-- the world turns, blocks and boxes as they were -/
theorem SRepG.still {w' : World} (h : SRepG C st a w g lam) (hh : w'.heap = w.heap) (hs : Sames w w') : SRepG C st a w' g lam where
  wr := h.wr.heap hh
  si := h.si.step (Ext.heap g hh) (by rw [hh]; exact Nat.le_refl _) (fun b _ _ => by rw [hh]) (fun a _ => fro_eq (by rw [hh])) (fun _ h _ => h) (fun _ cs _ _ _ h1 h2 => ⟨cs, h1, h2⟩) (Nat.le_refl _)
    hs
  lr := h.lr.step (Ext.heap g hh) (fun b _ _ => by rw [hh]) (fun _ h _ => h) (fun _ _ h => h)
  env t e he := by obtain ⟨x, h1, h2⟩ := h.env t e he; exact ⟨x, h1, h2.ext (Ext.heap g hh)⟩
  defs := h.defs
  size := h.size
  n0 := h.n0
  om := h.om

theorem SRepG.put (h : SRepG C st a w g lam) {d : Nat} (hd : d < C.N) {e : EV} {v : Value} (hv : ERep w g lam e v) :
    SRepG C { st with env := (d, e) :: st.env } (a.put (some d) v) w g lam where
  wr := h.wr
  si := h.si
  lr := h.lr
  env t e' he := by
    simp only [lk] at he
    by_cases ht : d = t
    · subst ht; simp at he; subst he
      exact ⟨v, by simp [Act.put, h.size, hd], hv⟩
    · simp only [if_neg ht] at he
      obtain ⟨x, h1, h2⟩ := h.env t e' he
      exact ⟨x, by simp [Act.put, ht, h1], h2⟩
  defs := h.defs
  size := by simp [Act.put, h.size]
  n0 := h.n0
  om := h.om

def newG (g : Gh) (id gen b : Nat) : Gh := { g with ρ := fun i n => if i = id ∧ n = gen then some (b, 0) else g.ρ i n }
def movG (g : Gh) (id gen b δ : Nat) : Gh := { g with ρ := fun i n => if i = id ∧ n = gen then some (b, δ) else g.ρ i n }

theorem Ext.alloc {w : World} {g g' : Gh} {H : List (List AV)} (hw : WRep w g H) (o : Obj) (hf : g'.Fz = g.Fz) (hr : ∀ id gen p, g.ρ id gen = some p → g'.ρ id gen = some p) : Ext w g (w.alloc o) g' where
  fz b hb := by rw [hf]; exact hb
  fzw b hb := al_old w o (hw.fzlt b hb)
  rho := hr
  bsz b n hb := by rw [bsz_eq (al_old w o (bsz_lt hb))]; exact hb

/-- cells, value by value -/
def Vals (w : World) (g : Gh) (cs : List AV) (c : Array Value) (o : Nat) : Prop :=
  ∀ (i : Nat) cv, cs[i]? = some cv → ∃ v, c[o + i]? = some v ∧ v.oneCell' = true ∧ VRep w g cv v
theorem Vals.crep {w w' : World} {g g' : Gh} {cs : List AV} {c : Array Value} {o b : Nat} {e : TypeId} {fr : Nat × Nat} (h : Vals w g cs c o) (he : Ext w g w' g')
    (hb : w'.heap[b]? = some (.cells c e fr)) : CRep w' g' cs b o := by
  rw [CRep_iff]
  intro i cv hi
  obtain ⟨v, h1, h2, h3⟩ := h i cv hi
  exact ⟨v, by simp [World.cell?, hb, h1], h2, h3.ext he⟩
theorem Vals.of_crep {w : World} {g : Gh} {cs : List AV} {c : Array Value} {o b : Nat} {e : TypeId} {fr : Nat × Nat} (h : CRep w g cs b o)
    (hb : w.heap[b]? = some (.cells c e fr)) : Vals w g cs c o := by
  rw [CRep_iff] at h
  intro i cv hi
  obtain ⟨v, h1, h2, h3⟩ := h i cv hi
  exact ⟨v, by simpa [World.cell?, hb] using h1, h2, h3⟩
theorem Vals.mx {w : World} {g : Gh} {H : List (List AV)} (hw : WRep w g H) {cs : List AV} {c : Array Value} {o : Nat} (h : Vals w g cs c o) : mxL cs ≤ H.length := by
  rw [mxL_le]
  intro i cv hi
  obtain ⟨v, _, _, h3⟩ := h i cv hi
  exact VRep.mx hw.ids cv v h3

/-- A NEW BLOCK -/
theorem SRepG.newH (h : SRepG C st a w g lam) {cs : List AV} {c : Array Value} {e : TypeId} (hv : Vals w g cs c 0) (hl : cs.length ≤ c.size) :
    SRepG C { st with H := st.H ++ [cs] } a (w.alloc (.cells c e)) (newG g st.H.length cs.length w.heap.size) lam ∧
    Ext w g (w.alloc (.cells c e)) (newG g st.H.length cs.length w.heap.size) := by
  have hw := h.wr
  have hno : ∀ gen p, g.ρ st.H.length gen ≠ some p := fun gen p hp => Nat.lt_irrefl _ (hw.ids _ _ _ hp)
  have hx : Ext w g (w.alloc (.cells c e)) (newG g st.H.length cs.length w.heap.size) := by
    refine Ext.alloc hw _ rfl fun id gen p hp => ?_
    simp only [newG]
    rw [if_neg]
    · exact hp
    · rintro ⟨rfl, _⟩; exact hno _ _ hp
  have hold : ∀ id cs', id < st.H.length → (st.H ++ [cs])[id]? = some cs' → st.H[id]? = some cs' := by
    intro id cs' hid hc; rwa [List.getElem?_append_left hid] at hc
  have hrn : ∀ id gen, id < st.H.length → (newG g st.H.length cs.length w.heap.size).ρ id gen = g.ρ id gen := by
    intro id gen hid; simp only [newG]; rw [if_neg (by omega)]
  have hmx := Vals.mx hw hv
  have hcase : ∀ id cs', (st.H ++ [cs])[id]? = some cs' → (id < st.H.length ∧ st.H[id]? = some cs') ∨ (id = st.H.length ∧ cs' = cs) := by
    intro id cs' hc
    rcases Nat.lt_or_ge id st.H.length with hlt | hge
    · exact .inl ⟨hlt, hold id cs' hlt hc⟩
    · have h1 := (List.getElem?_eq_some_iff.1 hc).1
      have : id = st.H.length := by simp at h1; omega
      subst this
      simp at hc
      exact .inr ⟨rfl, hc.symm⟩
  have hwr : WRep (w.alloc (.cells c e)) (newG g st.H.length cs.length w.heap.size) (st.H ++ [cs]) := by
    refine ⟨fun id cs' hc => ?_, fun id id' cs₁ cs₂ b δ δ' h1 h2 h3 h4 => ?_, fun b hb => ?_, fun id gen b δ hp => ?_, fun id gen p hp => ?_⟩
    · rcases hcase id cs' hc with ⟨hlt, hc⟩ | ⟨rfl, rfl⟩
      · obtain ⟨b, δ, c', e', h1, h2, h3, h4, h5, h6⟩ := hw.blk id cs' hc
        have hb := al_old w (.cells c e) (Array.getElem?_eq_some_iff.1 h2).1
        exact ⟨b, δ, c', e', by rw [hrn _ _ hlt]; exact h1, hb.trans h2, h3, CRep.ext hx hb h4, h5, by simp; omega⟩
      · exact ⟨w.heap.size, 0, c, e, by simp [newG], al_new _ _, by omega, hv.crep hx (al_new _ _), fun hf => Nat.lt_irrefl _ (hw.fzlt _ hf), by simp; omega⟩
    · rcases hcase id cs₁ h1 with ⟨l1, k1⟩ | ⟨rfl, rfl⟩
      · rcases hcase id' cs₂ h2 with ⟨l2, k2⟩ | ⟨rfl, rfl⟩
        · rw [hrn _ _ l1] at h3; rw [hrn _ _ l2] at h4
          exact hw.inj id id' cs₁ cs₂ b δ δ' k1 k2 h3 h4
        · rw [hrn _ _ l1] at h3; simp [newG] at h4
          have := hw.rholt _ _ _ _ h3; omega
      · rcases hcase id' cs₂ h2 with ⟨l2, k2⟩ | ⟨rfl, rfl⟩
        · rw [hrn _ _ l2] at h4; simp [newG] at h3
          have := hw.rholt _ _ _ _ h4; omega
        · rfl
    · rw [al_size]; exact Nat.lt_succ_of_lt (hw.fzlt b hb)
    · rw [al_size]
      simp only [newG] at hp
      split at hp
      · simp at hp; omega
      · exact Nat.lt_succ_of_lt (hw.rholt _ _ _ _ hp)
    · simp only [newG] at hp
      split at hp
      · rename_i hh; obtain ⟨rfl, rfl⟩ := hh; exact ⟨cs, by simp, Nat.le_refl _⟩
      · obtain ⟨cs', k1, k2⟩ := hw.rhoid _ _ _ hp
        exact ⟨cs', by rw [List.getElem?_append_left (List.getElem?_eq_some_iff.1 k1).1]; exact k1, k2⟩
  have hhi : ∀ id cs' b δ, b < w.heap.size → (st.H ++ [cs])[id]? = some cs' → (newG g st.H.length cs.length w.heap.size).ρ id cs'.length = some (b, δ) →
      ∃ cs₁, st.H[id]? = some cs₁ ∧ g.ρ id cs₁.length = some (b, δ) := by
    intro id cs' b δ hb hc hp
    rcases hcase id cs' hc with ⟨hlt, hc⟩ | ⟨rfl, rfl⟩
    · rw [hrn _ _ hlt] at hp; exact ⟨cs', hc, hp⟩
    · simp [newG] at hp; omega
  have hhb : ∀ b, b < w.heap.size → HB (newG g st.H.length cs.length w.heap.size) (st.H ++ [cs]) b → HB g st.H b := by
    rintro b hb ⟨id, cs', δ, hc, hp⟩
    obtain ⟨cs₁, h1, h2⟩ := hhi id cs' b δ hb hc hp
    exact ⟨id, cs₁, δ, h1, h2⟩
  refine ⟨⟨hwr, ?_, ?_, fun t e' he => ?_, h.defs, h.size, h.n0, fun id cs' hid hc => ?_⟩, hx⟩
  · exact h.si.step hx (by rw [al_size]; omega) (fun b hb _ => al_old _ _ hb) (fun a' ha => fro_eq (al_old _ _ ha)) (fun b hb _ => hb) hhi (by simp) ⟨rfl, rfl, rfl⟩
  · exact h.lr.step hx (fun b hb _ => al_old _ _ hb) (fun b hb _ => hb) hhb
  · obtain ⟨x, h1, h2⟩ := h.env t e' he
    exact ⟨x, h1, h2.ext hx⟩
  · rcases hcase id cs' hc with ⟨hlt, hc⟩ | ⟨rfl, rfl⟩
    · exact h.om id cs' hid hc
    · have := h.si.len; have := h.n0; omega

def fzG (g : Gh) (b : Nat) : Gh := { g with Fz := fun k => g.Fz k ∨ k = b }
/-- A NEW BLOCK THAT NOBODY WRITES -/
theorem SRepG.newF (h : SRepG C st a w g lam) (c : Array Value) (e : TypeId) :
    SRepG C st a (w.alloc (.cells c e)) (fzG g w.heap.size) lam ∧ Ext w g (w.alloc (.cells c e)) (fzG g w.heap.size) := by
  have hx : Ext w g (w.alloc (.cells c e)) (fzG g w.heap.size) :=
    ⟨fun b hb => .inl hb, fun b hb => al_old w _ (h.wr.fzlt b hb), fun _ _ _ h => h, fun b n hb => by rw [bsz_eq (al_old w _ (bsz_lt hb))]; exact hb⟩
  have hfz : ∀ b, (fzG g w.heap.size).Fz b → b < w.heap.size → g.Fz b := by
    rintro b (hb | hb) hlt
    · exact hb
    · omega
  have hwr : WRep (w.alloc (.cells c e)) (fzG g w.heap.size) st.H := by
    refine ⟨fun id cs₁ hc => ?_, h.wr.inj, fun b hb => ?_, fun id gen b δ hp => by rw [al_size]; exact Nat.lt_succ_of_lt (h.wr.rholt _ _ _ _ hp), h.wr.rhoid⟩
    · obtain ⟨b, δ, c₂, e₂, k1, k2, k3, k4, k5, k6⟩ := h.wr.blk id cs₁ hc
      have hlt := (Array.getElem?_eq_some_iff.1 k2).1
      have hb := al_old w (.cells c e) hlt
      exact ⟨b, δ, c₂, e₂, k1, hb.trans k2, k3, CRep.ext hx hb k4, fun hf => k5 (hfz b hf hlt), k6⟩
    · rw [al_size]
      rcases hb with hb | hb
      · exact Nat.lt_succ_of_lt (h.wr.fzlt b hb)
      · omega
  refine ⟨⟨hwr, ?_, ?_, fun t e' he => ?_, h.defs, h.size, h.n0, h.om⟩, hx⟩
  · exact h.si.step hx (by rw [al_size]; omega) (fun b hb _ => al_old _ _ hb) (fun a' ha => fro_eq (al_old _ _ ha)) hfz (fun _ cs _ _ _ h1 h2 => ⟨cs, h1, h2⟩) (Nat.le_refl _) ⟨rfl, rfl, rfl⟩
  · exact h.lr.step hx (fun b hb _ => al_old _ _ hb) hfz (fun _ _ hb => hb)
  · obtain ⟨x, h1, h2⟩ := h.env t e' he
    exact ⟨x, h1, h2.ext hx⟩

/-- A BLOCK WHOSE CELLS TURN: in place, or (a slice that grew) in a new place -/
theorem SRepG.repl (h : SRepG C st a w g lam) {id : Nat} {cs cs' : List AV} {b δ : Nat} (hid : st.H[id]? = some cs) (hcur : g.ρ id cs.length = some (b, δ)) (hle : cs.length ≤ cs'.length)
    (hold : C.cfg.n0 ≤ id ∨ mxL cs' ≤ C.cfg.n0)
    {w' : World} {b' δ' : Nat} {c' : Array Value} {e : TypeId} (hsz : w.heap.size ≤ w'.heap.size) (hk : ∀ k, k < w.heap.size → k ≠ b → w'.heap[k]? = w.heap[k]?)
    (hbs : ∀ n, bsz w b = some n → bsz w' b = some n) (hfb : ∀ o, w'.frozen? ⟨b, o, none⟩ = w.frozen? ⟨b, o, none⟩)
    (hs : Sames w w') (hb' : w'.heap[b']? = some (.cells c' e (0, 0))) (hpl : (b' = b ∧ δ' = δ) ∨ (b' = w.heap.size ∧ cs.length < cs'.length))
    (hv : Vals w g cs' c' δ') (hl : δ' + cs'.length ≤ c'.size) (hfs : ∀ a : Addr, a.block = b → w'.frozen? a = w.frozen? a) :
    SRepG C { st with H := st.H.set id cs' } a w' (movG g id cs'.length b' δ') lam ∧ Ext w g w' (movG g id cs'.length b' δ') := by
  have hw := h.wr
  have hidl : id < st.H.length := (List.getElem?_eq_some_iff.1 hid).1
  obtain ⟨b₀, δ₀, c₀, e₀, k1, k2, k3, k4, k5, k6⟩ := hw.blk id cs hid
  rw [hcur] at k1; simp only [Option.some.injEq, Prod.mk.injEq] at k1; obtain ⟨rfl, rfl⟩ := k1
  have hblt : b < w.heap.size := (Array.getElem?_eq_some_iff.1 k2).1
  have hx : Ext w g w' (movG g id cs'.length b' δ') := by
    refine ⟨fun _ h => h, fun k hk' => hk k (hw.fzlt k hk') (fun hh => k5 (hh ▸ hk')), fun i n p hp => ?_, fun k n hn => ?_⟩
    · simp only [movG]
      split
      · rename_i hh
        obtain ⟨rfl, rfl⟩ := hh
        obtain ⟨cs₂, j1, j2⟩ := hw.rhoid _ _ _ hp
        rw [hid] at j1; simp only [Option.some.injEq] at j1; subst j1
        have hlen : cs'.length = cs.length := by omega
        rw [hlen, hcur] at hp
        rcases hpl with ⟨rfl, rfl⟩ | ⟨_, hlt⟩
        · exact hp
        · omega
      · exact hp
    · by_cases hkb : k = b
      · subst hkb; exact hbs n hn
      · rw [bsz_eq (hk k (bsz_lt hn) hkb)]; exact hn
  have hmx := Vals.mx hw hv
  have hget : ∀ j cs₂, (st.H.set id cs')[j]? = some cs₂ → (j = id ∧ cs₂ = cs') ∨ (j ≠ id ∧ st.H[j]? = some cs₂) := by
    intro j cs₂ hj
    by_cases hji : j = id
    · subst hji; rw [List.getElem?_set_self hidl] at hj; simp at hj; exact .inl ⟨rfl, hj.symm⟩
    · rw [List.getElem?_set_ne (Ne.symm hji)] at hj; exact .inr ⟨hji, hj⟩
  have hro : ∀ j n, j ≠ id → (movG g id cs'.length b' δ').ρ j n = g.ρ j n := by
    intro j n hj; simp only [movG]; rw [if_neg (fun hh => hj hh.1)]
  have hnb : ∀ j cs₂ b₂ δ₂, j ≠ id → st.H[j]? = some cs₂ → g.ρ j cs₂.length = some (b₂, δ₂) → b₂ ≠ b := by
    rintro j cs₂ b₂ δ₂ hj hc hp rfl
    exact hj (hw.inj j id cs₂ cs b₂ δ₂ _ hc hid hp hcur)
  have hb'f : ¬ g.Fz b' := by
    rcases hpl with ⟨rfl, _⟩ | ⟨rfl, _⟩
    · exact k5
    · exact fun hf => Nat.lt_irrefl _ (hw.fzlt _ hf)
  have hb'n : ∀ j cs₂ b₂ δ₂, j ≠ id → st.H[j]? = some cs₂ → g.ρ j cs₂.length = some (b₂, δ₂) → b₂ ≠ b' := by
    intro j cs₂ b₂ δ₂ hj hc hp
    rcases hpl with ⟨rfl, _⟩ | ⟨rfl, _⟩
    · exact hnb j cs₂ b₂ δ₂ hj hc hp
    · exact Nat.ne_of_lt (hw.rholt _ _ _ _ hp)
  have hwr : WRep w' (movG g id cs'.length b' δ') (st.H.set id cs') := by
    refine ⟨fun j cs₂ hc => ?_, fun i j cs₁ cs₂ b₂ δ₁ δ₂ h1 h2 h3 h4 => ?_, fun k hk' => Nat.lt_of_lt_of_le (hw.fzlt k hk') hsz, fun i n b₂ δ₂ hp => ?_, fun i n p hp => ?_⟩
    · rcases hget j cs₂ hc with ⟨rfl, rfl⟩ | ⟨hj, hc⟩
      · exact ⟨b', δ', c', e, by simp [movG], hb', hl, hv.crep hx hb', hb'f, by simpa using hmx⟩
      · obtain ⟨b₂, δ₂, c₂, e₂, j1, j2, j3, j4, j5, j6⟩ := hw.blk j cs₂ hc
        have hh := hk b₂ (Array.getElem?_eq_some_iff.1 j2).1 (hnb j cs₂ b₂ δ₂ hj hc j1)
        exact ⟨b₂, δ₂, c₂, e₂, by rw [hro _ _ hj]; exact j1, hh.trans j2, j3, CRep.ext hx hh j4, j5, by simpa using j6⟩
    · rcases hget i cs₁ h1 with ⟨rfl, rfl⟩ | ⟨hi, j1⟩
      · rcases hget j cs₂ h2 with ⟨rfl, rfl⟩ | ⟨hj, j2⟩
        · rfl
        · rw [hro _ _ hj] at h4; simp [movG] at h3
          exact absurd h3.1.symm (hb'n j cs₂ b₂ δ₂ hj j2 h4)
      · rcases hget j cs₂ h2 with ⟨rfl, rfl⟩ | ⟨hj, j2⟩
        · rw [hro _ _ hi] at h3; simp [movG] at h4
          exact absurd h4.1.symm (hb'n i cs₁ b₂ δ₁ hi j1 h3)
        · rw [hro _ _ hi] at h3; rw [hro _ _ hj] at h4
          exact hw.inj i j cs₁ cs₂ b₂ δ₁ δ₂ j1 j2 h3 h4
    · simp only [movG] at hp
      split at hp
      · simp at hp; obtain ⟨rfl, _⟩ := hp; exact (Array.getElem?_eq_some_iff.1 hb').1
      · exact Nat.lt_of_lt_of_le (hw.rholt _ _ _ _ hp) hsz
    · simp only [movG] at hp
      split at hp
      · rename_i hh; obtain ⟨rfl, rfl⟩ := hh; exact ⟨cs', List.getElem?_set_self hidl, Nat.le_refl _⟩
      · obtain ⟨cs₂, j1, j2⟩ := hw.rhoid _ _ _ hp
        by_cases hi : i = id
        · subst hi; rw [hid] at j1; simp only [Option.some.injEq] at j1; subst j1
          exact ⟨cs', List.getElem?_set_self hidl, Nat.le_trans j2 hle⟩
        · exact ⟨cs₂, by rw [List.getElem?_set_ne (Ne.symm hi)]; exact j1, j2⟩
  have hhi : ∀ j cs₂ k δ₂, k < w.heap.size → (st.H.set id cs')[j]? = some cs₂ → (movG g id cs'.length b' δ').ρ j cs₂.length = some (k, δ₂) →
      ∃ cs₁, st.H[j]? = some cs₁ ∧ g.ρ j cs₁.length = some (k, δ₂) := by
    intro j cs₂ k δ₂ hk' hc hp
    rcases hget j cs₂ hc with ⟨rfl, rfl⟩ | ⟨hj, hc⟩
    · simp [movG] at hp; obtain ⟨rfl, rfl⟩ := hp
      rcases hpl with ⟨rfl, rfl⟩ | ⟨rfl, _⟩
      · exact ⟨cs, hid, hcur⟩
      · omega
    · rw [hro _ _ hj] at hp; exact ⟨cs₂, hc, hp⟩
  have hhb : ∀ k, k < w.heap.size → HB (movG g id cs'.length b' δ') (st.H.set id cs') k → HB g st.H k := by
    rintro k hk' ⟨j, cs₂, δ₂, hc, hp⟩
    obtain ⟨cs₁, h1, h2⟩ := hhi j cs₂ k δ₂ hk' hc hp
    exact ⟨j, cs₁, δ₂, h1, h2⟩
  have hHB : HB g st.H b := ⟨id, cs, δ, hid, hcur⟩
  have hkk : ∀ k, k < w.heap.size → ¬ HB g st.H k → w'.heap[k]? = w.heap[k]? := fun k hk' hn => hk k hk' fun hh => hn (hh ▸ hHB)
  refine ⟨⟨hwr, ?_, ?_, fun t e' he => ?_, h.defs, h.size, h.n0, fun j cs₂ hj hc => ?_⟩, hx⟩
  · refine h.si.step hx hsz hkk (fun a' ha => ?_) (fun k hk' _ => hk') hhi (by simp) hs
    · by_cases hab : a'.block = b
      · exact hfs a' hab
      · exact fro_eq (hk _ ha hab)
  · exact h.lr.step hx hkk (fun k hk' _ => hk') hhb
  · obtain ⟨x, h1, h2⟩ := h.env t e' he
    exact ⟨x, h1, h2.ext hx⟩
  · rcases hget j cs₂ hc with ⟨rfl, rfl⟩ | ⟨hji, hc⟩
    · omega
    · exact h.om j cs₂ hj hc

/-- A BOX IS WRITTEN -/
theorem SRepG.box (h : SRepG C st a w g lam) {key : Nat} {cs cs' : List AV} {c c' : Array Value} {e : TypeId} (hk : lk st.L key = some cs)
    (hc : w.heap[lam key]? = some (.cells c e (0, 0))) (hz : c'.size = c.size) (hl : cs'.length ≤ c.size) (hv : Vals w g cs' c' 0) :
    SRepG C { st with L := (key, cs') :: st.L } a (w.setRow (lam key) c') g lam ∧ Ext w g (w.setRow (lam key) c') g := by
  obtain ⟨c₁, e₁, h1, h2, h3, h4, h5, h6⟩ := h.lr.box key cs hk
  have hother : ∀ k, k ≠ lam key → (w.setRow (lam key) c').heap[k]? = w.heap[k]? := fun k hk => setRow_other w _ k c' hk
  have hnew : (w.setRow (lam key) c').heap[lam key]? = some (.cells c' e (0, 0)) := setRow_heap w _ c c' e _ hc
  have hx : Ext w g (w.setRow (lam key) c') g := by
    refine ⟨fun _ h => h, fun b hb => hother b (fun hh => h4 (hh ▸ hb)), fun _ _ _ h => h, fun b n hb => ?_⟩
    by_cases hbk : b = lam key
    · subst hbk; rw [bsz_row hc] at hb; rw [bsz_row hnew, hz]; exact hb
    · rw [bsz_eq (hother b hbk)]; exact hb
  have hwr : WRep (w.setRow (lam key) c') g st.H := by
    refine ⟨fun id cs₁ hc₁ => ?_, h.wr.inj, fun b hb => by rw [setRow_size]; exact h.wr.fzlt b hb, fun id gen b δ hp => by rw [setRow_size]; exact h.wr.rholt id gen b δ hp, h.wr.rhoid⟩
    obtain ⟨b, δ, c₂, e₂, k1, k2, k3, k4, k5⟩ := h.wr.blk id cs₁ hc₁
    have hb : b ≠ lam key := fun hh => h5 (hh ▸ ⟨id, cs₁, δ, hc₁, k1⟩)
    exact ⟨b, δ, c₂, e₂, k1, (hother b hb).trans k2, k3, CRep.ext hx (hother b hb) k4, k5⟩
  refine ⟨⟨hwr, ?_, ⟨fun k cs₁ hk₁ => ?_, ?_⟩, fun t e' he => ?_, h.defs, h.size, h.n0, h.om⟩, hx⟩
  · refine ⟨by rw [setRow_size]; exact h.si.sz, fun b hb hn => ?_, fun b n hn => hx.bsz b n (h.si.bszk b n hn), fun a' ha => ?_, h.si.fz, h.si.fznew, h.si.rho, h.si.hbi, h.si.len, h.si.same⟩
    · rw [hother b (fun hh => by omega), h.si.keep b hb hn]
    · rw [← h.si.fro a' ha]; exact fro_eq (hother _ (fun hh => by omega))
  · by_cases hkk : key = k
    · subst hkk; simp only [lk, if_true, Option.some.injEq] at hk₁; subst hk₁
      exact ⟨c', e, hnew, by omega, hv.crep hx hnew, h4, h5, h6⟩
    · simp only [lk, if_neg hkk] at hk₁
      obtain ⟨c₂, e₂, k1, k2, k3, k4, k5, k6⟩ := h.lr.box k cs₁ hk₁
      have hne : lam k ≠ lam key := fun hh => hkk (h.lr.inj key k (by simp [hk]) (by simp [hk₁]) hh.symm)
      exact ⟨c₂, e₂, (hother _ hne).trans k1, k2, CRep.ext hx (hother _ hne) k3, k4, k5, k6⟩
  · intro k k' h1' h2' hh
    have conv : ∀ j, lk ((key, cs') :: st.L) j ≠ none → lk st.L j ≠ none := by
      intro j hj
      by_cases hkj : key = j
      · subst hkj; simp [hk]
      · simpa [lk, hkj] using hj
    exact h.lr.inj k k' (conv k h1') (conv k' h2') hh
  · obtain ⟨x, j1, j2⟩ := h.env t e' he
    exact ⟨x, j1, j2.ext hx⟩

/-- A NEW BOX -/
theorem SRepG.newL (h : SRepG C st a w g lam) {d : Nat} {cs : List AV} {c : Array Value} {e : TypeId} (hn : NoLoc st.ev d) (hv : Vals w g cs c 0) (hl : cs.length ≤ c.size) (hw0 : C.w₀.heap.size ≤ w.heap.size) :
    SRepG C { st with L := (d, cs) :: st.L } a (w.alloc (.cells c e)) g (fun k => if k = d then w.heap.size else lam k) := by
  have hx : Ext w g (w.alloc (.cells c e)) g := Ext.alloc h.wr _ rfl fun _ _ _ h => h
  have hlr : LRp C.w₀.heap.size (w.alloc (.cells c e)) g st.H lam (lk st.L) := h.lr.step hx (fun b hb _ => al_old _ _ hb) (fun b hb _ => hb) fun b _ hb => hb
  have hlt : ∀ k cs₁, lk st.L k = some cs₁ → lam k < w.heap.size := by
    intro k cs₁ hk
    obtain ⟨c₁, e₁, h1, _⟩ := h.lr.box k cs₁ hk
    exact (Array.getElem?_eq_some_iff.1 h1).1
  have hwr : WRep (w.alloc (.cells c e)) g st.H := by
    refine ⟨fun id cs₁ hc => ?_, h.wr.inj, fun b hb => by rw [al_size]; exact Nat.lt_succ_of_lt (h.wr.fzlt b hb), fun id gen b δ hp => by rw [al_size]; exact Nat.lt_succ_of_lt (h.wr.rholt _ _ _ _ hp), h.wr.rhoid⟩
    obtain ⟨b, δ, c₂, e₂, k1, k2, k3, k4, k5⟩ := h.wr.blk id cs₁ hc
    have hb := al_old w (.cells c e) (Array.getElem?_eq_some_iff.1 k2).1
    exact ⟨b, δ, c₂, e₂, k1, hb.trans k2, k3, CRep.ext hx hb k4, k5⟩
  refine ⟨hwr, ?_, ⟨fun k cs₁ hk => ?_, fun k k' h1 h2 hh => ?_⟩, fun t e' he => ?_, h.defs, h.size, h.n0, h.om⟩
  · exact h.si.step hx (by rw [al_size]; omega) (fun b hb _ => al_old _ _ hb) (fun a' ha => fro_eq (al_old _ _ ha)) (fun b hb _ => hb) (fun _ cs _ _ _ h1 h2 => ⟨cs, h1, h2⟩) (Nat.le_refl _) ⟨rfl, rfl, rfl⟩
  · by_cases hkd : d = k
    · subst hkd; simp only [lk, if_true, Option.some.injEq] at hk; subst hk
      refine ⟨c, e, by simp only [if_true]; exact al_new _ _, hl, by simp only [if_true]; exact hv.crep hx (al_new _ _), ?_, ?_, by simp only [if_true]; exact hw0⟩
      · simp only [if_true]; exact fun hf => Nat.lt_irrefl _ (h.wr.fzlt _ hf)
      · simp only [if_true]; rintro ⟨id, cs₂, δ, j1, j2⟩; exact Nat.lt_irrefl _ (h.wr.rholt _ _ _ _ j2)
    · simp only [lk, if_neg hkd] at hk
      simp only [if_neg (Ne.symm hkd)]
      exact hlr.box k cs₁ hk
  · by_cases hk : k = d
    · by_cases hk' : k' = d
      · rw [hk, hk']
      · simp only [if_pos hk, if_neg hk'] at hh
        have : lk st.L k' ≠ none := by simpa [lk, Ne.symm hk'] using h2
        obtain ⟨cs₁, hc₁⟩ := Option.ne_none_iff_exists'.1 this
        have := hlt k' cs₁ hc₁; omega
    · by_cases hk' : k' = d
      · simp only [if_neg hk, if_pos hk'] at hh
        have : lk st.L k ≠ none := by simpa [lk, Ne.symm hk] using h1
        obtain ⟨cs₁, hc₁⟩ := Option.ne_none_iff_exists'.1 this
        have := hlt k cs₁ hc₁; omega
      · simp only [if_neg hk, if_neg hk'] at hh
        exact h.lr.inj k k' (by simpa [lk, Ne.symm hk] using h1) (by simpa [lk, Ne.symm hk'] using h2) hh
  · obtain ⟨x, j1, j2⟩ := h.env t e' he
    refine ⟨x, j1, ?_⟩
    cases e' with
    | val v => exact ERep.ext (lam := lam) hx j2
    | loc key off =>
      have hne : key ≠ d := by
        rintro rfl
        exact hn t off (by simp [St.ev, he])
      simp only [ERep, if_neg hne]
      exact j2
end
end Go.Sx
