/- A part of the proofs of this seat: SxB. No condition is set. -/
import Derived.Test.YtchhjighipjnnaaSxA
set_option linter.unusedVariables false
set_option linter.unusedSimpArgs false
namespace Go.Sx

theorem Since.ext {w w' : World} {g g' : Gh} {H H' : List (List AV)} (hw : WRep w g H) (h : Since w g H w' g' H') : Ext w g w' g' where
  fz := h.fz
  fzw b hb := h.keep b (hw.fzlt b hb) (by
    rintro ⟨id, cs, δ, hc, hp⟩
    obtain ⟨b', δ', c, e, h1, h2, h3, h4, h5, h6⟩ := hw.blk id cs hc
    rw [hp] at h1; simp only [Option.some.injEq, Prod.mk.injEq] at h1; obtain ⟨rfl, rfl⟩ := h1
    exact h5 hb)
  rho := h.rho
  bsz := h.bszk
theorem Since.trans {w₀ w w' : World} {g₀ g g' : Gh} {H₀ H H' : List (List AV)} (h : Since w₀ g₀ H₀ w g H) (hw : WRep w g H) (k : Since w g H w' g' H') : Since w₀ g₀ H₀ w' g' H' :=
  h.step (k.ext hw) k.sz k.keep k.fro k.fznew k.hbi k.len ⟨k.same.1, k.same.2.1, k.same.2.2⟩

section
variable {C : Cx} {st : St} {a : Act} {w : World} {g : Gh} {lam : Nat → Nat}

/-- the end of an operation: the slot is written -/
theorem SRepG.fin (L' : List (Nat × List AV)) (H' : List (List AV)) (l : Option (Nat × List AV)) (hL : L' = (match l with | some x => x :: st.L | none => st.L))
    (h : SRepG C ⟨st.env, L', H'⟩ a w g lam) {dst : Option Tmp} (hd : ∀ d, dst = some d → d < C.N) {v : Option EV} {x : Value}
    (hv : dst ≠ none → ERep w g lam (v.getD (.val .junk)) x) : SRep C (st.app dst ⟨v, l, H'⟩) (a.put dst x) w := by
  subst hL
  refine ⟨g, lam, ?_⟩
  cases dst with
  | none => exact h
  | some d =>
    have := h.put (hd d rfl) (hv (by simp))
    cases v <;> exact this

theorem upon_value (P : Program) (o : Oper) (a : Act) (next : Act → World → Prop) (Q : Exit → Act → World → Prop) {r : Result Next} {x : Value} {w' : World} (h : r = .ok (.value x) w') (hn : next (a.put o.dst x) w') :
    o.upon P a next Q r := by subst h; exact hn
theorem upon_skip' (P : Program) (o : Oper) (a : Act) (next : Act → World → Prop) (Q : Exit → Act → World → Prop) {r : Result Next} {w' : World} (h : r = .ok .skip w') (hn : next (a.put o.dst undef) w') :
    o.upon P a next Q r := by subst h; exact hn

theorem vals_of {w : World} {g : Gh} {cs : List AV} {c : Array Value} (h : LRep w g cs c.toList) (ho : ∀ y ∈ c.toList, y.oneCell' = true) : Vals w g cs c 0 := by
  rw [LRep_iff] at h
  intro i cv hi
  have hlt : i < c.size := by have := (List.getElem?_eq_some_iff.1 hi).1; have := h.1; simp at this; omega
  exact ⟨c[i], by simp [hlt], ho _ (by simp), h.2 i cv c[i] hi (by simp [hlt])⟩

def PostOp (C : Cx) (st : St) (dst : Option Tmp) (K : Eff → Prop) (a' : Act) (w' : World) : Prop := ∃ e, K e ∧ SRep C (st.app dst e) a' w'

theorem newX_sound (h : SRepG C st a w g lam) {o : Oper} (hN : ∀ d, o.dst = some d → d < C.N) {NL : Nat → Prop} (hNL : ∀ d, NL d → NoLoc st.ev d) {cs : List AV} {K : Eff → Prop}
    (hx : newX C.cfg NL st.H o.dst cs K) {zv : Value} {t : TypeId} (hr : LRep w g cs zv.cells.toList) (ho : ∀ y ∈ zv.cells.toList, y.oneCell' = true)
    (Q : Exit → Act → World → Prop) {r : Result Next} (hrun : r = .ok (.value (.pointer (some ⟨w.heap.size, 0, none⟩))) (w.alloc (.cells zv.cells t))) :
    o.upon C.P a (PostOp C st o.dst K) Q r := by
  refine upon_value _ _ _ _ _ hrun ?_
  unfold newX at hx
  have hl : cs.length ≤ zv.cells.size := by have := LRep_length hr; simp at this; omega
  split at hx
  · exact hx.elim
  · rename_i d hd
    split at hx
    · obtain ⟨h1, h2⟩ := h.newH (e := t) (vals_of hr ho) hl
      refine ⟨_, hx, ?_⟩
      refine SRepG.fin (st := st) st.L _ none rfl h1 hN (fun _ => ?_)
      simp only [Option.getD_some, ERep, VRep]
      exact ⟨w.heap.size, 0, rfl, by simp only [SBase]; exact ⟨0, by simp [newG], rfl⟩⟩
    · obtain ⟨hn, hk⟩ := hx
      have h1 := h.newL (e := t) (hNL d hn) (vals_of hr ho) hl h.si.sz
      refine ⟨_, hk, ?_⟩
      refine SRepG.fin (st := st) _ _ (some (d, cs)) rfl h1 hN (fun _ => ?_)
      simp [ERep]

theorem alloc_run {P : Program} {t : TypeId} {inf : TypeInfo} {zv : Value} (hi : P.info? t = some inf) (hz : inf.zero = some zv) (w : World) :
    (Instr.alloc t true (.tuple #[])).run P w = .ok (.pointer (some ⟨w.heap.size, 0, none⟩)) (w.alloc (.cells zv.cells t)) := by
  have hzr : (zeroValue t).run P w = .ok zv w := by simp [zeroValue, typeInfo, hi, Sem.run_bind, hz]
  simp [Instr.alloc, Sem.run_bind, hzr, newVar, newRow, newObj, Sem.run]

/-- cells, some of them written over -/
theorem patch_vals {cs vs : List AV} {c : Array Value} {xs : List Value} {δ p : Nat} (h : Vals w g cs c δ) (hv : LRep w g vs xs) (ho : ∀ y ∈ xs, y.oneCell' = true)
    (hp : p + vs.length ≤ cs.length) (hc : δ + cs.length ≤ c.size) :
    Vals w g (sc cs p vs) (c.toList.take (δ + p) ++ xs ++ c.toList.drop (δ + p + xs.length)).toArray δ := by
  have hl := LRep_length hv
  rw [LRep_iff] at hv
  intro i cv hi
  rw [sc_get _ _ _ _ hp] at hi
  have hidx : ((c.toList.take (δ + p) ++ xs ++ c.toList.drop (δ + p + xs.length)).toArray)[δ + i]? =
      if p ≤ i ∧ i < p + vs.length then xs[i - p]? else c[δ + i]? := by
    have ht : (c.toList.take (δ + p)).length = δ + p := by simp; omega
    simp only [List.getElem?_toArray]
    by_cases h1 : i < p
    · rw [if_neg (by omega), List.append_assoc, List.getElem?_append_left (by rw [ht]; omega), List.getElem?_take, if_pos (by omega)]
      simp
    · by_cases h2 : i < p + vs.length
      · rw [if_pos ⟨by omega, h2⟩, List.append_assoc, List.getElem?_append_right (by rw [ht]; omega), List.getElem?_append_left (by rw [ht]; omega), ht]
        congr 1; omega
      · rw [if_neg (by omega), List.append_assoc, List.getElem?_append_right (by rw [ht]; omega), List.getElem?_append_right (by rw [ht]; omega), ht, List.getElem?_drop]
        rw [show δ + p + xs.length + (δ + i - (δ + p) - xs.length) = δ + i from by omega]
        simp
  split at hi
  · rename_i hh
    have hlt : i - p < xs.length := by omega
    exact ⟨xs[i - p], by rw [hidx, if_pos hh]; simp [hlt], ho _ (by simp), hv.2 (i - p) cv _ hi (by simp [hlt])⟩
  · rename_i hh
    obtain ⟨v, h1, h2, h3⟩ := h i cv hi
    exact ⟨v, by rw [hidx, if_neg hh]; exact h1, h2, h3⟩

theorem patch_size {c : Array Value} {xs : List Value} {q : Nat} (h : q + xs.length ≤ c.size) : (c.toList.take q ++ xs ++ c.toList.drop (q + xs.length)).toArray.size = c.size := by
  simp; omega

theorem setRow_same (w : World) (b : Nat) (c : Array Value) : Sames w (w.setRow b c) := ⟨rfl, rfl, rfl⟩

theorem fro_zero {w : World} {a : Addr} {c : Array Value} {e : TypeId} (h : w.heap[a.block]? = some (.cells c e (0, 0))) : w.frozen? a = false := by simp [World.frozen?, h]
/-- a block of H is written over, in place -/
theorem SRepG.write (h : SRepG C st a w g lam) {id : Nat} {cs vs : List AV} {p b δ : Nat} {xs : List Value} (hid : st.H[id]? = some cs) (hcur : g.ρ id cs.length = some (b, δ))
    (hp : p + vs.length ≤ cs.length) (hold : C.cfg.n0 ≤ id ∨ mxL vs ≤ C.cfg.n0) (hv : LRep w g vs xs) (ho : ∀ y ∈ xs, y.oneCell' = true) :
    ∃ (c : Array Value) (e : TypeId), w.heap[b]? = some (.cells c e (0, 0)) ∧ δ + cs.length ≤ c.size ∧
    SRepG C { st with H := st.H.set id (sc cs p vs) } a (w.setRow b (c.toList.take (δ + p) ++ xs ++ c.toList.drop (δ + p + xs.length)).toArray) g lam := by
  obtain ⟨b', δ', c, e, k1, k2, k3, k4, k5, k6⟩ := h.wr.blk id cs hid
  rw [hcur] at k1; simp only [Option.some.injEq, Prod.mk.injEq] at k1; obtain ⟨rfl, rfl⟩ := k1
  refine ⟨c, e, k2, k3, ?_⟩
  have hxl := LRep_length hv
  have hV := patch_vals (Vals.of_crep k4 k2) hv ho hp k3
  have hsz : (c.toList.take (δ + p) ++ xs ++ c.toList.drop (δ + p + xs.length)).toArray.size = c.size := patch_size (by omega)
  have hnew := setRow_heap w b c (c.toList.take (δ + p) ++ xs ++ c.toList.drop (δ + p + xs.length)).toArray e _ k2
  have hmv : movG g id (sc cs p vs).length b δ = g := by
    unfold movG
    cases g with
    | mk ρ Fz =>
      simp only [Gh.mk.injEq, and_true]
      funext i n
      split
      · rename_i hh; obtain ⟨rfl, rfl⟩ := hh; rw [sc_length]; exact hcur.symm
      · rfl
  have hmx : C.cfg.n0 ≤ id ∨ mxL (sc cs p vs) ≤ C.cfg.n0 := by
    rcases Nat.lt_or_ge id C.cfg.n0 with hlt | hge
    · right
      rcases hold with h1 | h1
      · omega
      · refine mxL_sc hp ?_ h1
        exact h.om id cs hlt hid
    · exact .inl hge
  have := (h.repl (cs' := sc cs p vs) (b' := b) (δ' := δ) (e := e) hid hcur (by rw [sc_length]; exact Nat.le_refl _) hmx (w' := w.setRow b _) (by rw [setRow_size]; exact Nat.le_refl _)
    (fun k _ hk => setRow_other w b k _ hk) (fun n hn => by rw [bsz_row k2] at hn; rw [bsz_row hnew, hsz]; exact hn)
    (fun o => (fro_zero hnew).trans (fro_zero k2).symm) (setRow_same w b _) hnew (.inl ⟨rfl, rfl⟩) hV (by rw [sc_length, hsz]; exact k3)
    (fun a' ha => (fro_zero (by rw [ha]; exact hnew)).trans (fro_zero (by rw [ha]; exact k2)).symm)).1
  rw [hmv] at this
  exact this

theorem storeVar_run {P : Program} {t : TypeId} {b o : Nat} {c : Array Value} {e : TypeId} {x : Value} (hb : w.heap[b]? = some (.cells c e (0, 0))) (hz : tsz P t = some x.cells.size)
    (hl : o + x.cells.size ≤ c.size) (ho : ∀ y ∈ x.cells.toList, y.oneCell' = true) :
    (storeVar t ⟨b, o, none⟩ x).run P w = .ok () (w.setRow b (c.toList.take o ++ x.cells.toList ++ c.toList.drop (o + x.cells.toList.length)).toArray) := by
  unfold tsz at hz
  simp only [Option.map_eq_some_iff] at hz
  obtain ⟨i, hi, hz⟩ := hz
  have hs : (sizeOf t).run P w = .ok i.size w := by simp [sizeOf, typeInfo, hi, Sem.run_bind]
  have hst := run_storeCells_at P b o e x.cells.toList 0 c w hb (by simpa using hl) ho
  simp only [storeVar, Sem.run_bind, hs, Result.andThen_ok, hz, ne_eq, not_true, if_false]
  simpa using hst

theorem storeX_sound (h : SRepG C st a w g lam) {o : Oper} (hdst : o.dst = none) {t : TypeId} {ax vx : Operand} (hop : o.op = .store t ax vx) {v : AV} {vs : List AV} (hv : st.ev vx = .val v) (hcl : v.cells = some vs)
    (hz : tsz C.P t = some vs.length) {K : Eff → Prop} (hx : storeX C.cfg (lk st.L) st.H (st.ev ax) vs K) (Q : Exit → Act → World → Prop) :
    o.upon C.P a (PostOp C st o.dst K) Q ((execOp a.eval o).run C.P w) := by
  obtain ⟨hr, ho⟩ := cells_rep hcl (h.evV hv)
  have hlen : (a.eval vx).cells.size = vs.length := by have := LRep_length hr; simpa using this
  have hrunof : ∀ {b p : Nat} {c : Array Value} {e : TypeId}, a.eval ax = .pointer (some ⟨b, p, none⟩) → w.heap[b]? = some (.cells c e (0, 0)) → p + vs.length ≤ c.size →
      (execOp a.eval o).run C.P w = .ok .skip (w.setRow b (c.toList.take p ++ (a.eval vx).cells.toList ++ c.toList.drop (p + (a.eval vx).cells.toList.length)).toArray) := by
    intro b p c e hax hb hl
    have := storeVar_run (P := C.P) (t := t) (o := p) (x := a.eval vx) hb (by rw [hlen]; exact hz) (by rw [hlen]; exact hl) ho
    simp only [execOp, hop, hax, Instr.storeAt, Instr.sureAddr, Sem.run_bind, Sem.run_pure, Result.andThen_ok, this]
  unfold storeX at hx
  split at hx
  · rename_i key off he
    split at hx
    case h_2 => exact hx.elim
    rename_i cs hc
    obtain ⟨hb, hk⟩ := hx
    obtain ⟨c, e, k1, k2, k3, k4⟩ := h.lr.box key cs hc
    refine upon_skip' _ _ _ _ _ (hrunof (h.evL he) k1 (by omega)) ⟨_, hk, ?_⟩
    have hV := patch_vals (δ := 0) (Vals.of_crep k3 k1) hr ho hb (by omega)
    simp only [Nat.zero_add] at hV
    have h1 := (h.box (c' := (c.toList.take off ++ (a.eval vx).cells.toList ++ c.toList.drop (off + (a.eval vx).cells.toList.length)).toArray) hc k1
      (patch_size (by simp [hlen]; omega)) (by rw [sc_length]; exact k2) hV).1
    rw [hdst]
    exact SRepG.fin (st := st) _ _ (some (key, sc cs off vs)) rfl h1 (fun d hd => by simp at hd) (fun hn => absurd rfl hn)
  · rename_i id gen p₀ _ _ off he
    split at hx
    case h_2 => exact hx.elim
    rename_i cs hc
    obtain ⟨hg, hb, hold, hk⟩ := hx
    have hX := h.evV he
    simp only [VRep, SBase] at hX
    obtain ⟨b, o', hX, δ, hρ, rfl⟩ := hX
    rw [← hg] at hρ
    obtain ⟨c, e, k1, k2, k3⟩ := h.write (p := p₀ + off) hc hρ hb hold hr ho
    refine upon_skip' _ _ _ _ _ (hrunof (b := b) (p := δ + (p₀ + off)) (c := c) (e := e) (by rw [hX, Nat.add_assoc]) k1 (by omega)) ⟨_, hk, ?_⟩
    rw [hdst]
    exact SRepG.fin (st := st) st.L _ none rfl k3 (fun d hd => by simp at hd) (fun hn => absurd rfl hn)
  · exact hx.elim
end
end Go.Sx
