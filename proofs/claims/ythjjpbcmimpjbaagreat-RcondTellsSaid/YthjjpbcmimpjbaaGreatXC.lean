/- A part of the proofs of this seat: XC. No condition is set. -/
import Derived.IntWalk
import Derived.Test.YthjjpbcmimpjbaaGreatXB
set_option linter.unusedVariables false
set_option linter.unusedSimpArgs false
namespace Go.Sx

theorem Since.ext {w w' : World} {g g' : Gh} {H H' : List (List AV)} (hw : WRep w g H) (h : Since w g H w' g' H') : Ext w g w' g' where
  fz := h.fz
  fzw b hb := h.keep b (hw.fzlt b hb) (by
    rintro ⟨id, cs, δ, hc, hp⟩
    obtain ⟨b', δ', c, e, h1, h2, h3, h4, h5, h6⟩ := hw.blk id cs hc
    rw [hp] at h1; simp only [Option.some.injEq, Prod.mk.injEq] at h1; obtain ⟨rfl, rfl⟩ := h1
    exact h5 hb)
  rho := h.rho
  bsz := h.bszk
theorem Since.trans {w₀ w w' : World} {g₀ g g' : Gh} {H₀ H H' : List (List AV)} (h : Since w₀ g₀ H₀ w g H) (hw : WRep w g H) (k : Since w g H w' g' H') : Since w₀ g₀ H₀ w' g' H' :=
  h.step (k.ext hw) k.sz k.keep k.fro k.fznew k.hbi k.len ⟨k.same.1, k.same.2.1, k.same.2.2⟩

section
variable {C : Cx} {st : St} {a : Act} {w : World} {g : Gh} {lam : Nat → Nat}

/-- the end of an operation: the slot is written -/
theorem SRepG.fin (L' : List (Nat × List AV)) (H' : List (List AV)) (l : Option (Nat × List AV)) (hL : L' = (match l with | some x => x :: st.L | none => st.L))
    (h : SRepG C ⟨st.env, L', H'⟩ a w g lam) {dst : Option Tmp} (hd : ∀ d, dst = some d → d < C.N) {v : Option EV} {x : Value}
    (hv : dst ≠ none → ERep w g lam (v.getD (.val .junk)) x) : SRep C (st.app dst ⟨v, l, H'⟩) (a.put dst x) w := by
  subst hL
  refine ⟨g, lam, ?_⟩
  cases dst with
  | none => exact h
  | some d =>
    have := h.put (hd d rfl) (hv (by simp))
    cases v <;> exact this

theorem upon_value (P : Program) (o : Oper) (a : Act) (next : Act → World → Prop) (Q : Exit → Act → World → Prop) {r : Result Next} {x : Value} {w' : World} (h : r = .ok (.value x) w') (hn : next (a.put o.dst x) w') :
    o.upon P a next Q r := by subst h; exact hn
theorem upon_skip' (P : Program) (o : Oper) (a : Act) (next : Act → World → Prop) (Q : Exit → Act → World → Prop) {r : Result Next} {w' : World} (h : r = .ok .skip w') (hn : next (a.put o.dst undef) w') :
    o.upon P a next Q r := by subst h; exact hn

theorem vals_of {w : World} {g : Gh} {cs : List AV} {c : Array Value} (h : LRep w g cs c.toList) (ho : ∀ y ∈ c.toList, y.oneCell' = true) : Vals w g cs c 0 := by
  rw [LRep_iff] at h
  intro i cv hi
  have hlt : i < c.size := by have := (List.getElem?_eq_some_iff.1 hi).1; have := h.1; simp at this; omega
  exact ⟨c[i], by simp [hlt], ho _ (by simp), h.2 i cv c[i] hi (by simp [hlt])⟩

def PostOp (C : Cx) (st : St) (dst : Option Tmp) (K : Eff → Prop) (a' : Act) (w' : World) : Prop := ∃ e, K e ∧ SRep C (st.app dst e) a' w'

theorem newX_sound (h : SRepG C st a w g lam) {o : Oper} (hN : ∀ d, o.dst = some d → d < C.N) {NL : Nat → Prop} (hNL : ∀ d, NL d → NoLoc st.ev d) {cs : List AV} {K : Eff → Prop}
    (hx : newX C.cfg NL st.H o.dst cs K) {zv : Value} {t : TypeId} (hr : LRep w g cs zv.cells.toList) (ho : ∀ y ∈ zv.cells.toList, y.oneCell' = true)
    (Q : Exit → Act → World → Prop) {r : Result Next} (hrun : r = .ok (.value (.pointer (some ⟨w.heap.size, 0, none⟩))) (w.alloc (.cells zv.cells t))) :
    o.upon C.P a (PostOp C st o.dst K) Q r := by
  refine upon_value _ _ _ _ _ hrun ?_
  unfold newX at hx
  have hl : cs.length ≤ zv.cells.size := by have := LRep_length hr; simp at this; omega
  split at hx
  · exact hx.elim
  · rename_i d hd
    split at hx
    · obtain ⟨h1, h2⟩ := h.newH (e := t) (vals_of hr ho) hl
      refine ⟨_, hx, ?_⟩
      refine SRepG.fin (st := st) st.L _ none rfl h1 hN (fun _ => ?_)
      simp only [Option.getD_some, ERep, VRep]
      exact ⟨w.heap.size, 0, rfl, by simp only [SBase]; exact ⟨0, by simp [newG], rfl⟩⟩
    · obtain ⟨hn, hk⟩ := hx
      have h1 := h.newL (e := t) (hNL d hn) (vals_of hr ho) hl h.si.sz
      refine ⟨_, hk, ?_⟩
      refine SRepG.fin (st := st) _ _ (some (d, cs)) rfl h1 hN (fun _ => ?_)
      simp [ERep]

theorem alloc_run {P : Program} {t : TypeId} {inf : TypeInfo} {zv : Value} (hi : P.info? t = some inf) (hz : inf.zero = some zv) (w : World) :
    (Instr.alloc t true (.tuple #[])).run P w = .ok (.pointer (some ⟨w.heap.size, 0, none⟩)) (w.alloc (.cells zv.cells t)) := by
  have hzr : (zeroValue t).run P w = .ok zv w := by simp [zeroValue, typeInfo, hi, Sem.run_bind, hz]
  simp [Instr.alloc, Sem.run_bind, hzr, newVar, newRow, newObj, Sem.run]

/-- cells, some of them written over -/
theorem patch_vals {cs vs : List AV} {c : Array Value} {xs : List Value} {δ p : Nat} (h : Vals w g cs c δ) (hv : LRep w g vs xs) (ho : ∀ y ∈ xs, y.oneCell' = true)
    (hp : p + vs.length ≤ cs.length) (hc : δ + cs.length ≤ c.size) :
    Vals w g (sc cs p vs) (c.toList.take (δ + p) ++ xs ++ c.toList.drop (δ + p + xs.length)).toArray δ := by
  have hl := LRep_length hv
  rw [LRep_iff] at hv
  intro i cv hi
  rw [sc_get _ _ _ _ hp] at hi
  have hidx : ((c.toList.take (δ + p) ++ xs ++ c.toList.drop (δ + p + xs.length)).toArray)[δ + i]? =
      if p ≤ i ∧ i < p + vs.length then xs[i - p]? else c[δ + i]? := by
    have ht : (c.toList.take (δ + p)).length = δ + p := by simp; omega
    simp only [List.getElem?_toArray]
    by_cases h1 : i < p
    · rw [if_neg (by omega), List.append_assoc, List.getElem?_append_left (by rw [ht]; omega), List.getElem?_take, if_pos (by omega)]
      simp
    · by_cases h2 : i < p + vs.length
      · rw [if_pos ⟨by omega, h2⟩, List.append_assoc, List.getElem?_append_right (by rw [ht]; omega), List.getElem?_append_left (by rw [ht]; omega), ht]
        congr 1; omega
      · rw [if_neg (by omega), List.append_assoc, List.getElem?_append_right (by rw [ht]; omega), List.getElem?_append_right (by rw [ht]; omega), ht, List.getElem?_drop]
        rw [show δ + p + xs.length + (δ + i - (δ + p) - xs.length) = δ + i from by omega]
        simp
  split at hi
  · rename_i hh
    have hlt : i - p < xs.length := by omega
    exact ⟨xs[i - p], by rw [hidx, if_pos hh]; simp [hlt], ho _ (by simp), hv.2 (i - p) cv _ hi (by simp [hlt])⟩
  · rename_i hh
    obtain ⟨v, h1, h2, h3⟩ := h i cv hi
    exact ⟨v, by rw [hidx, if_neg hh]; exact h1, h2, h3⟩

theorem patch_size {c : Array Value} {xs : List Value} {q : Nat} (h : q + xs.length ≤ c.size) : (c.toList.take q ++ xs ++ c.toList.drop (q + xs.length)).toArray.size = c.size := by
  simp; omega

theorem setRow_same (w : World) (b : Nat) (c : Array Value) : Sames w (w.setRow b c) := ⟨rfl, rfl, rfl⟩

theorem fro_zero {w : World} {a : Addr} {c : Array Value} {e : TypeId} (h : w.heap[a.block]? = some (.cells c e (0, 0))) : w.frozen? a = false := by simp [World.frozen?, h]
/-- a block of H is written over, in place -/
theorem SRepG.write (h : SRepG C st a w g lam) {id : Nat} {cs vs : List AV} {p b δ : Nat} {xs : List Value} (hid : st.H[id]? = some cs) (hcur : g.ρ id cs.length = some (b, δ))
    (hp : p + vs.length ≤ cs.length) (hold : C.cfg.n0 ≤ id ∨ mxL vs ≤ C.cfg.n0) (hv : LRep w g vs xs) (ho : ∀ y ∈ xs, y.oneCell' = true) :
    ∃ (c : Array Value) (e : TypeId), w.heap[b]? = some (.cells c e (0, 0)) ∧ δ + cs.length ≤ c.size ∧
    SRepG C { st with H := st.H.set id (sc cs p vs) } a (w.setRow b (c.toList.take (δ + p) ++ xs ++ c.toList.drop (δ + p + xs.length)).toArray) g lam := by
  obtain ⟨b', δ', c, e, k1, k2, k3, k4, k5, k6⟩ := h.wr.blk id cs hid
  rw [hcur] at k1; simp only [Option.some.injEq, Prod.mk.injEq] at k1; obtain ⟨rfl, rfl⟩ := k1
  refine ⟨c, e, k2, k3, ?_⟩
  have hxl := LRep_length hv
  have hV := patch_vals (Vals.of_crep k4 k2) hv ho hp k3
  have hsz : (c.toList.take (δ + p) ++ xs ++ c.toList.drop (δ + p + xs.length)).toArray.size = c.size := patch_size (by omega)
  have hnew := setRow_heap w b c (c.toList.take (δ + p) ++ xs ++ c.toList.drop (δ + p + xs.length)).toArray e _ k2
  have hmv : movG g id (sc cs p vs).length b δ = g := by
    unfold movG
    cases g with
    | mk ρ Fz =>
      simp only [Gh.mk.injEq, and_true]
      funext i n
      split
      · rename_i hh; obtain ⟨rfl, rfl⟩ := hh; rw [sc_length]; exact hcur.symm
      · rfl
  have hmx : C.cfg.n0 ≤ id ∨ mxL (sc cs p vs) ≤ C.cfg.n0 := by
    rcases Nat.lt_or_ge id C.cfg.n0 with hlt | hge
    · right
      rcases hold with h1 | h1
      · omega
      · refine mxL_sc hp ?_ h1
        exact h.om id cs hlt hid
    · exact .inl hge
  have := (h.repl (cs' := sc cs p vs) (b' := b) (δ' := δ) (e := e) hid hcur (by rw [sc_length]; exact Nat.le_refl _) hmx (w' := w.setRow b _) (by rw [setRow_size]; exact Nat.le_refl _)
    (fun k _ hk => setRow_other w b k _ hk) (fun n hn => by rw [bsz_row k2] at hn; rw [bsz_row hnew, hsz]; exact hn)
    (fun o => (fro_zero hnew).trans (fro_zero k2).symm) (setRow_same w b _) hnew (.inl ⟨rfl, rfl⟩) hV (by rw [sc_length, hsz]; exact k3)
    (fun a' ha => (fro_zero (by rw [ha]; exact hnew)).trans (fro_zero (by rw [ha]; exact k2)).symm)).1
  rw [hmv] at this
  exact this

theorem storeVar_run {P : Program} {t : TypeId} {b o : Nat} {c : Array Value} {e : TypeId} {x : Value} (hb : w.heap[b]? = some (.cells c e (0, 0))) (hz : tsz P t = some x.cells.size)
    (hl : o + x.cells.size ≤ c.size) (ho : ∀ y ∈ x.cells.toList, y.oneCell' = true) :
    (storeVar t ⟨b, o, none⟩ x).run P w = .ok () (w.setRow b (c.toList.take o ++ x.cells.toList ++ c.toList.drop (o + x.cells.toList.length)).toArray) := by
  unfold tsz at hz
  simp only [Option.map_eq_some_iff] at hz
  obtain ⟨i, hi, hz⟩ := hz
  have hs : (sizeOf t).run P w = .ok i.size w := by simp [sizeOf, typeInfo, hi, Sem.run_bind]
  have hst := run_storeCells_at P b o e x.cells.toList 0 c w hb (by simpa using hl) ho
  simp only [storeVar, Sem.run_bind, hs, Result.andThen_ok, hz, ne_eq, not_true, if_false]
  simpa using hst

theorem storeX_sound (h : SRepG C st a w g lam) {o : Oper} (hdst : o.dst = none) {t : TypeId} {ax vx : Operand} (hop : o.op = .store t ax vx) {v : AV} {vs : List AV} (hv : st.ev vx = .val v) (hcl : v.cells = some vs)
    (hz : tsz C.P t = some vs.length) {K : Eff → Prop} (hx : storeX C.cfg (lk st.L) st.H (st.ev ax) vs K) (Q : Exit → Act → World → Prop) :
    o.upon C.P a (PostOp C st o.dst K) Q ((execOp a.eval o).run C.P w) := by
  obtain ⟨hr, ho⟩ := cells_rep hcl (h.evV hv)
  have hlen : (a.eval vx).cells.size = vs.length := by have := LRep_length hr; simpa using this
  have hrunof : ∀ {b p : Nat} {c : Array Value} {e : TypeId}, a.eval ax = .pointer (some ⟨b, p, none⟩) → w.heap[b]? = some (.cells c e (0, 0)) → p + vs.length ≤ c.size →
      (execOp a.eval o).run C.P w = .ok .skip (w.setRow b (c.toList.take p ++ (a.eval vx).cells.toList ++ c.toList.drop (p + (a.eval vx).cells.toList.length)).toArray) := by
    intro b p c e hax hb hl
    have := storeVar_run (P := C.P) (t := t) (o := p) (x := a.eval vx) hb (by rw [hlen]; exact hz) (by rw [hlen]; exact hl) ho
    simp only [execOp, hop, hax, Instr.storeAt, Instr.sureAddr, Sem.run_bind, Sem.run_pure, Result.andThen_ok, this]
  unfold storeX at hx
  split at hx
  · rename_i key off he
    split at hx
    case h_2 => exact hx.elim
    rename_i cs hc
    obtain ⟨hb, hk⟩ := hx
    obtain ⟨c, e, k1, k2, k3, k4⟩ := h.lr.box key cs hc
    refine upon_skip' _ _ _ _ _ (hrunof (h.evL he) k1 (by omega)) ⟨_, hk, ?_⟩
    have hV := patch_vals (δ := 0) (Vals.of_crep k3 k1) hr ho hb (by omega)
    simp only [Nat.zero_add] at hV
    have h1 := (h.box (c' := (c.toList.take off ++ (a.eval vx).cells.toList ++ c.toList.drop (off + (a.eval vx).cells.toList.length)).toArray) hc k1
      (patch_size (by simp [hlen]; omega)) (by rw [sc_length]; exact k2) hV).1
    rw [hdst]
    exact SRepG.fin (st := st) _ _ (some (key, sc cs off vs)) rfl h1 (fun d hd => by simp at hd) (fun hn => absurd rfl hn)
  · rename_i id gen p₀ _ _ off he
    split at hx
    case h_2 => exact hx.elim
    rename_i cs hc
    obtain ⟨hg, hb, hold, hk⟩ := hx
    have hX := h.evV he
    simp only [VRep, SBase] at hX
    obtain ⟨b, o', hX, δ, hρ, rfl⟩ := hX
    rw [← hg] at hρ
    obtain ⟨c, e, k1, k2, k3⟩ := h.write (p := p₀ + off) hc hρ hb hold hr ho
    refine upon_skip' _ _ _ _ _ (hrunof (b := b) (p := δ + (p₀ + off)) (c := c) (e := e) (by rw [hX, Nat.add_assoc]) k1 (by omega)) ⟨_, hk, ?_⟩
    rw [hdst]
    exact SRepG.fin (st := st) st.L _ none rfl k3 (fun d hd => by simp at hd) (fun hn => absurd rfl hn)
  · exact hx.elim
end
end Go.Sx

set_option linter.unusedVariables false
set_option linter.unusedSimpArgs false
namespace Go.Sx
section
variable {C : Cx} {st : St} {a : Act} {w : World} {g : Gh} {lam : Nat → Nat}

theorem zrep_flat (n : Nat) (zc : List AV) : zrep n zc = (List.replicate n zc).flatten := by
  unfold zrep
  split
  · rename_i z
    induction n with
    | zero => rfl
    | succ n ih =>
      show z :: List.replicate n z = [z] ++ (List.replicate n [z]).flatten
      rw [← ih]; rfl
  · rfl
theorem flat_get (zc : List AV) : ∀ (n i : Nat), i < n * zc.length → ((List.replicate n zc).flatten)[i]? = zc[i % zc.length]?
  | 0, i, h => by simp at h
  | n + 1, i, h => by
    rw [List.replicate_succ, List.flatten_cons]
    by_cases hi : i < zc.length
    · rw [List.getElem?_append_left hi, Nat.mod_eq_of_lt hi]
    · rw [List.getElem?_append_right (by omega), flat_get zc n (i - zc.length) (by rw [Nat.succ_mul] at h; omega)]
      congr 1
      rw [Nat.mod_eq_sub_mod (a := i) (by omega)]
theorem zrep_length (n : Nat) (zc : List AV) : (zrep n zc).length = n * zc.length := by rw [zrep_flat]; simp
theorem zrep_rep {zc : List AV} {z : Array Value} (hr : LRep w g zc z.toList) (ho : ∀ y ∈ z.toList, y.oneCell' = true) (n : Nat) :
    LRep w g (zrep n zc) ((Array.range (n * zc.length)).map (fun i => z[i % z.size]!)).toList ∧ ∀ y ∈ ((Array.range (n * zc.length)).map (fun i => z[i % z.size]!)).toList, y.oneCell' = true := by
  have hl : z.size = zc.length := by have := LRep_length hr; simpa using this
  have hpos : ∀ i, i < n * zc.length → 0 < zc.length := by intro i hi; rcases Nat.eq_zero_or_pos zc.length with h | h; · simp [h] at hi
                                                           · exact h
  rw [LRep_iff] at hr ⊢
  refine ⟨⟨by simp [zrep_length], fun i c v h1 h2 => ?_⟩, fun y hy => ?_⟩
  · have hi : i < n * zc.length := by have := (List.getElem?_eq_some_iff.1 h1).1; rwa [zrep_length] at this
    rw [zrep_flat, flat_get zc n i hi] at h1
    have hm : i % z.size < z.size := Nat.mod_lt _ (by rw [hl]; exact hpos i hi)
    simp only [Array.toList_map, List.getElem?_map, Option.map_eq_some_iff, Array.toList_range] at h2
    obtain ⟨j, hj, rfl⟩ := h2
    have : j = i := by simpa [List.getElem?_range, hi] using hj.symm
    subst this
    rw [getElem!_pos z _ hm]
    refine hr.2 (j % z.size) c _ (by rw [hl]; exact h1) (by simp [hm])
  · simp only [Array.toList_map, List.mem_map, Array.toList_range, List.mem_range] at hy
    obtain ⟨i, hi, rfl⟩ := hy
    have hm : i % z.size < z.size := Nat.mod_lt _ (by rw [hl]; exact hpos i hi)
    rw [getElem!_pos z _ hm]
    exact ho _ (by simp)

theorem einfo_eq {P : Program} {t s by_ : Nat} {zc : List AV} (h : einfo P t = some (s, by_, zc)) :
    ∃ e inf zv, P.underlying t = some (.slice e) ∧ P.info? e = some inf ∧ inf.size = s ∧ inf.bytes = by_ ∧ inf.zero = some zv ∧ (aOf zv).cells = some zc := by
  unfold einfo at h
  simp only [Option.bind_eq_some_iff, Option.map_eq_some_iff, Prod.mk.injEq] at h
  obtain ⟨e, h1, inf, h2, z, ⟨zv, h3, rfl⟩, zc', h4, rfl, rfl, rfl⟩ := h
  unfold telem at h1
  split at h1
  · simp only [Option.some.injEq] at h1; subst h1
    exact ⟨_, inf, zv, by assumption, h2, rfl, rfl, h3, h4⟩
  · simp at h1

/-- a new block that a slice of the call's own begins in -/
theorem newSl_sound (h : SRepG C st a w g lam) {o : Oper} (hN : ∀ d, o.dst = some d → d < C.N) {K : Eff → Prop} {cs : List AV} {c : Array Value} {e : TypeId} {n cap s : Nat}
    (hr : Vals w g cs c 0) (hl : cs.length ≤ c.size) (hn : n * s ≤ cs.length) (hc : n ≤ cap) (hcap : cap * s ≤ c.size)
    (hk : K ⟨some (.val (.slm st.H.length cs.length 0 n s)), none, st.H ++ [cs]⟩) (Q : Exit → Act → World → Prop) {r : Result Next}
    (hrun : r = .ok (.value (.slice (some ⟨w.heap.size, 0, none⟩) n cap)) (w.alloc (.cells c e))) : o.upon C.P a (PostOp C st o.dst K) Q r := by
  refine upon_value _ _ _ _ _ hrun ⟨_, hk, ?_⟩
  obtain ⟨h1, h2⟩ := h.newH (e := e) hr hl
  refine SRepG.fin (st := st) st.L _ none rfl h1 hN (fun _ => ?_)
  simp only [Option.getD_some, ERep, VRep]
  exact ⟨w.heap.size, 0, cap, c.size, by simp [newG], rfl, hc, by omega, bsz_row (al_new _ _), by omega⟩

theorem makeSlice_run {P : Program} {t e : TypeId} {inf : TypeInfo} {zv : Value} {n : Int} {k k' : IntKind} (hu : P.underlying t = some (.slice e)) (hi : P.info? e = some inf) (hz : inf.zero = some zv)
    (h0 : 0 ≤ n) (hn : n ≤ 2 ^ 32) (hb : inf.bytes ≤ 2 ^ 10) (w : World) :
    (Instr.makeSlice t (.int k n) (.int k' n)).run P w = .ok (.slice (some ⟨w.heap.size, 0, none⟩) n.toNat n.toNat)
      (w.alloc (.cells ((Array.range (n.toNat * inf.size)).map (fun i => (if n.toNat * inf.size = 0 then #[] else zv.cells)[i % (if n.toNat * inf.size = 0 then #[] else zv.cells).size]!)) e)) := by
  have hw : IntKind.i64.wrap n = n := IntWalk.i64_in _ (by omega)
  have hti : (typeInfo e).run P w = .ok inf w := by simp [typeInfo, hi, Sem.run_bind]
  have hs : (sizeOf e).run P w = .ok inf.size w := by simp [sizeOf, hti, Sem.run_bind]
  have hzr : (zeroValue e).run P w = .ok zv w := by simp [zeroValue, hti, Sem.run_bind, hz]
  have hnn : ¬ n < 0 := by omega
  have hbig : ¬ ((inf.bytes : Int) * n > 2 ^ 48) := by
    have h1 : (inf.bytes : Int) ≤ 2 ^ 10 := by exact_mod_cast hb
    have := Int.mul_le_mul h1 hn h0 (by omega)
    omega
  have hroom : ¬ n.toNat * inf.bytes > roomBytes := by
    have h1 : n.toNat ≤ 2 ^ 32 := by omega
    have := Nat.mul_le_mul h1 hb
    simp only [roomBytes]; omega
  simp only [Instr.makeSlice, Sem.run_bind, run_underlying hu, Result.andThen_ok, asInt, asIntOf, Sem.run_pure, hti, hw, hs]
  simp only [hnn, decide_false, hbig, Bool.or_false, Int.lt_irrefl, gt_iff_lt, Bool.false_eq_true, if_false, askRoom, hroom, Sem.run_pure, Result.andThen_ok]
  by_cases hz0 : n.toNat * inf.size = 0
  · simp [hs, hz0, Sem.run_bind, newRow, newObj, Sem.run]
  · simp [hs, hz0, Sem.run_bind, newRow, newObj, Sem.run, hzr]

theorem load_run {P : Program} {xs : List AV} {b o m : Nat} (hc : CRep w g xs b o) (hm : m ≤ xs.length) :
    ∃ arr : Array Value, (loadCells ⟨b, o, none⟩ m).run P w = .ok arr w ∧ LRep w g (xs.take m) arr.toList ∧ ∀ y ∈ arr.toList, y.oneCell' = true := by
  obtain ⟨vs, k1, k2, k3, k4⟩ := CRep_vals hc
  have hl := run_loadCells_list (P := P) w ⟨b, o, none⟩ (vs.take m) (fun j v hv => by
    rw [List.getElem?_take] at hv
    split at hv
    · rw [Addr.add_mid]; exact k1 j v hv
    · simp at hv)
  rw [show (vs.take m).length = m from by simp; omega] at hl
  refine ⟨_, hl, ?_, fun y hy => k4 y (List.mem_of_mem_take (by simpa using hy))⟩
  rw [LRep_iff] at k2 ⊢
  refine ⟨by simp [k3], fun i c v h1 h2 => ?_⟩
  simp only [List.getElem?_take] at h1 h2
  split at h1
  · rename_i hi; simp only [hi, if_true] at h2; exact k2.2 i c v h1 h2
  · simp at h1

theorem src_run {P : Program} {H : List (List AV)} (hw : WRep w g H) {x : AV} {X : Value} {sz n : Nat} {xs : List AV} (hs : srcX H sz x = some (n, xs)) (hv : VRep w g x X) :
    xs.length = n * sz ∧ ∃ ao cap, X = .slice ao n cap ∧ ∀ m, m ≤ n → ∃ arr : Array Value, (Builtin.firstCells sz m X).run P w = .ok arr w ∧ LRep w g (xs.take (m * sz)) arr.toList ∧ ∀ y ∈ arr.toList, y.oneCell' = true := by
  unfold srcX at hs
  split at hs
  · simp only [Option.some.injEq, Prod.mk.injEq] at hs; obtain ⟨rfl, rfl⟩ := hs
    simp only [VRep] at hv; subst hv
    exact ⟨by simp, none, 0, rfl, fun m hm => ⟨#[], rfl, by simp [LRep], by simp⟩⟩
  · simp only [Option.bind_eq_some_iff, Option.map_eq_some_iff, Prod.mk.injEq] at hs
    obtain ⟨len, h1, l, h2, rfl, rfl⟩ := hs
    obtain ⟨ao, cap, rfl, hcap, hb⟩ := slice_form h1 hv
    have hll : l.length = len * sz := by
      unfold sread at h2
      split at h2
      · exact (gc_get h2).1
      · simp only [Option.bind_eq_some_iff] at h2
        obtain ⟨cs, _, h2⟩ := h2
        split at h2
        · exact (gc_get h2).1
        · simp at h2
      · simp at h2
    refine ⟨hll, ao, cap, rfl, fun m hm => ?_⟩
    rcases Nat.eq_zero_or_pos len with h0 | h0
    · subst h0
      have : m = 0 := by omega
      subst this
      cases ao with
      | none => exact ⟨#[], rfl, by simp [LRep], by simp⟩
      | some q => exact ⟨#[], by simp [Builtin.firstCells, loadCells, loadCellsFrom], by simp [LRep], by simp⟩
    · obtain ⟨b, o, rfl, hbase⟩ := hb h0
      obtain ⟨k1, k2⟩ := sread_rep hw hbase h2
      rw [Nat.add_zero] at k1
      obtain ⟨arr, j1, j2⟩ := load_run (P := P) (m := m * sz) k1 (by rw [k2]; exact Nat.mul_le_mul_right _ hm)
      exact ⟨arr, j1, j2⟩

theorem growBy_le (newLen : Nat) : ∀ (r c : Nat), c ≤ newLen + (newLen + 768) / 4 → Builtin.growBy newLen r c ≤ newLen + (newLen + 768) / 4
  | 0, c, h => h
  | r + 1, c, h => by
    simp only [Builtin.growBy]
    split
    · exact h
    · exact growBy_le newLen r _ (by omega)
theorem nextcap_le (need cap : Nat) (h : cap < need) : Builtin.nextslicecap need cap ≤ 2 * need + 512 := by
  unfold Builtin.nextslicecap
  split
  · omega
  · split
    · omega
    · have := growBy_le need 4 cap (by omega)
      omega

theorem zeroCells_size (z : Array Value) (n : Nat) : (Builtin.zeroCells z n).size = n * z.size := by simp [Builtin.zeroCells]

theorem append_grow_run {P : Program} {t tx e ex : TypeId} {inf : TypeInfo} {zv : Value} (hu : P.underlying t = some (.slice e)) (hux : P.underlying tx = some (.slice ex)) (hi : P.info? e = some inf) (hz : inf.zero = some zv)
    {base bx : Option Addr} {len cap n capx : Nat} {ts : Array TypeId} {args : Array Value} (hts0 : ts[0]? = some t) (hts1 : ts[1]? = some tx) (ha0 : args[0]? = some (.slice base len cap)) (ha1 : args[1]? = some (.slice bx n capx))
    (hb : inf.bytes ≤ 2 ^ 10) (hb0 : 0 < inf.bytes) (hle : len + n ≤ 2 ^ 32) (hlt : cap < len + n) {old new : Array Value} {ty : TypeId}
    (ho : (Builtin.firstCells inf.size len (.slice base len cap)).run P { w with drawn := w.drawn + 1 } = .ok old { w with drawn := w.drawn + 1 })
    (hnw : (Builtin.firstCells inf.size n (.slice bx n capx)).run P { w with drawn := w.drawn + 1 } = .ok new { w with drawn := w.drawn + 1 }) :
    ∃ (nc : Nat), len + n ≤ nc ∧
      (Builtin.append_ ts ty args).run P w = .ok (.slice (some ⟨w.heap.size, 0, none⟩) (len + n) nc) (({ w with drawn := w.drawn + 1 } : World).alloc (.cells (old ++ new ++ Builtin.zeroCells zv.cells (nc - (len + n))) e)) := by
  have hti : ∀ w : World, (typeInfo e).run P w = .ok inf w := fun w => by simp [typeInfo, hi, Sem.run_bind]
  have hs : ∀ w : World, (sizeOf e).run P w = .ok inf.size w := fun w => by simp [sizeOf, hti, Sem.run_bind]
  have hzr : ∀ w : World, (zeroValue e).run P w = .ok zv w := fun w => by simp [zeroValue, hti, Sem.run_bind, hz]
  have hnc : ¬ len + n ≤ cap := by omega
  have hbig : ¬ (Builtin.nextslicecap (len + n) cap * inf.bytes > 2 ^ 48) := by
    have h1 := nextcap_le (len + n) cap hlt
    have h2 : Builtin.nextslicecap (len + n) cap ≤ 2 ^ 34 := by omega
    have := Nat.mul_le_mul h2 hb
    omega
  have hbne : ¬ inf.bytes = 0 := by omega
  let nc := len + n + w.tape w.drawn (.appendCap (len + n) cap e) % (2 ^ 63 - (len + n))
  refine ⟨nc, by omega, ?_⟩
  have hroom : ∀ (k : Nat) (w : World), (askRoom k).run P w = .ok () w := by
    intro k w; unfold askRoom; split <;> rfl
  simp only [Builtin.append_, hts0, hts1, ha0, ha1, Sem.run_bind, run_underlying hu, run_underlying hux, Result.andThen_ok, hs, Builtin.lenOf, Sem.run_pure, hnc, if_false, hti,
    Bool.false_eq_true, false_or, hbne, and_false, hbig, choose, Sem.run, Question.forced, hroom, Bool.not_false, if_true]
  simp only [ho, hnw, hzr, Result.andThen_ok, newRow, newObj, Sem.run_bind, Sem.run, Question.cut, Sem.run_pure]
  rfl
end
end Go.Sx

set_option linter.unusedVariables false
set_option linter.unusedSimpArgs false
namespace Go.Sx
section
variable {C : Cx} {st : St} {a : Act} {w : World} {g : Gh} {lam : Nat → Nat}

theorem buildSlice_sound (h : SRepG C st a w g lam) {o : Oper} (hN : ∀ d, o.dst = some d → d < C.N) {t len : Nat} {parts : Array (Nat × Operand)} (hop : o.op = .buildSlice t len parts)
    {s by_ : Nat} {zc cs : List AV} (he : einfo C.P t = some (s, by_, zc)) (hf : fillA (fun i => some (i * s, s)) (zrep len zc) (parts.toList.map fun (i, x) => (i, (st.ev x).asV)) = some cs)
    (hzl : zc.length = s) (hs0 : 0 < s) (hb : len * s ≤ 2 ^ 24) {K : Eff → Prop}
    (hk : if o.dst.any C.cfg.fz.contains then K ⟨some (.val (.sl none len cs)), none, st.H⟩ else K ⟨some (.val (.slm st.H.length cs.length 0 len s)), none, st.H ++ [cs]⟩) (Q : Exit → Act → World → Prop) :
    o.upon C.P a (PostOp C st o.dst K) Q ((execOp a.eval o).run C.P w) := by
  obtain ⟨e, inf, zv, hu, hi, rfl, _, hz, hc⟩ := einfo_eq he
  obtain ⟨hzr, hzo⟩ := cells_rep (w := w) (g := g) hc (aOf_rep w g zv)
  obtain ⟨hr, ho⟩ := zrep_rep hzr hzo len
  rw [hzl] at hr ho
  obtain ⟨vo, k1, k2, k3⟩ := fillA_rep (vparts := (parts.map fun (p : Nat × Operand) => (p.1, a.eval p.2)).toList) hr ho hf (by simp [List.map_map, Function.comp_def]) (by
    intro i p q v h1 h2 h3
    simp only [Array.toList_map, List.getElem?_map, Option.map_eq_some_iff] at h1 h2
    obtain ⟨r, hr, rfl⟩ := h1
    obtain ⟨r', hr', rfl⟩ := h2
    rw [hr] at hr'; simp only [Option.some.injEq] at hr'; subst hr'
    exact h.evV (asV_eq h3))
  have hcl : cs.length = len * inf.size := by
    have : ∀ (ps : List (Nat × Option AV)) (x y : List AV), fillA (fun i => some (i * inf.size, inf.size)) x ps = some y → y.length = x.length := by
      intro ps
      induction ps with
      | nil => intro x y hxy; simp [fillA] at hxy; rw [hxy]
      | cons p ps ih =>
        intro x y hxy
        simp only [fillA] at hxy
        split at hxy
        · split at hxy
          · simp at hxy
          · rw [ih _ _ hxy, sc_length]
        · simp at hxy
    rw [this _ _ _ hf, zrep_length, hzl]
  have hvl : vo.size = cs.length := by have := LRep_length k2; simpa using this
  have hti : (typeInfo e).run C.P w = .ok inf w := by simp [typeInfo, hi, Sem.run_bind]
  have hsz : (sizeOf e).run C.P w = .ok inf.size w := by simp [sizeOf, hti, Sem.run_bind]
  have hzrun : (zeroValue e).run C.P w = .ok zv w := by simp [zeroValue, hti, Sem.run_bind, hz]
  have hpt : (parts.map fun x => match x with | (i, x) => (i, a.eval x)) = parts.map fun (p : Nat × Operand) => (p.1, a.eval p.2) := rfl
  have hnb : ¬ len * inf.size > 2 ^ 24 := by omega
  have hrun : (execOp a.eval o).run C.P w = .ok (.value (.slice (some ⟨w.heap.size, 0, none⟩) len len)) (w.alloc (.cells vo e)) := by
    simp only [execOp, hop, Instr.buildSlice, Sem.run_bind, run_underlying hu, Result.andThen_ok, hsz, hnb, if_false]
    by_cases h0 : len * inf.size = 0
    · have hr0 : ((Array.range (len * inf.size)).map (fun i => zv.cells[i % zv.cells.size]!)) = ((Array.range (len * inf.size)).map (fun i => (#[] : Array Value)[i % (#[] : Array Value).size]!)) := by simp [h0]
      rw [hpt]
      rw [hr0] at k1
      simp only [h0, if_true, Sem.run_bind, Sem.run_pure, Result.andThen_ok] at k1 ⊢
      rw [k1]
      simp [Sem.run_bind, newRow, newObj, Sem.run]
    · rw [hpt]
      simp only [h0, if_false, Sem.run_bind, hzrun, Sem.run_pure, Result.andThen_ok]
      rw [k1]
      simp [Sem.run_bind, newRow, newObj, Sem.run]
  split at hk
  · obtain ⟨h1, h2⟩ := h.newF vo e
    refine upon_value _ _ _ _ _ hrun ⟨_, hk, SRepG.fin (st := st) st.L st.H none rfl h1 hN (fun _ => ?_)⟩
    simp only [Option.getD_some, ERep, VRep]
    have hx := (vals_of k2 k3).crep h2 (al_new w (.cells vo e))
    exact ⟨len, Nat.le_refl _, .inr ⟨w.heap.size, 0, rfl, by simp, .inr rfl, hx⟩⟩
  · exact newSl_sound h hN (c := vo) (e := e) (cap := len) (vals_of k2 k3) (by omega) (by omega) (Nat.le_refl _) (by omega) hk Q hrun

theorem makeSlice_sound (h : SRepG C st a w g lam) {o : Oper} (hN : ∀ d, o.dst = some d → d < C.N) {t : Nat} {l c : Operand} (hop : o.op = .makeSlice t l c)
    {s by_ : Nat} {zc : List AV} (he : einfo C.P t = some (s, by_, zc)) {k k' : IntKind} {n : Int} (hl : (st.ev l).asI = some (k, n)) (hcap : (st.ev c).asI = some (k', n))
    (h0 : 0 ≤ n) (hn : n ≤ 2 ^ 32) (hby : by_ ≤ 2 ^ 10) (hzl : zc.length = s) (hs0 : 0 < s) {K : Eff → Prop}
    (hk : K ⟨some (.val (.slm st.H.length (zrep n.toNat zc).length 0 n.toNat s)), none, st.H ++ [zrep n.toNat zc]⟩) (Q : Exit → Act → World → Prop) :
    o.upon C.P a (PostOp C st o.dst K) Q ((execOp a.eval o).run C.P w) := by
  obtain ⟨e, inf, zv, hu, hi, rfl, rfl, hz, hc⟩ := einfo_eq he
  obtain ⟨hzr, hzo⟩ := cells_rep (w := w) (g := g) hc (aOf_rep w g zv)
  obtain ⟨hr, ho⟩ := zrep_rep hzr hzo n.toNat
  rw [hzl] at hr ho
  have hrun := makeSlice_run (P := C.P) (k := k) (k' := k') hu hi hz h0 hn hby w
  have hcells : ((Array.range (n.toNat * inf.size)).map (fun i => (if n.toNat * inf.size = 0 then #[] else zv.cells)[i % (if n.toNat * inf.size = 0 then #[] else zv.cells).size]!)) =
      ((Array.range (n.toNat * inf.size)).map (fun i => zv.cells[i % zv.cells.size]!)) := by
    by_cases hz0 : n.toNat * inf.size = 0
    · simp [hz0]
    · simp [hz0]
  rw [hcells] at hrun
  have hzz : (zrep n.toNat zc).length = n.toNat * inf.size := by rw [zrep_length, hzl]
  refine newSl_sound h hN (e := e) (cap := n.toNat) (vals_of hr ho) (by rw [hzz]; simp) (by rw [hzz]; exact Nat.le_refl _) (Nat.le_refl _) (by simp) hk Q ?_
  simp only [execOp, hop, h.evI hl, h.evI hcap, Sem.run_bind, hrun, Result.andThen_ok, Sem.run_pure]

theorem app_vals {cs xs : List AV} {c : Array Value} {arr : List Value} {δ : Nat} (h : Vals w g cs c δ) (hv : LRep w g xs arr) (ho : ∀ y ∈ arr, y.oneCell' = true) (hc : δ + cs.length + xs.length ≤ c.size) :
    Vals w g (cs ++ xs) (c.toList.take (δ + cs.length) ++ arr ++ c.toList.drop (δ + cs.length + arr.length)).toArray δ := by
  have hl := LRep_length hv
  rw [LRep_iff] at hv
  have ht : (c.toList.take (δ + cs.length)).length = δ + cs.length := by simp; omega
  intro i cv hi
  by_cases h1 : i < cs.length
  · rw [List.getElem?_append_left h1] at hi
    obtain ⟨v, k1, k2, k3⟩ := h i cv hi
    refine ⟨v, ?_, k2, k3⟩
    simp only [List.getElem?_toArray]
    rw [List.append_assoc, List.getElem?_append_left (by rw [ht]; omega), List.getElem?_take, if_pos (by omega)]
    simpa using k1
  · rw [List.getElem?_append_right (by omega)] at hi
    have hlt : i - cs.length < xs.length := (List.getElem?_eq_some_iff.1 hi).1
    have hlt' : i - cs.length < arr.length := by omega
    refine ⟨arr[i - cs.length], ?_, ho _ (by simp), hv.2 _ cv _ hi (by simp [hlt'])⟩
    simp only [List.getElem?_toArray]
    rw [List.append_assoc, List.getElem?_append_right (by rw [ht]; omega), List.getElem?_append_left (by rw [ht]; omega), ht]
    rw [show δ + i - (δ + cs.length) = i - cs.length from by omega]
    simp [hlt']

theorem append_room_run {P : Program} {t tx e ex : TypeId} {inf : TypeInfo} (hu : P.underlying t = some (.slice e)) (hux : P.underlying tx = some (.slice ex)) (hi : P.info? e = some inf)
    {b o : Nat} {bx : Option Addr} {len cap n capx : Nat} {ts : Array TypeId} {args : Array Value} (hts0 : ts[0]? = some t) (hts1 : ts[1]? = some tx)
    (ha0 : args[0]? = some (.slice (some ⟨b, o, none⟩) len cap)) (ha1 : args[1]? = some (.slice bx n capx)) (hle : len + n ≤ cap) {new : Array Value} {ty : TypeId} {w' : World}
    (hnw : (Builtin.firstCells inf.size n (.slice bx n capx)).run P w = .ok new w)
    (hst : (storeCells ⟨b, o + len * inf.size, none⟩ new.toList).run P w = .ok () w') :
    (Builtin.append_ ts ty args).run P w = .ok (.slice (some ⟨b, o, none⟩) (len + n) cap) w' := by
  have hs : (sizeOf e).run P w = .ok inf.size w := by simp [sizeOf, typeInfo, hi, Sem.run_bind]
  simp only [Builtin.append_, hts0, hts1, ha0, ha1, Sem.run_bind, run_underlying hu, run_underlying hux, Result.andThen_ok, hs, Builtin.lenOf, Sem.run_pure, hle, if_true,
    Bool.not_false, hnw, Addr.add_mid, hst]
  simp [hnw, hst, Addr.add_mid]
  intro hh; omega
end
end Go.Sx

set_option linter.unusedVariables false
set_option linter.unusedSimpArgs false
namespace Go.Sx
section
variable {C : Cx} {st : St} {a : Act} {w : World} {g : Gh} {lam : Nat → Nat}

theorem telem_eq {P : Program} {t e : TypeId} (h : telem P t = some e) : P.underlying t = some (.slice e) := by
  unfold telem at h
  split at h
  · simp only [Option.some.injEq] at h; subst h; assumption
  · simp at h

theorem exec_builtin {o : Oper} {b : Builtin} {args : Array Operand} {ts : Array TypeId} (hop : o.op = .call { callee := .builtin b, args := args, argTypes := ts }) (ρ : Operand → Value) (P : Program) (w : World) :
    (execOp ρ o).run P w = (builtin b ts o.type (args.map fun | .const _ => true | _ => false) (args.map ρ)).run P w := by
  simp only [execOp, hop, resolve, invoke, Sem.run_bind, Sem.run_pure, Result.andThen_ok]
  rfl

theorem two_args {args : Array Operand} {s x : AV} (h : args.toList.map (fun x => (st.ev x).asV) = [some s, some x]) :
    ∃ p q, args = #[p, q] ∧ st.ev p = .val s ∧ st.ev q = .val x := by
  rcases args with ⟨l⟩
  simp only [List.map_eq_cons_iff, List.map_eq_nil_iff] at h
  obtain ⟨p, _, rfl, h1, q, _, rfl, h2, rfl⟩ := h
  exact ⟨p, q, rfl, asV_eq h1, asV_eq h2⟩
theorem two_ts {ts : Array TypeId} {t tx : TypeId} (h : ts.toList = [t, tx]) : ts = #[t, tx] := by cases ts; simp_all

theorem zsize_of {zv : Value} {zc : List AV} (w : World) (g : Gh) (hc : (aOf zv).cells = some zc) : zv.cells.size = zc.length := by
  have := LRep_length (cells_rep (w := w) (g := g) hc (aOf_rep w g zv)).1
  simpa using this

theorem append_sound (h : SRepG C st a w g lam) {o : Oper} (hN : ∀ d, o.dst = some d → d < C.N) {args : Array Operand} {ts : Array TypeId}
    (hop : o.op = .call { callee := .builtin .append, args := args, argTypes := ts }) {s x : AV} (ha : args.toList.map (fun x => (st.ev x).asV) = [some s, some x])
    {t tx ex : TypeId} (ht : ts.toList = [t, tx]) {sz by_ n : Nat} {zc xs : List AV} (he : einfo C.P t = some (sz, by_, zc)) (hex : telem C.P tx = some ex) (hs : srcX st.H sz x = some (n, xs))
    (hby : by_ ≤ 2 ^ 10) (hb0 : 0 < by_) (hzl : zc.length = sz) (hs0 : 0 < sz) {K : Eff → Prop} (hx : appX C.cfg sz st.H s n xs K) (Q : Exit → Act → World → Prop) :
    o.upon C.P a (PostOp C st o.dst K) Q ((execOp a.eval o).run C.P w) := by
  obtain ⟨p, q, rfl, hp, hq⟩ := two_args ha
  have := two_ts ht; subst this
  obtain ⟨e, inf, zv, hu, hi, rfl, rfl, hz, hc⟩ := einfo_eq he
  have hux := telem_eq hex
  have hzs := zsize_of w g hc
  let w₁ : World := { w with drawn := w.drawn + 1 }
  have h₁ : SRepG C st a w₁ g lam := h.still rfl ⟨rfl, rfl, rfl⟩
  obtain ⟨hxl, ax, capx, hX, hfc⟩ := src_run (P := C.P) h.wr hs (h.evV hq)
  obtain ⟨_, _, _, _, hfc₁⟩ := src_run (P := C.P) h₁.wr hs (h₁.evV hq)
  rw [exec_builtin hop]
  unfold appX at hx
  split at hx
  · -- nil
    obtain ⟨hn, hk0, hk1⟩ := hx
    have hS := h.evV hp
    simp only [VRep] at hS
    rcases Nat.eq_zero_or_pos n with h0 | h0
    · subst h0
      refine upon_value _ _ _ _ _ (x := .slice none 0 0) (w' := w) ?_ ⟨_, hk0 rfl, SRepG.fin (st := st) st.L st.H none rfl h hN (fun _ => by simp [ERep, VRep])⟩
      obtain ⟨arr, j1, j2, j3⟩ := hfc 0 (Nat.le_refl _)
      have hsz : (sizeOf e).run C.P w = .ok inf.size w := by simp [sizeOf, typeInfo, hi, Sem.run_bind]
      rw [hX] at j1
      simp [builtin, Builtin.append_, hS, hX, Sem.run_bind, run_underlying hu, run_underlying hux, hsz, Builtin.lenOf, j1]
    · obtain ⟨arr, j1, j2, j3⟩ := hfc₁ n (Nat.le_refl _)
      rw [hX] at j1
      obtain ⟨nc, hnc, hrun⟩ := append_grow_run (P := C.P) (w := w) (t := t) (tx := tx) (ts := #[t, tx]) (args := #[.slice none 0 0, .slice ax n capx]) (ty := o.type) hu hux hi hz (base := none) (bx := ax) (len := 0) (cap := 0) (n := n) (capx := capx) rfl rfl rfl rfl
        hby hb0 (by omega) (by omega) (old := #[]) (new := arr) rfl j1
      have hal : arr.size = n * inf.size := by have := LRep_length j2; simp [hxl] at this; omega
      rw [Nat.zero_add] at hnc hrun
      have htk : xs.take (n * inf.size) = xs := List.take_of_length_le (by omega)
      rw [htk] at j2
      have hcs : (#[] ++ arr ++ Builtin.zeroCells zv.cells (nc - n)).size = nc * inf.size := by
        simp only [Array.size_append, zeroCells_size, hal, hzs, hzl, Array.size_empty, Nat.zero_add, Nat.sub_mul]
        have := Nat.mul_le_mul_right inf.size hnc
        omega
      have hV : Vals w₁ g xs (#[] ++ arr ++ Builtin.zeroCells zv.cells (nc - n)) 0 := by
        intro i cv hi'
        obtain ⟨v, k1, k2, k3⟩ := vals_of j2 j3 i cv hi'
        refine ⟨v, ?_, k2, k3⟩
        have hlt : 0 + i < arr.size := (Array.getElem?_eq_some_iff.1 k1).1
        simp only [Array.empty_append]
        rw [Array.getElem?_append_left hlt]; exact k1
      refine newSl_sound h₁ hN (e := e) (cap := nc) (c := #[] ++ arr ++ Builtin.zeroCells zv.cells (nc - n)) (s := inf.size) hV (by rw [hcs, hxl]; exact Nat.mul_le_mul_right _ hnc) (by omega) hnc (by omega) (hk1 (by omega)) Q ?_
      have hargs : (#[p, q].map a.eval) = #[.slice none 0 0, .slice ax n capx] := by simp [hS, hX]
      rw [hargs]
      simp only [builtin, Sem.run_bind, hrun, Result.andThen_ok, Sem.run_pure]
      rfl
  · -- a block
    rename_i id gen o' len z
    split at hx
    case h_2 => exact hx.elim
    rename_i cs hcs
    obtain ⟨rfl, hg, rfl, hlg, hle, hold, hk⟩ := hx
    have hS := h.evV hp
    have hS₁ := h₁.evV hp
    simp only [VRep] at hS
    obtain ⟨b, δ, cap, m, k1, k2, k3, k4, k5, k6⟩ := hS
    rw [Nat.add_zero] at k2 k6
    rw [← hg] at k1
    obtain ⟨b', δ', c, e', q1, q2, q3, q4, q5, q6⟩ := h.wr.blk id cs hcs
    rw [k1] at q1; simp only [Option.some.injEq, Prod.mk.injEq] at q1; obtain ⟨rfl, rfl⟩ := q1
    rw [bsz_row q2] at k5; simp only [Option.some.injEq] at k5; subst k5
    have hcl : cs.length = len * inf.size := by omega
    have hmx : C.cfg.n0 ≤ id ∨ mxL (cs ++ xs) ≤ C.cfg.n0 := by
      rcases Nat.lt_or_ge id C.cfg.n0 with hlt | hge
      · right
        rcases hold with h1 | h1
        · omega
        · rw [mxL_append]
          have := h.om id cs hlt hcs
          omega
      · exact .inl hge
    have hargs : (#[p, q].map a.eval) = #[.slice (some ⟨b, δ, none⟩) len cap, .slice ax n capx] := by simp [k2, hX]
    rw [hargs]
    by_cases hroom : len + n ≤ cap
    · obtain ⟨arr, j1, j2, j3⟩ := hfc n (Nat.le_refl _)
      have htk : xs.take (n * inf.size) = xs := List.take_of_length_le (by omega)
      rw [htk] at j2
      have hal : arr.toList.length = xs.length := LRep_length j2
      have hmul : (len + n) * inf.size ≤ cap * inf.size := Nat.mul_le_mul_right _ hroom
      rw [Nat.add_mul] at hmul
      have hst := run_storeCells_at C.P b (δ + len * inf.size) e' arr.toList 0 c w q2 (by rw [hal]; omega) j3
      rw [hX] at j1
      have hrun := append_room_run (P := C.P) (w := w) (ts := #[t, tx]) (args := #[.slice (some ⟨b, δ, none⟩) len cap, .slice ax n capx]) (ty := o.type) hu hux hi rfl rfl rfl rfl hroom j1 hst
      rw [Nat.add_zero, ← hcl] at hrun
      have hV := app_vals (Vals.of_crep q4 q2) j2 j3 (by rw [hxl]; omega)
      have hnew := setRow_heap w b c (c.toList.take (δ + cs.length) ++ arr.toList ++ c.toList.drop (δ + cs.length + arr.toList.length)).toArray e' _ q2
      have hsz : (c.toList.take (δ + cs.length) ++ arr.toList ++ c.toList.drop (δ + cs.length + arr.toList.length)).toArray.size = c.size := patch_size (by rw [hal]; omega)
      obtain ⟨r1, r2⟩ := h.repl (cs' := cs ++ xs) (b' := b) (δ' := δ) (e := e') hcs k1 (by simp) hmx (w' := w.setRow b _) (by rw [setRow_size]; exact Nat.le_refl _)
        (fun k _ hk' => setRow_other w b k _ hk') (fun n' hn' => by rw [bsz_row q2] at hn'; rw [bsz_row hnew, hsz]; exact hn')
        (fun o => (fro_zero hnew).trans (fro_zero q2).symm) (setRow_same w b _) hnew (.inl ⟨rfl, rfl⟩) hV (by rw [hsz]; simp; omega)
        (fun a' ha' => (fro_zero (by rw [ha']; exact hnew)).trans (fro_zero (by rw [ha']; exact q2)).symm)
      refine upon_value _ _ _ _ _ (x := .slice (some ⟨b, δ, none⟩) (len + n) cap) (w' := w.setRow b (c.toList.take (δ + cs.length) ++ arr.toList ++ c.toList.drop (δ + cs.length + arr.toList.length)).toArray)
        (by simp only [builtin, Sem.run_bind, hrun, Result.andThen_ok, Sem.run_pure]) ⟨_, hk, ?_⟩
      refine SRepG.fin (st := st) st.L _ none rfl r1 hN (fun _ => ?_)
      simp only [Option.getD_some, ERep, VRep]
      exact ⟨b, δ, cap, c.size, by simp [movG], rfl, hroom, by rw [Nat.add_mul]; omega, by rw [bsz_row hnew, hsz], by omega⟩
    · obtain ⟨arr, j1, j2, j3⟩ := hfc₁ n (Nat.le_refl _)
      rw [hX] at j1
      have htk : xs.take (n * inf.size) = xs := List.take_of_length_le (by omega)
      rw [htk] at j2
      have hold' : SBase w₁ g (.slm id gen 0 len inf.size) b δ := by simp only [SBase]; exact ⟨δ, by rw [← hg]; exact k1, rfl⟩
      have hcr : CRep w₁ g cs b δ := CRep.ext (Ext.heap (w := w) (w' := w₁) g rfl) rfl q4
      obtain ⟨old, o1, o2, o3⟩ := load_run (P := C.P) (m := len * inf.size) hcr (by omega)
      have htk2 : cs.take (len * inf.size) = cs := List.take_of_length_le (by omega)
      rw [htk2] at o2
      have hol : old.size = len * inf.size := by have := LRep_length o2; simp at this; omega
      have hal : arr.size = n * inf.size := by have := LRep_length j2; simp at this; omega
      obtain ⟨nc, hnc, hrun⟩ := append_grow_run (P := C.P) (w := w) (t := t) (tx := tx) (ts := #[t, tx]) (args := #[.slice (some ⟨b, δ, none⟩) len cap, .slice ax n capx]) (ty := o.type) hu hux hi hz
        (base := some ⟨b, δ, none⟩) (bx := ax) (len := len) (cap := cap) (n := n) (capx := capx) rfl rfl rfl rfl hby hb0 hle (by omega) (old := old) (new := arr) o1 j1
      have hcc : (old ++ arr ++ Builtin.zeroCells zv.cells (nc - (len + n))).size = nc * inf.size := by
        simp only [Array.size_append, zeroCells_size, hal, hol, hzs, hzl, Nat.sub_mul, Nat.add_mul]
        have := Nat.mul_le_mul_right inf.size hnc
        rw [Nat.add_mul] at this
        omega
      have hV : Vals w g (cs ++ xs) (old ++ arr ++ Builtin.zeroCells zv.cells (nc - (len + n))) 0 := by
        have hex : Ext w₁ g w g := Ext.heap g rfl
        intro i cv hi'
        rw [Nat.zero_add]
        by_cases hlt : i < cs.length
        · rw [List.getElem?_append_left hlt] at hi'
          obtain ⟨v, y1, y2, y3⟩ := vals_of o2 o3 i cv hi'
          rw [Nat.zero_add] at y1
          refine ⟨v, ?_, y2, y3.ext hex⟩
          have hlt' : i < old.size := by omega
          rw [Array.append_assoc, Array.getElem?_append_left hlt']; exact y1
        · rw [List.getElem?_append_right (by omega)] at hi'
          obtain ⟨v, y1, y2, y3⟩ := vals_of j2 j3 _ cv hi'
          rw [Nat.zero_add] at y1
          refine ⟨v, ?_, y2, y3.ext hex⟩
          have hlt' : i - old.size < arr.size := by have := (List.getElem?_eq_some_iff.1 hi').1; omega
          rw [Array.append_assoc, Array.getElem?_append_right (by omega), Array.getElem?_append_left hlt']
          rw [show i - old.size = i - cs.length from by omega]; exact y1
      have hpos : 0 < n := by omega
      have hxpos : 0 < xs.length := by rw [hxl]; exact Nat.mul_pos hpos hs0
      obtain ⟨r1, r2⟩ := h.repl (cs' := cs ++ xs) (b' := w.heap.size) (δ' := 0) (e := e) hcs k1 (by simp) hmx (w' := w₁.alloc (.cells (old ++ arr ++ Builtin.zeroCells zv.cells (nc - (len + n))) e))
        (by rw [al_size]; show w.heap.size ≤ w.heap.size + 1; omega) (fun k hk' _ => al_old w₁ _ hk') (fun n' hn' => by rw [bsz_eq (al_old w₁ _ (bsz_lt hn'))]; exact hn')
        (fun o => fro_eq (al_old w₁ _ (Array.getElem?_eq_some_iff.1 q2).1)) ⟨rfl, rfl, rfl⟩ (al_new w₁ _) (.inr ⟨rfl, by simp; omega⟩) hV (by rw [hcc]; simp; rw [hcl, hxl, ← Nat.add_mul]; exact Nat.mul_le_mul_right _ hnc)
        (fun a' ha' => fro_eq (al_old w₁ _ (by rw [ha']; exact (Array.getElem?_eq_some_iff.1 q2).1)))
      refine upon_value _ _ _ _ _ (x := .slice (some ⟨w.heap.size, 0, none⟩) (len + n) nc) (by simp only [builtin, Sem.run_bind, hrun, Result.andThen_ok, Sem.run_pure]; rfl) ⟨_, hk, ?_⟩
      refine SRepG.fin (st := st) st.L _ none rfl r1 hN (fun _ => ?_)
      simp only [Option.getD_some, ERep, VRep]
      exact ⟨w.heap.size, 0, nc, nc * inf.size, by simp [movG], rfl, hnc, by rw [Nat.add_mul]; omega, by rw [← hcc]; exact bsz_row (al_new w₁ _), by omega⟩
  · exact hx.elim
end
end Go.Sx

set_option linter.unusedVariables false
set_option linter.unusedSimpArgs false
namespace Go.Sx
section
variable {C : Cx} {st : St} {a : Act} {w : World} {g : Gh} {lam : Nat → Nat}

theorem LRep_append {w : World} {g : Gh} : ∀ {xs ys : List AV} {vs us : List Value}, LRep w g xs vs → LRep w g ys us → LRep w g (xs ++ ys) (vs ++ us)
  | [], ys, vs, us, h, k => by simp only [LRep] at h; subst h; exact k
  | x :: xs, ys, vs, us, h, k => by
    simp only [LRep] at h
    obtain ⟨v, rest, rfl, h1, h2⟩ := h
    simp only [List.cons_append, LRep]
    exact ⟨v, rest ++ us, rfl, h1, LRep_append h2 k⟩

theorem copy_sound (h : SRepG C st a w g lam) {o : Oper} (hN : ∀ d, o.dst = some d → d < C.N) {args : Array Operand} {ts : Array TypeId}
    (hop : o.op = .call { callee := .builtin .copy, args := args, argTypes := ts }) {d x : AV} (ha : args.toList.map (fun x => (st.ev x).asV) = [some d, some x])
    {t tx ex : TypeId} (ht : ts.toList = [t, tx]) {sz n : Nat} {xs : List AV} (he : (telem C.P t).bind (tsz C.P) = some sz) (hs : srcX st.H sz x = some (n, xs))
    (hs0 : 0 < sz) {K : Eff → Prop} (hx : cpyX C.cfg sz st.H d n xs K) (Q : Exit → Act → World → Prop) :
    o.upon C.P a (PostOp C st o.dst K) Q ((execOp a.eval o).run C.P w) := by
  obtain ⟨p, q, rfl, hp, hq⟩ := two_args ha
  have := two_ts ht; subst this
  simp only [Option.bind_eq_some_iff] at he
  obtain ⟨e, he, hsz⟩ := he
  have hu := telem_eq he
  have hsr : (sizeOf e).run C.P w = .ok sz w := by
    unfold tsz at hsz
    simp only [Option.map_eq_some_iff] at hsz
    obtain ⟨i, hi, rfl⟩ := hsz
    simp [sizeOf, typeInfo, hi, Sem.run_bind]
  obtain ⟨hxl, ax, capx, hX, hfc⟩ := src_run (P := C.P) h.wr hs (h.evV hq)
  rw [exec_builtin hop]
  unfold cpyX at hx
  split at hx
  case h_2 => exact hx.elim
  rename_i id gen o' len z
  split at hx
  case h_2 => exact hx.elim
  rename_i cs hcs
  obtain ⟨rfl, hg, hold, hle, hk⟩ := hx
  have hS := h.evV hp
  simp only [VRep] at hS
  obtain ⟨b, δ, cap, m, k1, k2, k3, k4, k5, k6⟩ := hS
  rw [← hg] at k1
  obtain ⟨arr, j1, j2, j3⟩ := hfc (min n len) (Nat.min_le_left _ _)
  have hlen : (xs.take (min n len * z)).length = min n len * z := by
    have := Nat.mul_le_mul_right z (Nat.min_le_left n len)
    rw [List.length_take, hxl]; omega
  have hal : arr.toList.length = min n len * z := by rw [LRep_length j2, hlen]
  have hmul := Nat.mul_le_mul_right z (Nat.min_le_right n len)
  obtain ⟨c, e', q2, q3, r1⟩ := h.write (p := o') (vs := xs.take (min n len * z)) (xs := arr.toList) hcs k1 (by rw [hlen]; omega) (by
    rcases hold with h1 | h1
    · exact .inl h1
    · right; rw [mxL_le] at h1 ⊢
      intro i c hi
      rw [List.getElem?_take] at hi
      split at hi
      · exact h1 i c hi
      · simp at hi) j2 j3
  have hst := run_storeCells_at C.P b (δ + o') e' arr.toList 0 c w q2 (by rw [hal]; omega) j3
  rw [Nat.add_zero] at hst
  rw [hX] at j1
  have hargs : (#[p, q].map a.eval) = #[.slice (some ⟨b, δ + o', none⟩) len cap, .slice ax n capx] := by simp [k2, hX]
  rw [hargs]
  have hrun : (Builtin.copy_ #[t, tx] o.type #[.slice (some ⟨b, δ + o', none⟩) len cap, .slice ax n capx]).run C.P w =
      .ok (goInt (min n len : Nat)) (w.setRow b (c.toList.take (δ + o') ++ arr.toList ++ c.toList.drop (δ + o' + arr.toList.length)).toArray) := by
    have e0 : (#[t, tx] : Array TypeId)[0]? = some t := rfl
    have e1 : (#[Value.slice (some ⟨b, δ + o', none⟩) len cap, Value.slice ax n capx] : Array Value)[0]? = some (Value.slice (some ⟨b, δ + o', none⟩) len cap) := rfl
    have e2 : (#[Value.slice (some ⟨b, δ + o', none⟩) len cap, Value.slice ax n capx] : Array Value)[1]? = some (Value.slice ax n capx) := rfl
    have em : Nat.min n len = min n len := rfl
    simp only [Builtin.copy_, e0, e1, e2, Sem.run_bind, run_underlying hu, Result.andThen_ok, hsr, Builtin.lenOf, Sem.run_pure, em, j1, hst]
  refine upon_value _ _ _ _ _ (x := goInt (min n len : Nat)) (w' := w.setRow b (c.toList.take (δ + o') ++ arr.toList ++ c.toList.drop (δ + o' + arr.toList.length)).toArray)
    (by simp only [builtin, Sem.run_bind, hrun, Result.andThen_ok, Sem.run_pure]) ⟨_, hk, ?_⟩
  exact SRepG.fin (st := st) st.L _ none rfl r1 hN (fun _ => by simp [ERep, VRep, goInt])

theorem call_sound (h : SRepG C st a w g lam) {o : Oper} (hN : ∀ d, o.dst = some d → d < C.N) {args : Array Operand} {ts : Array TypeId} {f : Operand}
    (hop : o.op = .call { callee := .value f, args := args, argTypes := ts }) {id : Nat} {first caps vs : List AV} (hf : st.ev f = .val (.func id first caps)) (ha : argsX st.ev args.toList = some vs)
    {r : AV} {H' : List (List AV)} (hs : CSpec C.P id (first ++ vs ++ caps) st.H r H') (hold : OldOk C.cfg.n0 st.H H') {K : Eff → Prop} (hk : K ⟨some (.val r), none, H'⟩) (Q : Exit → Act → World → Prop) :
    o.upon C.P a (PostOp C st o.dst K) Q ((execOp a.eval o).run C.P w) := by
  have hF := h.evV hf
  simp only [VRep] at hF
  obtain ⟨fs, cs, hF, hfr, hcr⟩ := hF
  have hA := args_rep h ha
  have hrun : (execOp a.eval o).run C.P w = (callFunc id (fs ++ args.map a.eval ++ cs)).run C.P w := by
    simp only [execOp, hop, resolve, hF, Deferred.ofValue, invoke, Sem.run_bind, Sem.run_pure, Result.andThen_ok]
  have hL : LRep w g (first ++ vs ++ caps) (fs ++ args.map a.eval ++ cs).toList := by
    simp only [Array.toList_append, Array.toList_map]
    exact LRep_append (LRep_append hfr hA) hcr
  rw [hrun]
  rcases hs with ⟨hent, hsp⟩ | ⟨rfl, hx⟩
  · rw [hent]
    show Calls C.P id _ w _
    refine (hsp w g _ h.wr hL).mono fun e w' he => ?_
    obtain ⟨v, g', rfl, h1, h2, h3⟩ := he
    show PostOp C st o.dst K (a.put o.dst v) w'
    refine ⟨_, hk, ?_⟩
    have hx := h2.ext h.wr
    refine SRepG.fin (st := st) st.L H' none rfl (g := g') (lam := lam) ⟨h1, h.si.trans h.wr h2, ?_, fun t e he => ?_, h.defs, h.size, h.n0, fun id cs hid hc => ?_⟩ hN (fun _ => h3)
    · exact h.lr.step hx h2.keep h2.fznew h2.hb
    · obtain ⟨x, j1, j2⟩ := h.env t e he
      exact ⟨x, j1, j2.ext hx⟩
    · rcases hold id cs hid hc with j1 | j1
      · exact h.om id cs hid j1
      · exact j1
  · obtain ⟨v, h1, h2⟩ := hx w g _ hL
    refine upon_value _ _ _ _ _ h1 ⟨_, hk, ?_⟩
    exact SRepG.fin (st := st) st.L st.H none rfl h hN (fun _ => h2)

theorem op_sound (h : SRepG C st a w g lam) {o : Oper} (hN : ∀ d, o.dst = some d → d < C.N) {NL : Nat → Prop} (hNL : ∀ d, NL d → NoLoc st.ev d) {K : Eff → Prop}
    (hx : opE C.P C.cfg st.ev NL (lk st.L) st.H o K) (Q : Exit → Act → World → Prop) : o.wp C.P a w (PostOp C st o.dst K) Q := by
  unfold Oper.wp
  unfold opE at hx
  split at hx
  · rename_i t hop
    split at hx
    case h_2 => exact hx.elim
    rename_i cs hz
    simp only [Option.bind_eq_some_iff] at hz
    obtain ⟨z, hz, hcl⟩ := hz
    unfold tzero at hz
    simp only [Option.map_eq_some_iff, Option.bind_eq_some_iff] at hz
    obtain ⟨zv, ⟨inf, hi, hzv⟩, rfl⟩ := hz
    obtain ⟨hr, ho⟩ := cells_rep (w := w) (g := g) hcl (aOf_rep w g zv)
    refine newX_sound h hN hNL hx hr ho Q (t := t) ?_
    simp only [execOp, hop, Sem.run_bind, alloc_run hi hzv, Result.andThen_ok, Sem.run_pure]
  · rename_i t x hop
    split at hx
    case h_2 => exact hx.elim
    rename_i cs hz
    simp only [Option.bind_eq_some_iff] at hz
    obtain ⟨z, hz, hcl⟩ := hz
    obtain ⟨hr, ho⟩ := cells_rep hcl (h.evV (asV_eq hz))
    refine newX_sound h hN hNL hx hr ho Q (t := t) ?_
    simp [execOp, hop, Instr.box, newVar, newRow, newObj, Sem.run_bind, Sem.run]
  · rename_i t x v hop
    split at hx
    case h_2 => exact hx.elim
    rename_i vs hz
    simp only [Option.bind_eq_some_iff] at hz
    obtain ⟨z, hz, hcl⟩ := hz
    obtain ⟨h1, h2, h3⟩ := hx
    exact storeX_sound h h2 hop (asV_eq hz) hcl h1 h3 Q
  · rename_i t len parts hop
    split at hx
    case h_2 => exact hx.elim
    rename_i s by_ zc he
    split at hx
    case h_2 => exact hx.elim
    rename_i cs hf
    obtain ⟨h1, h2, h3, hk⟩ := hx
    exact buildSlice_sound h hN hop he hf h1 h2 h3 hk Q
  · rename_i t l c hop
    split at hx
    case h_2 => exact hx.elim
    rename_i s by_ zc k n k' m he hl hc
    obtain ⟨rfl, h1, h2, h3, h4, h5, hk⟩ := hx
    exact makeSlice_sound h hN hop he hl hc h1 h2 h3 h4 h5 hk Q
  · rename_i args ts hop
    split at hx
    case h_2 => exact hx.elim
    rename_i s x t tx ha ht
    split at hx
    case h_2 => exact hx.elim
    rename_i sz by_ zc ex he hex
    split at hx
    case h_2 => exact hx.elim
    rename_i n xs hs
    obtain ⟨h1, h2, h3, h4, h5⟩ := hx
    exact append_sound h hN hop ha ht he hex hs h1 h2 h3 h4 h5 Q
  · rename_i args ts hop
    split at hx
    case h_2 => exact hx.elim
    rename_i d x t tx ha ht
    split at hx
    case h_2 => exact hx.elim
    rename_i sz ex he hex
    split at hx
    case h_2 => exact hx.elim
    rename_i n xs hs
    exact copy_sound (ex := ex) h hN hop ha ht he hs hx.1 hx.2 Q
  · rename_i f args ts hop
    split at hx
    case h_2 => exact hx.elim
    rename_i id first caps vs hf ha
    obtain ⟨r, H', h1, h2, h3⟩ := hx
    exact call_sound h hN hop hf ha h1 h2 h3 Q
  · split at hx
    case h_2 => exact hx.elim
    rename_i c v hp
    obtain ⟨hc, hk⟩ := hx
    obtain ⟨x, w', h1, h2, h3, h4⟩ := pureV_sound h hp hc
    refine upon_value _ _ _ _ _ h1 ⟨_, hk, ?_⟩
    exact SRepG.fin (st := st) st.L st.H none rfl (h.still h2 h3) hN (fun _ => ERep.ext (Ext.heap g h2) h4)
end
end Go.Sx
