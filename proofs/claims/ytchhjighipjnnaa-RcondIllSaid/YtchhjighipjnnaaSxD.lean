/- A part of the proofs of this seat: SxD. No condition is set. -/
import Derived.Test.YtchhjighipjnnaaSxC
set_option linter.unusedVariables false
set_option linter.unusedSimpArgs false
namespace Go.Sx
section
variable {C : Cx} {st : St} {a : Act} {w : World} {g : Gh} {lam : Nat → Nat}

theorem buildSlice_sound (h : SRepG C st a w g lam) {o : Oper} (hN : ∀ d, o.dst = some d → d < C.N) {t len : Nat} {parts : Array (Nat × Operand)} (hop : o.op = .buildSlice t len parts)
    {s by_ : Nat} {zc cs : List AV} (he : einfo C.P t = some (s, by_, zc)) (hf : fillA (fun i => some (i * s, s)) (zrep len zc) (parts.toList.map fun (i, x) => (i, (st.ev x).asV)) = some cs)
    (hzl : zc.length = s) (hs0 : 0 < s) (hb : len * s ≤ 2 ^ 24) {K : Eff → Prop}
    (hk : if o.dst.any C.cfg.fz.contains then K ⟨some (.val (.sl none len cs)), none, st.H⟩ else K ⟨some (.val (.slm st.H.length cs.length 0 len s)), none, st.H ++ [cs]⟩) (Q : Exit → Act → World → Prop) :
    o.upon C.P a (PostOp C st o.dst K) Q ((execOp a.eval o).run C.P w) := by
  obtain ⟨e, inf, zv, hu, hi, rfl, _, hz, hc⟩ := einfo_eq he
  obtain ⟨hzr, hzo⟩ := cells_rep (w := w) (g := g) hc (aOf_rep w g zv)
  obtain ⟨hr, ho⟩ := zrep_rep hzr hzo len
  rw [hzl] at hr ho
  obtain ⟨vo, k1, k2, k3⟩ := fillA_rep (vparts := (parts.map fun (p : Nat × Operand) => (p.1, a.eval p.2)).toList) hr ho hf (by simp [List.map_map, Function.comp_def]) (by
    intro i p q v h1 h2 h3
    simp only [Array.toList_map, List.getElem?_map, Option.map_eq_some_iff] at h1 h2
    obtain ⟨r, hr, rfl⟩ := h1
    obtain ⟨r', hr', rfl⟩ := h2
    rw [hr] at hr'; simp only [Option.some.injEq] at hr'; subst hr'
    exact h.evV (asV_eq h3))
  have hcl : cs.length = len * inf.size := by
    have : ∀ (ps : List (Nat × Option AV)) (x y : List AV), fillA (fun i => some (i * inf.size, inf.size)) x ps = some y → y.length = x.length := by
      intro ps
      induction ps with
      | nil => intro x y hxy; simp [fillA] at hxy; rw [hxy]
      | cons p ps ih =>
        intro x y hxy
        simp only [fillA] at hxy
        split at hxy
        · split at hxy
          · simp at hxy
          · rw [ih _ _ hxy, sc_length]
        · simp at hxy
    rw [this _ _ _ hf, zrep_length, hzl]
  have hvl : vo.size = cs.length := by have := LRep_length k2; simpa using this
  have hti : (typeInfo e).run C.P w = .ok inf w := by simp [typeInfo, hi, Sem.run_bind]
  have hsz : (sizeOf e).run C.P w = .ok inf.size w := by simp [sizeOf, hti, Sem.run_bind]
  have hzrun : (zeroValue e).run C.P w = .ok zv w := by simp [zeroValue, hti, Sem.run_bind, hz]
  have hpt : (parts.map fun x => match x with | (i, x) => (i, a.eval x)) = parts.map fun (p : Nat × Operand) => (p.1, a.eval p.2) := rfl
  have hnb : ¬ len * inf.size > 2 ^ 24 := by omega
  have hrun : (execOp a.eval o).run C.P w = .ok (.value (.slice (some ⟨w.heap.size, 0, none⟩) len len)) (w.alloc (.cells vo e)) := by
    simp only [execOp, hop, Instr.buildSlice, Sem.run_bind, run_underlying hu, Result.andThen_ok, hsz, hnb, if_false]
    by_cases h0 : len * inf.size = 0
    · have hr0 : ((Array.range (len * inf.size)).map (fun i => zv.cells[i % zv.cells.size]!)) = ((Array.range (len * inf.size)).map (fun i => (#[] : Array Value)[i % (#[] : Array Value).size]!)) := by simp [h0]
      rw [hpt]
      rw [hr0] at k1
      simp only [h0, if_true, Sem.run_bind, Sem.run_pure, Result.andThen_ok] at k1 ⊢
      rw [k1]
      simp [Sem.run_bind, newRow, newObj, Sem.run]
    · rw [hpt]
      simp only [h0, if_false, Sem.run_bind, hzrun, Sem.run_pure, Result.andThen_ok]
      rw [k1]
      simp [Sem.run_bind, newRow, newObj, Sem.run]
  split at hk
  · obtain ⟨h1, h2⟩ := h.newF vo e
    refine upon_value _ _ _ _ _ hrun ⟨_, hk, SRepG.fin (st := st) st.L st.H none rfl h1 hN (fun _ => ?_)⟩
    simp only [Option.getD_some, ERep, VRep]
    have hx := (vals_of k2 k3).crep h2 (al_new w (.cells vo e))
    exact ⟨len, Nat.le_refl _, .inr ⟨w.heap.size, 0, rfl, by simp, .inr rfl, hx⟩⟩
  · exact newSl_sound h hN (c := vo) (e := e) (cap := len) (vals_of k2 k3) (by omega) (by omega) (Nat.le_refl _) (by omega) hk Q hrun

theorem makeSlice_sound (h : SRepG C st a w g lam) {o : Oper} (hN : ∀ d, o.dst = some d → d < C.N) {t : Nat} {l c : Operand} (hop : o.op = .makeSlice t l c)
    {s by_ : Nat} {zc : List AV} (he : einfo C.P t = some (s, by_, zc)) {k k' : IntKind} {n : Int} (hl : (st.ev l).asI = some (k, n)) (hcap : (st.ev c).asI = some (k', n))
    (h0 : 0 ≤ n) (hn : n ≤ 2 ^ 32) (hby : by_ ≤ 2 ^ 10) (hzl : zc.length = s) (hs0 : 0 < s) {K : Eff → Prop}
    (hk : K ⟨some (.val (.slm st.H.length (zrep n.toNat zc).length 0 n.toNat s)), none, st.H ++ [zrep n.toNat zc]⟩) (Q : Exit → Act → World → Prop) :
    o.upon C.P a (PostOp C st o.dst K) Q ((execOp a.eval o).run C.P w) := by
  obtain ⟨e, inf, zv, hu, hi, rfl, rfl, hz, hc⟩ := einfo_eq he
  obtain ⟨hzr, hzo⟩ := cells_rep (w := w) (g := g) hc (aOf_rep w g zv)
  obtain ⟨hr, ho⟩ := zrep_rep hzr hzo n.toNat
  rw [hzl] at hr ho
  have hrun := makeSlice_run (P := C.P) (k := k) (k' := k') hu hi hz h0 hn hby w
  have hcells : ((Array.range (n.toNat * inf.size)).map (fun i => (if n.toNat * inf.size = 0 then #[] else zv.cells)[i % (if n.toNat * inf.size = 0 then #[] else zv.cells).size]!)) =
      ((Array.range (n.toNat * inf.size)).map (fun i => zv.cells[i % zv.cells.size]!)) := by
    by_cases hz0 : n.toNat * inf.size = 0
    · simp [hz0]
    · simp [hz0]
  rw [hcells] at hrun
  have hzz : (zrep n.toNat zc).length = n.toNat * inf.size := by rw [zrep_length, hzl]
  refine newSl_sound h hN (e := e) (cap := n.toNat) (vals_of hr ho) (by rw [hzz]; simp) (by rw [hzz]; exact Nat.le_refl _) (Nat.le_refl _) (by simp) hk Q ?_
  simp only [execOp, hop, h.evI hl, h.evI hcap, Sem.run_bind, hrun, Result.andThen_ok, Sem.run_pure]

theorem app_vals {cs xs : List AV} {c : Array Value} {arr : List Value} {δ : Nat} (h : Vals w g cs c δ) (hv : LRep w g xs arr) (ho : ∀ y ∈ arr, y.oneCell' = true) (hc : δ + cs.length + xs.length ≤ c.size) :
    Vals w g (cs ++ xs) (c.toList.take (δ + cs.length) ++ arr ++ c.toList.drop (δ + cs.length + arr.length)).toArray δ := by
  have hl := LRep_length hv
  rw [LRep_iff] at hv
  have ht : (c.toList.take (δ + cs.length)).length = δ + cs.length := by simp; omega
  intro i cv hi
  by_cases h1 : i < cs.length
  · rw [List.getElem?_append_left h1] at hi
    obtain ⟨v, k1, k2, k3⟩ := h i cv hi
    refine ⟨v, ?_, k2, k3⟩
    simp only [List.getElem?_toArray]
    rw [List.append_assoc, List.getElem?_append_left (by rw [ht]; omega), List.getElem?_take, if_pos (by omega)]
    simpa using k1
  · rw [List.getElem?_append_right (by omega)] at hi
    have hlt : i - cs.length < xs.length := (List.getElem?_eq_some_iff.1 hi).1
    have hlt' : i - cs.length < arr.length := by omega
    refine ⟨arr[i - cs.length], ?_, ho _ (by simp), hv.2 _ cv _ hi (by simp [hlt'])⟩
    simp only [List.getElem?_toArray]
    rw [List.append_assoc, List.getElem?_append_right (by rw [ht]; omega), List.getElem?_append_left (by rw [ht]; omega), ht]
    rw [show δ + i - (δ + cs.length) = i - cs.length from by omega]
    simp [hlt']

theorem append_room_run {P : Program} {t tx e ex : TypeId} {inf : TypeInfo} (hu : P.underlying t = some (.slice e)) (hux : P.underlying tx = some (.slice ex)) (hi : P.info? e = some inf)
    {b o : Nat} {bx : Option Addr} {len cap n capx : Nat} {ts : Array TypeId} {args : Array Value} (hts0 : ts[0]? = some t) (hts1 : ts[1]? = some tx)
    (ha0 : args[0]? = some (.slice (some ⟨b, o, none⟩) len cap)) (ha1 : args[1]? = some (.slice bx n capx)) (hle : len + n ≤ cap) {new : Array Value} {ty : TypeId} {w' : World}
    (hnw : (Builtin.firstCells inf.size n (.slice bx n capx)).run P w = .ok new w)
    (hst : (storeCells ⟨b, o + len * inf.size, none⟩ new.toList).run P w = .ok () w') :
    (Builtin.append_ ts ty args).run P w = .ok (.slice (some ⟨b, o, none⟩) (len + n) cap) w' := by
  have hs : (sizeOf e).run P w = .ok inf.size w := by simp [sizeOf, typeInfo, hi, Sem.run_bind]
  simp only [Builtin.append_, hts0, hts1, ha0, ha1, Sem.run_bind, run_underlying hu, run_underlying hux, Result.andThen_ok, hs, Builtin.lenOf, Sem.run_pure, hle, if_true,
    Bool.not_false, hnw, Addr.add_mid, hst]
  simp [hnw, hst, Addr.add_mid]
  intro hh; omega
end
end Go.Sx
