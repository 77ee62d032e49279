/- A part of the proofs of this seat: SxC. No condition is set. -/
import Derived.Test.YtchhjighipjnnaaSxB
import Derived.IntWalk
set_option linter.unusedVariables false
set_option linter.unusedSimpArgs false
namespace Go.Sx
section
variable {C : Cx} {st : St} {a : Act} {w : World} {g : Gh} {lam : Nat → Nat}

theorem zrep_flat (n : Nat) (zc : List AV) : zrep n zc = (List.replicate n zc).flatten := by
  unfold zrep
  split
  · rename_i z
    induction n with
    | zero => rfl
    | succ n ih =>
      show z :: List.replicate n z = [z] ++ (List.replicate n [z]).flatten
      rw [← ih]; rfl
  · rfl
theorem flat_get (zc : List AV) : ∀ (n i : Nat), i < n * zc.length → ((List.replicate n zc).flatten)[i]? = zc[i % zc.length]?
  | 0, i, h => by simp at h
  | n + 1, i, h => by
    rw [List.replicate_succ, List.flatten_cons]
    by_cases hi : i < zc.length
    · rw [List.getElem?_append_left hi, Nat.mod_eq_of_lt hi]
    · rw [List.getElem?_append_right (by omega), flat_get zc n (i - zc.length) (by rw [Nat.succ_mul] at h; omega)]
      congr 1
      rw [Nat.mod_eq_sub_mod (a := i) (by omega)]
theorem zrep_length (n : Nat) (zc : List AV) : (zrep n zc).length = n * zc.length := by rw [zrep_flat]; simp
theorem zrep_rep {zc : List AV} {z : Array Value} (hr : LRep w g zc z.toList) (ho : ∀ y ∈ z.toList, y.oneCell' = true) (n : Nat) :
    LRep w g (zrep n zc) ((Array.range (n * zc.length)).map (fun i => z[i % z.size]!)).toList ∧ ∀ y ∈ ((Array.range (n * zc.length)).map (fun i => z[i % z.size]!)).toList, y.oneCell' = true := by
  have hl : z.size = zc.length := by have := LRep_length hr; simpa using this
  have hpos : ∀ i, i < n * zc.length → 0 < zc.length := by intro i hi; rcases Nat.eq_zero_or_pos zc.length with h | h; · simp [h] at hi
                                                           · exact h
  rw [LRep_iff] at hr ⊢
  refine ⟨⟨by simp [zrep_length], fun i c v h1 h2 => ?_⟩, fun y hy => ?_⟩
  · have hi : i < n * zc.length := by have := (List.getElem?_eq_some_iff.1 h1).1; rwa [zrep_length] at this
    rw [zrep_flat, flat_get zc n i hi] at h1
    have hm : i % z.size < z.size := Nat.mod_lt _ (by rw [hl]; exact hpos i hi)
    simp only [Array.toList_map, List.getElem?_map, Option.map_eq_some_iff, Array.toList_range] at h2
    obtain ⟨j, hj, rfl⟩ := h2
    have : j = i := by simpa [List.getElem?_range, hi] using hj.symm
    subst this
    rw [getElem!_pos z _ hm]
    refine hr.2 (j % z.size) c _ (by rw [hl]; exact h1) (by simp [hm])
  · simp only [Array.toList_map, List.mem_map, Array.toList_range, List.mem_range] at hy
    obtain ⟨i, hi, rfl⟩ := hy
    have hm : i % z.size < z.size := Nat.mod_lt _ (by rw [hl]; exact hpos i hi)
    rw [getElem!_pos z _ hm]
    exact ho _ (by simp)

theorem einfo_eq {P : Program} {t s by_ : Nat} {zc : List AV} (h : einfo P t = some (s, by_, zc)) :
    ∃ e inf zv, P.underlying t = some (.slice e) ∧ P.info? e = some inf ∧ inf.size = s ∧ inf.bytes = by_ ∧ inf.zero = some zv ∧ (aOf zv).cells = some zc := by
  unfold einfo at h
  simp only [Option.bind_eq_some_iff, Option.map_eq_some_iff, Prod.mk.injEq] at h
  obtain ⟨e, h1, inf, h2, z, ⟨zv, h3, rfl⟩, zc', h4, rfl, rfl, rfl⟩ := h
  unfold telem at h1
  split at h1
  · simp only [Option.some.injEq] at h1; subst h1
    exact ⟨_, inf, zv, by assumption, h2, rfl, rfl, h3, h4⟩
  · simp at h1

/-- a new block that a slice of the call's own begins in -/
theorem newSl_sound (h : SRepG C st a w g lam) {o : Oper} (hN : ∀ d, o.dst = some d → d < C.N) {K : Eff → Prop} {cs : List AV} {c : Array Value} {e : TypeId} {n cap s : Nat}
    (hr : Vals w g cs c 0) (hl : cs.length ≤ c.size) (hn : n * s ≤ cs.length) (hc : n ≤ cap) (hcap : cap * s ≤ c.size)
    (hk : K ⟨some (.val (.slm st.H.length cs.length 0 n s)), none, st.H ++ [cs]⟩) (Q : Exit → Act → World → Prop) {r : Result Next}
    (hrun : r = .ok (.value (.slice (some ⟨w.heap.size, 0, none⟩) n cap)) (w.alloc (.cells c e))) : o.upon C.P a (PostOp C st o.dst K) Q r := by
  refine upon_value _ _ _ _ _ hrun ⟨_, hk, ?_⟩
  obtain ⟨h1, h2⟩ := h.newH (e := e) hr hl
  refine SRepG.fin (st := st) st.L _ none rfl h1 hN (fun _ => ?_)
  simp only [Option.getD_some, ERep, VRep]
  exact ⟨w.heap.size, 0, cap, c.size, by simp [newG], rfl, hc, by omega, bsz_row (al_new _ _), by omega⟩

theorem makeSlice_run {P : Program} {t e : TypeId} {inf : TypeInfo} {zv : Value} {n : Int} {k k' : IntKind} (hu : P.underlying t = some (.slice e)) (hi : P.info? e = some inf) (hz : inf.zero = some zv)
    (h0 : 0 ≤ n) (hn : n ≤ 2 ^ 32) (hb : inf.bytes ≤ 2 ^ 10) (w : World) :
    (Instr.makeSlice t (.int k n) (.int k' n)).run P w = .ok (.slice (some ⟨w.heap.size, 0, none⟩) n.toNat n.toNat)
      (w.alloc (.cells ((Array.range (n.toNat * inf.size)).map (fun i => (if n.toNat * inf.size = 0 then #[] else zv.cells)[i % (if n.toNat * inf.size = 0 then #[] else zv.cells).size]!)) e)) := by
  have hw : IntKind.i64.wrap n = n := IntWalk.i64_in _ (by omega)
  have hti : (typeInfo e).run P w = .ok inf w := by simp [typeInfo, hi, Sem.run_bind]
  have hs : (sizeOf e).run P w = .ok inf.size w := by simp [sizeOf, hti, Sem.run_bind]
  have hzr : (zeroValue e).run P w = .ok zv w := by simp [zeroValue, hti, Sem.run_bind, hz]
  have hnn : ¬ n < 0 := by omega
  have hbig : ¬ ((inf.bytes : Int) * n > 2 ^ 48) := by
    have h1 : (inf.bytes : Int) ≤ 2 ^ 10 := by exact_mod_cast hb
    have := Int.mul_le_mul h1 hn h0 (by omega)
    omega
  have hroom : ¬ n.toNat * inf.bytes > roomBytes := by
    have h1 : n.toNat ≤ 2 ^ 32 := by omega
    have := Nat.mul_le_mul h1 hb
    simp only [roomBytes]; omega
  simp only [Instr.makeSlice, Sem.run_bind, run_underlying hu, Result.andThen_ok, asInt, asIntOf, Sem.run_pure, hti, hw, hs]
  simp only [hnn, decide_false, hbig, Bool.or_false, Int.lt_irrefl, gt_iff_lt, Bool.false_eq_true, if_false, askRoom, hroom, Sem.run_pure, Result.andThen_ok]
  by_cases hz0 : n.toNat * inf.size = 0
  · simp [hs, hz0, Sem.run_bind, newRow, newObj, Sem.run]
  · simp [hs, hz0, Sem.run_bind, newRow, newObj, Sem.run, hzr]

theorem load_run {P : Program} {xs : List AV} {b o m : Nat} (hc : CRep w g xs b o) (hm : m ≤ xs.length) :
    ∃ arr : Array Value, (loadCells ⟨b, o, none⟩ m).run P w = .ok arr w ∧ LRep w g (xs.take m) arr.toList ∧ ∀ y ∈ arr.toList, y.oneCell' = true := by
  obtain ⟨vs, k1, k2, k3, k4⟩ := CRep_vals hc
  have hl := run_loadCells_list (P := P) w ⟨b, o, none⟩ (vs.take m) (fun j v hv => by
    rw [List.getElem?_take] at hv
    split at hv
    · rw [Addr.add_mid]; exact k1 j v hv
    · simp at hv)
  rw [show (vs.take m).length = m from by simp; omega] at hl
  refine ⟨_, hl, ?_, fun y hy => k4 y (List.mem_of_mem_take (by simpa using hy))⟩
  rw [LRep_iff] at k2 ⊢
  refine ⟨by simp [k3], fun i c v h1 h2 => ?_⟩
  simp only [List.getElem?_take] at h1 h2
  split at h1
  · rename_i hi; simp only [hi, if_true] at h2; exact k2.2 i c v h1 h2
  · simp at h1

theorem src_run {P : Program} {H : List (List AV)} (hw : WRep w g H) {x : AV} {X : Value} {sz n : Nat} {xs : List AV} (hs : srcX H sz x = some (n, xs)) (hv : VRep w g x X) :
    xs.length = n * sz ∧ ∃ ao cap, X = .slice ao n cap ∧ ∀ m, m ≤ n → ∃ arr : Array Value, (Builtin.firstCells sz m X).run P w = .ok arr w ∧ LRep w g (xs.take (m * sz)) arr.toList ∧ ∀ y ∈ arr.toList, y.oneCell' = true := by
  unfold srcX at hs
  split at hs
  · simp only [Option.some.injEq, Prod.mk.injEq] at hs; obtain ⟨rfl, rfl⟩ := hs
    simp only [VRep] at hv; subst hv
    exact ⟨by simp, none, 0, rfl, fun m hm => ⟨#[], rfl, by simp [LRep], by simp⟩⟩
  · simp only [Option.bind_eq_some_iff, Option.map_eq_some_iff, Prod.mk.injEq] at hs
    obtain ⟨len, h1, l, h2, rfl, rfl⟩ := hs
    obtain ⟨ao, cap, rfl, hcap, hb⟩ := slice_form h1 hv
    have hll : l.length = len * sz := by
      unfold sread at h2
      split at h2
      · exact (gc_get h2).1
      · simp only [Option.bind_eq_some_iff] at h2
        obtain ⟨cs, _, h2⟩ := h2
        split at h2
        · exact (gc_get h2).1
        · simp at h2
      · simp at h2
    refine ⟨hll, ao, cap, rfl, fun m hm => ?_⟩
    rcases Nat.eq_zero_or_pos len with h0 | h0
    · subst h0
      have : m = 0 := by omega
      subst this
      cases ao with
      | none => exact ⟨#[], rfl, by simp [LRep], by simp⟩
      | some q => exact ⟨#[], by simp [Builtin.firstCells, loadCells, loadCellsFrom], by simp [LRep], by simp⟩
    · obtain ⟨b, o, rfl, hbase⟩ := hb h0
      obtain ⟨k1, k2⟩ := sread_rep hw hbase h2
      rw [Nat.add_zero] at k1
      obtain ⟨arr, j1, j2⟩ := load_run (P := P) (m := m * sz) k1 (by rw [k2]; exact Nat.mul_le_mul_right _ hm)
      exact ⟨arr, j1, j2⟩

theorem growBy_le (newLen : Nat) : ∀ (r c : Nat), c ≤ newLen + (newLen + 768) / 4 → Builtin.growBy newLen r c ≤ newLen + (newLen + 768) / 4
  | 0, c, h => h
  | r + 1, c, h => by
    simp only [Builtin.growBy]
    split
    · exact h
    · exact growBy_le newLen r _ (by omega)
theorem nextcap_le (need cap : Nat) (h : cap < need) : Builtin.nextslicecap need cap ≤ 2 * need + 512 := by
  unfold Builtin.nextslicecap
  split
  · omega
  · split
    · omega
    · have := growBy_le need 4 cap (by omega)
      omega

theorem zeroCells_size (z : Array Value) (n : Nat) : (Builtin.zeroCells z n).size = n * z.size := by simp [Builtin.zeroCells]

theorem append_grow_run {P : Program} {t tx e ex : TypeId} {inf : TypeInfo} {zv : Value} (hu : P.underlying t = some (.slice e)) (hux : P.underlying tx = some (.slice ex)) (hi : P.info? e = some inf) (hz : inf.zero = some zv)
    {base bx : Option Addr} {len cap n capx : Nat} {ts : Array TypeId} {args : Array Value} (hts0 : ts[0]? = some t) (hts1 : ts[1]? = some tx) (ha0 : args[0]? = some (.slice base len cap)) (ha1 : args[1]? = some (.slice bx n capx))
    (hb : inf.bytes ≤ 2 ^ 10) (hb0 : 0 < inf.bytes) (hle : len + n ≤ 2 ^ 32) (hlt : cap < len + n) {old new : Array Value} {ty : TypeId}
    (ho : (Builtin.firstCells inf.size len (.slice base len cap)).run P { w with drawn := w.drawn + 1 } = .ok old { w with drawn := w.drawn + 1 })
    (hnw : (Builtin.firstCells inf.size n (.slice bx n capx)).run P { w with drawn := w.drawn + 1 } = .ok new { w with drawn := w.drawn + 1 }) :
    ∃ (nc : Nat), len + n ≤ nc ∧
      (Builtin.append_ ts ty args).run P w = .ok (.slice (some ⟨w.heap.size, 0, none⟩) (len + n) nc) (({ w with drawn := w.drawn + 1 } : World).alloc (.cells (old ++ new ++ Builtin.zeroCells zv.cells (nc - (len + n))) e)) := by
  have hti : ∀ w : World, (typeInfo e).run P w = .ok inf w := fun w => by simp [typeInfo, hi, Sem.run_bind]
  have hs : ∀ w : World, (sizeOf e).run P w = .ok inf.size w := fun w => by simp [sizeOf, hti, Sem.run_bind]
  have hzr : ∀ w : World, (zeroValue e).run P w = .ok zv w := fun w => by simp [zeroValue, hti, Sem.run_bind, hz]
  have hnc : ¬ len + n ≤ cap := by omega
  have hbig : ¬ (Builtin.nextslicecap (len + n) cap * inf.bytes > 2 ^ 48) := by
    have h1 := nextcap_le (len + n) cap hlt
    have h2 : Builtin.nextslicecap (len + n) cap ≤ 2 ^ 34 := by omega
    have := Nat.mul_le_mul h2 hb
    omega
  have hbne : ¬ inf.bytes = 0 := by omega
  let nc := len + n + w.tape w.drawn (.appendCap (len + n) cap e) % (2 ^ 63 - (len + n))
  refine ⟨nc, by omega, ?_⟩
  have hroom : ∀ (k : Nat) (w : World), (askRoom k).run P w = .ok () w := by
    intro k w; unfold askRoom; split <;> rfl
  simp only [Builtin.append_, hts0, hts1, ha0, ha1, Sem.run_bind, run_underlying hu, run_underlying hux, Result.andThen_ok, hs, Builtin.lenOf, Sem.run_pure, hnc, if_false, hti,
    Bool.false_eq_true, false_or, hbne, and_false, hbig, choose, Sem.run, Question.forced, hroom, Bool.not_false, if_true]
  simp only [ho, hnw, hzr, Result.andThen_ok, newRow, newObj, Sem.run_bind, Sem.run, Question.cut, Sem.run_pure]
  rfl
end
end Go.Sx
