/- A part of the proofs of this seat: YB. No condition is set. -/
import Derived.LoopN
import Derived.Test.YtdlgclpoomlijaaYA
set_option linter.unusedVariables false
set_option linter.unusedSimpArgs false
namespace Go.Sx
section
variable {C : Cx} {st : St} {a : Act} {w : World} {g : Gh} {lam : Nat → Nat}
theorem zgw (h : SRepG C st a w g lam) {o : Oper} (hN : ∀ d, o.dst = some d → d < C.N) {t len : Nat} {parts : Array (Nat × Operand)} (hop : o.op = .buildSlice t len parts)
    {s by_ : Nat} {zc cs : List AV} (he : zic C.P t = some (s, by_, zc)) (hf : zdp (fun i => some (i * s, s)) (zkb len zc) (parts.toList.map fun (i, x) => (i, (st.ev x).asV)) = some cs)
    (hzl : zc.length = s) (hs0 : 0 < s) (hb : len * s ≤ 2 ^ 24) {K : Eff → Prop}
    (hk : if o.dst.any C.cfg.fz.contains then K ⟨some (.val (.sl none len cs)), none, st.H⟩ else K ⟨some (.val (.slm st.H.length cs.length 0 len s)), none, st.H ++ [cs]⟩) (Q : Exit → Act → World → Prop) :
    o.upon C.P a (ze5 C st o.dst K) Q ((execOp a.eval o).run C.P w) := by
  obtain ⟨e, inf, zv, hu, hi, rfl, _, hz, hc⟩ := zjb he
  obtain ⟨hzr, hzo⟩ := zc0 (w := w) (g := g) hc (zfb w g zv)
  obtain ⟨hr, ho⟩ := znv hzr hzo len
  rw [hzl] at hr ho
  obtain ⟨vo, k1, k2, k3⟩ := zfx (vparts := (parts.map fun (p : Nat × Operand) => (p.1, a.eval p.2)).toList) hr ho hf (by simp [List.map_map, Function.comp_def]) (by
    intro i p q v h1 h2 h3
    simp only [Array.toList_map, List.getElem?_map, Option.map_eq_some_iff] at h1 h2
    obtain ⟨r, hr, rfl⟩ := h1
    obtain ⟨r', hr', rfl⟩ := h2
    rw [hr] at hr'; simp only [Option.some.injEq] at hr'; subst hr'
    exact h.evV (ze6 h3))
  have hcl : cs.length = len * inf.size := by
    have : ∀ (ps : List (Nat × Option AV)) (x y : List AV), zdp (fun i => some (i * inf.size, inf.size)) x ps = some y → y.length = x.length := by
      intro ps
      induction ps with
      | nil => intro x y hxy; simp [zdp] at hxy; rw [hxy]
      | cons p ps ih =>
        intro x y hxy
        simp only [zdp] at hxy
        split at hxy
        · split at hxy
          · simp at hxy
          · rw [ih _ _ hxy, zey]
        · simp at hxy
    rw [this _ _ _ hf, zej, hzl]
  have hvl : vo.size = cs.length := by have := zat k2; simpa using this
  have hti : (typeInfo e).run C.P w = .ok inf w := by simp [typeInfo, hi, Sem.run_bind]
  have hsz : (sizeOf e).run C.P w = .ok inf.size w := by simp [sizeOf, hti, Sem.run_bind]
  have hzrun : (zeroValue e).run C.P w = .ok zv w := by simp [zeroValue, hti, Sem.run_bind, hz]
  have hpt : (parts.map fun x => match x with | (i, x) => (i, a.eval x)) = parts.map fun (p : Nat × Operand) => (p.1, a.eval p.2) := rfl
  have hnb : ¬ len * inf.size > 2 ^ 24 := by omega
  have hrun : (execOp a.eval o).run C.P w = .ok (.value (.slice (some ⟨w.heap.size, 0, none⟩) len len)) (w.alloc (.cells vo e)) := by
    simp only [execOp, hop, Instr.buildSlice, Sem.run_bind, run_underlying hu, Result.andThen_ok, hsz, hnb, if_false]
    by_cases h0 : len * inf.size = 0
    · have hr0 : ((Array.range (len * inf.size)).map (fun i => zv.cells[i % zv.cells.size]!)) = ((Array.range (len * inf.size)).map (fun i => (#[] : Array Value)[i % (#[] : Array Value).size]!)) := by simp [h0]
      rw [hpt]
      rw [hr0] at k1
      simp only [h0, if_true, Sem.run_bind, Sem.run_pure, Result.andThen_ok] at k1 ⊢
      rw [k1]
      simp [Sem.run_bind, newRow, newObj, Sem.run]
    · rw [hpt]
      simp only [h0, if_false, Sem.run_bind, hzrun, Sem.run_pure, Result.andThen_ok]
      rw [k1]
      simp [Sem.run_bind, newRow, newObj, Sem.run]
  split at hk
  · obtain ⟨h1, h2⟩ := h.newF vo e
    refine upon_value _ _ _ _ _ hrun ⟨_, hk, SRepG.fin (st := st) st.L st.H none rfl h1 hN (fun _ => ?_)⟩
    simp only [Option.getD_some, zc8, zaj]
    have hx := (ze0 k2 k3).crep h2 (zgf w (.cells vo e))
    exact ⟨len, Nat.le_refl _, .inr ⟨w.heap.size, 0, rfl, by simp, .inr rfl, hx⟩⟩
  · exact zfh h hN (c := vo) (e := e) (cap := len) (ze0 k2 k3) (by omega) (by omega) (Nat.le_refl _) (by omega) hk Q hrun
theorem zhr (h : SRepG C st a w g lam) {o : Oper} (hN : ∀ d, o.dst = some d → d < C.N) {t : Nat} {l c : Operand} (hop : o.op = .makeSlice t l c)
    {s by_ : Nat} {zc : List AV} (he : zic C.P t = some (s, by_, zc)) {k k' : IntKind} {n : Int} (hl : (st.ev l).asI = some (k, n)) (hcap : (st.ev c).asI = some (k', n))
    (h0 : 0 ≤ n) (hn : n ≤ 2 ^ 32) (hby : by_ ≤ 2 ^ 10) (hzl : zc.length = s) (hs0 : 0 < s) {K : Eff → Prop}
    (hk : K ⟨some (.val (.slm st.H.length (zkb n.toNat zc).length 0 n.toNat s)), none, st.H ++ [zkb n.toNat zc]⟩) (Q : Exit → Act → World → Prop) :
    o.upon C.P a (ze5 C st o.dst K) Q ((execOp a.eval o).run C.P w) := by
  obtain ⟨e, inf, zv, hu, hi, rfl, rfl, hz, hc⟩ := zjb he
  obtain ⟨hzr, hzo⟩ := zc0 (w := w) (g := g) hc (zfb w g zv)
  obtain ⟨hr, ho⟩ := znv hzr hzo n.toNat
  rw [hzl] at hr ho
  have hrun := zjo (P := C.P) (k := k) (k' := k') hu hi hz h0 hn hby w
  have hcells : ((Array.range (n.toNat * inf.size)).map (fun i => (if n.toNat * inf.size = 0 then #[] else zv.cells)[i % (if n.toNat * inf.size = 0 then #[] else zv.cells).size]!)) =
      ((Array.range (n.toNat * inf.size)).map (fun i => zv.cells[i % zv.cells.size]!)) := by
    by_cases hz0 : n.toNat * inf.size = 0
    · simp [hz0]
    · simp [hz0]
  rw [hcells] at hrun
  have hzz : (zkb n.toNat zc).length = n.toNat * inf.size := by rw [zej, hzl]
  refine zfh h hN (e := e) (cap := n.toNat) (ze0 hr ho) (by rw [hzz]; simp) (by rw [hzz]; exact Nat.le_refl _) (Nat.le_refl _) (by simp) hk Q ?_
  simp only [execOp, hop, h.evI hl, h.evI hcap, Sem.run_bind, hrun, Result.andThen_ok, Sem.run_pure]
theorem zso {cs xs : List AV} {c : Array Value} {arr : List Value} {δ : Nat} (h : zgz w g cs c δ) (hv : zba w g xs arr) (ho : ∀ y ∈ arr, y.oneCell' = true) (hc : δ + cs.length + xs.length ≤ c.size) :
    zgz w g (cs ++ xs) (c.toList.take (δ + cs.length) ++ arr ++ c.toList.drop (δ + cs.length + arr.length)).toArray δ := by
  have hl := zat hv
  rw [zcl] at hv
  have ht : (c.toList.take (δ + cs.length)).length = δ + cs.length := by simp; omega
  intro i cv hi
  by_cases h1 : i < cs.length
  · rw [List.getElem?_append_left h1] at hi
    obtain ⟨v, k1, k2, k3⟩ := h i cv hi
    refine ⟨v, ?_, k2, k3⟩
    simp only [List.getElem?_toArray]
    rw [List.append_assoc, List.getElem?_append_left (by rw [ht]; omega), List.getElem?_take, if_pos (by omega)]
    simpa using k1
  · rw [List.getElem?_append_right (by omega)] at hi
    have hlt : i - cs.length < xs.length := (List.getElem?_eq_some_iff.1 hi).1
    have hlt' : i - cs.length < arr.length := by omega
    refine ⟨arr[i - cs.length], ?_, ho _ (by simp), hv.2 _ cv _ hi (by simp [hlt'])⟩
    simp only [List.getElem?_toArray]
    rw [List.append_assoc, List.getElem?_append_right (by rw [ht]; omega), List.getElem?_append_left (by rw [ht]; omega), ht]
    rw [show δ + i - (δ + cs.length) = i - cs.length from by omega]
    simp [hlt']
theorem zhg {P : Program} {t tx e ex : TypeId} {inf : TypeInfo} (hu : P.underlying t = some (.slice e)) (hux : P.underlying tx = some (.slice ex)) (hi : P.info? e = some inf)
    {b o : Nat} {bx : Option Addr} {len cap n capx : Nat} {ts : Array TypeId} {args : Array Value} (hts0 : ts[0]? = some t) (hts1 : ts[1]? = some tx)
    (ha0 : args[0]? = some (.slice (some ⟨b, o, none⟩) len cap)) (ha1 : args[1]? = some (.slice bx n capx)) (hle : len + n ≤ cap) {new : Array Value} {ty : TypeId} {w' : World}
    (hnw : (Builtin.firstCells inf.size n (.slice bx n capx)).run P w = .ok new w)
    (hst : (storeCells ⟨b, o + len * inf.size, none⟩ new.toList).run P w = .ok () w') :
    (Builtin.append_ ts ty args).run P w = .ok (.slice (some ⟨b, o, none⟩) (len + n) cap) w' := by
  have hs : (sizeOf e).run P w = .ok inf.size w := by simp [sizeOf, typeInfo, hi, Sem.run_bind]
  simp only [Builtin.append_, hts0, hts1, ha0, ha1, Sem.run_bind, run_underlying hu, run_underlying hux, Result.andThen_ok, hs, Builtin.lenOf, Sem.run_pure, hle, if_true,
    Bool.not_false, hnw, Addr.add_mid, hst]
  simp [hnw, hst, Addr.add_mid]
  intro hh; omega
end
section
variable {C : Cx} {st : St} {a : Act} {w : World} {g : Gh} {lam : Nat → Nat}
theorem zj5 {P : Program} {t e : TypeId} (h : zen P t = some e) : P.underlying t = some (.slice e) := by
  unfold zen at h
  split at h
  · simp only [Option.some.injEq] at h; subst h; assumption
  · simp at h
theorem zgi {o : Oper} {b : Builtin} {args : Array Operand} {ts : Array TypeId} (hop : o.op = .call { callee := .builtin b, args := args, argTypes := ts }) (ρ : Operand → Value) (P : Program) (w : World) :
    (execOp ρ o).run P w = (builtin b ts o.type (args.map fun | .const _ => true | _ => false) (args.map ρ)).run P w := by
  simp only [execOp, hop, resolve, invoke, Sem.run_bind, Sem.run_pure, Result.andThen_ok]
  rfl
theorem zns {args : Array Operand} {s x : AV} (h : args.toList.map (fun x => (st.ev x).asV) = [some s, some x]) :
    ∃ p q, args = #[p, q] ∧ st.ev p = .val s ∧ st.ev q = .val x := by
  rcases args with ⟨l⟩
  simp only [List.map_eq_cons_iff, List.map_eq_nil_iff] at h
  obtain ⟨p, _, rfl, h1, q, _, rfl, h2, rfl⟩ := h
  exact ⟨p, q, rfl, ze6 h1, ze6 h2⟩
theorem zvw {ts : Array TypeId} {t tx : TypeId} (h : ts.toList = [t, tx]) : ts = #[t, tx] := by cases ts; simp_all
theorem zux {zv : Value} {zc : List AV} (w : World) (g : Gh) (hc : (aOf zv).cells = some zc) : zv.cells.size = zc.length := by
  have := zat (zc0 (w := w) (g := g) hc (zfb w g zv)).1
  simpa using this
theorem zke (h : SRepG C st a w g lam) {o : Oper} (hN : ∀ d, o.dst = some d → d < C.N) {args : Array Operand} {ts : Array TypeId}
    (hop : o.op = .call { callee := .builtin .append, args := args, argTypes := ts }) {s x : AV} (ha : args.toList.map (fun x => (st.ev x).asV) = [some s, some x])
    {t tx ex : TypeId} (ht : ts.toList = [t, tx]) {sz by_ n : Nat} {zc xs : List AV} (he : zic C.P t = some (sz, by_, zc)) (hex : zen C.P tx = some ex) (hs : zlk st.H sz x = some (n, xs))
    (hby : by_ ≤ 2 ^ 10) (hb0 : 0 < by_) (hzl : zc.length = sz) (hs0 : 0 < sz) {K : Eff → Prop} (hx : zj8 C.cfg sz st.H s n xs K) (Q : Exit → Act → World → Prop) :
    o.upon C.P a (ze5 C st o.dst K) Q ((execOp a.eval o).run C.P w) := by
  obtain ⟨p, q, rfl, hp, hq⟩ := zns ha
  have := zvw ht; subst this
  obtain ⟨e, inf, zv, hu, hi, rfl, rfl, hz, hc⟩ := zjb he
  have hux := zj5 hex
  have hzs := zux w g hc
  let w₁ : World := { w with drawn := w.drawn + 1 }
  have h₁ : SRepG C st a w₁ g lam := h.still rfl ⟨rfl, rfl, rfl⟩
  obtain ⟨hxl, ax, capx, hX, hfc⟩ := zml (P := C.P) h.wr hs (h.evV hq)
  obtain ⟨_, _, _, _, hfc₁⟩ := zml (P := C.P) h₁.wr hs (h₁.evV hq)
  rw [zgi hop]
  unfold zj8 at hx
  split at hx
  · -- nil
    obtain ⟨hn, hk0, hk1⟩ := hx
    have hS := h.evV hp
    simp only [zaj] at hS
    rcases Nat.eq_zero_or_pos n with h0 | h0
    · subst h0
      refine upon_value _ _ _ _ _ (x := .slice none 0 0) (w' := w) ?_ ⟨_, hk0 rfl, SRepG.fin (st := st) st.L st.H none rfl h hN (fun _ => by simp [zc8, zaj])⟩
      obtain ⟨arr, j1, j2, j3⟩ := hfc 0 (Nat.le_refl _)
      have hsz : (sizeOf e).run C.P w = .ok inf.size w := by simp [sizeOf, typeInfo, hi, Sem.run_bind]
      rw [hX] at j1
      simp [builtin, Builtin.append_, hS, hX, Sem.run_bind, run_underlying hu, run_underlying hux, hsz, Builtin.lenOf, j1]
    · obtain ⟨arr, j1, j2, j3⟩ := hfc₁ n (Nat.le_refl _)
      rw [hX] at j1
      obtain ⟨nc, hnc, hrun⟩ := zeq (P := C.P) (w := w) (t := t) (tx := tx) (ts := #[t, tx]) (args := #[.slice none 0 0, .slice ax n capx]) (ty := o.type) hu hux hi hz (base := none) (bx := ax) (len := 0) (cap := 0) (n := n) (capx := capx) rfl rfl rfl rfl
        hby hb0 (by omega) (by omega) (old := #[]) (new := arr) rfl j1
      have hal : arr.size = n * inf.size := by have := zat j2; simp [hxl] at this; omega
      rw [Nat.zero_add] at hnc hrun
      have htk : xs.take (n * inf.size) = xs := List.take_of_length_le (by omega)
      rw [htk] at j2
      have hcs : (#[] ++ arr ++ Builtin.zeroCells zv.cells (nc - n)).size = nc * inf.size := by
        simp only [Array.size_append, ze9, hal, hzs, hzl, Array.size_empty, Nat.zero_add, Nat.sub_mul]
        have := Nat.mul_le_mul_right inf.size hnc
        omega
      have hV : zgz w₁ g xs (#[] ++ arr ++ Builtin.zeroCells zv.cells (nc - n)) 0 := by
        intro i cv hi'
        obtain ⟨v, k1, k2, k3⟩ := ze0 j2 j3 i cv hi'
        refine ⟨v, ?_, k2, k3⟩
        have hlt : 0 + i < arr.size := (Array.getElem?_eq_some_iff.1 k1).1
        simp only [Array.empty_append]
        rw [Array.getElem?_append_left hlt]; exact k1
      refine zfh h₁ hN (e := e) (cap := nc) (c := #[] ++ arr ++ Builtin.zeroCells zv.cells (nc - n)) (s := inf.size) hV (by rw [hcs, hxl]; exact Nat.mul_le_mul_right _ hnc) (by omega) hnc (by omega) (hk1 (by omega)) Q ?_
      have hargs : (#[p, q].map a.eval) = #[.slice none 0 0, .slice ax n capx] := by simp [hS, hX]
      rw [hargs]
      simp only [builtin, Sem.run_bind, hrun, Result.andThen_ok, Sem.run_pure]
      rfl
  · -- a block
    rename_i id gen o' len z
    split at hx
    case h_2 => exact hx.elim
    rename_i cs hcs
    obtain ⟨rfl, hg, rfl, hlg, hle, hold, hk⟩ := hx
    have hS := h.evV hp
    have hS₁ := h₁.evV hp
    simp only [zaj] at hS
    obtain ⟨b, δ, cap, m, k1, k2, k3, k4, k5, k6⟩ := hS
    rw [Nat.add_zero] at k2 k6
    rw [← hg] at k1
    obtain ⟨b', δ', c, e', q1, q2, q3, q4, q5, q6⟩ := h.wr.blk id cs hcs
    rw [k1] at q1; simp only [Option.some.injEq, Prod.mk.injEq] at q1; obtain ⟨rfl, rfl⟩ := q1
    rw [zd5 q2] at k5; simp only [Option.some.injEq] at k5; subst k5
    have hcl : cs.length = len * inf.size := by omega
    have hmx : C.cfg.n0 ≤ id ∨ mxL (cs ++ xs) ≤ C.cfg.n0 := by
      rcases Nat.lt_or_ge id C.cfg.n0 with hlt | hge
      · right
        rcases hold with h1 | h1
        · omega
        · rw [zoi]
          have := h.om id cs hlt hcs
          omega
      · exact .inl hge
    have hargs : (#[p, q].map a.eval) = #[.slice (some ⟨b, δ, none⟩) len cap, .slice ax n capx] := by simp [k2, hX]
    rw [hargs]
    by_cases hroom : len + n ≤ cap
    · obtain ⟨arr, j1, j2, j3⟩ := hfc n (Nat.le_refl _)
      have htk : xs.take (n * inf.size) = xs := List.take_of_length_le (by omega)
      rw [htk] at j2
      have hal : arr.toList.length = xs.length := zat j2
      have hmul : (len + n) * inf.size ≤ cap * inf.size := Nat.mul_le_mul_right _ hroom
      rw [Nat.add_mul] at hmul
      have hst := run_storeCells_at C.P b (δ + len * inf.size) e' arr.toList 0 c w q2 (by rw [hal]; omega) j3
      rw [hX] at j1
      have hrun := zhg (P := C.P) (w := w) (ts := #[t, tx]) (args := #[.slice (some ⟨b, δ, none⟩) len cap, .slice ax n capx]) (ty := o.type) hu hux hi rfl rfl rfl rfl hroom j1 hst
      rw [Nat.add_zero, ← hcl] at hrun
      have hV := zso (zgz.of_crep q4 q2) j2 j3 (by rw [hxl]; omega)
      have hnew := setRow_heap w b c (c.toList.take (δ + cs.length) ++ arr.toList ++ c.toList.drop (δ + cs.length + arr.toList.length)).toArray e' _ q2
      have hsz : (c.toList.take (δ + cs.length) ++ arr.toList ++ c.toList.drop (δ + cs.length + arr.toList.length)).toArray.size = c.size := zf9 (by rw [hal]; omega)
      obtain ⟨r1, r2⟩ := h.repl (cs' := cs ++ xs) (b' := b) (δ' := δ) (e := e') hcs k1 (by simp) hmx (w' := w.setRow b _) (by rw [setRow_size]; exact Nat.le_refl _)
        (fun k _ hk' => setRow_other w b k _ hk') (fun n' hn' => by rw [zd5 q2] at hn'; rw [zd5 hnew, hsz]; exact hn')
        (fun o => (zd0 hnew).trans (zd0 q2).symm) (zhz w b _) hnew (.inl ⟨rfl, rfl⟩) hV (by rw [hsz]; simp; omega)
        (fun a' ha' => (zd0 (by rw [ha']; exact hnew)).trans (zd0 (by rw [ha']; exact q2)).symm)
      refine upon_value _ _ _ _ _ (x := .slice (some ⟨b, δ, none⟩) (len + n) cap) (w' := w.setRow b (c.toList.take (δ + cs.length) ++ arr.toList ++ c.toList.drop (δ + cs.length + arr.toList.length)).toArray)
        (by simp only [builtin, Sem.run_bind, hrun, Result.andThen_ok, Sem.run_pure]) ⟨_, hk, ?_⟩
      refine SRepG.fin (st := st) st.L _ none rfl r1 hN (fun _ => ?_)
      simp only [Option.getD_some, zc8, zaj]
      exact ⟨b, δ, cap, c.size, by simp [zir], rfl, hroom, by rw [Nat.add_mul]; omega, by rw [zd5 hnew, hsz], by omega⟩
    · obtain ⟨arr, j1, j2, j3⟩ := hfc₁ n (Nat.le_refl _)
      rw [hX] at j1
      have htk : xs.take (n * inf.size) = xs := List.take_of_length_le (by omega)
      rw [htk] at j2
      have hold' : zbi w₁ g (.slm id gen 0 len inf.size) b δ := by simp only [zbi]; exact ⟨δ, by rw [← hg]; exact k1, rfl⟩
      have hcr : zc9 w₁ g cs b δ := zc9.ext (Ext.heap (w := w) (w' := w₁) g rfl) rfl q4
      obtain ⟨old, o1, o2, o3⟩ := zna (P := C.P) (m := len * inf.size) hcr (by omega)
      have htk2 : cs.take (len * inf.size) = cs := List.take_of_length_le (by omega)
      rw [htk2] at o2
      have hol : old.size = len * inf.size := by have := zat o2; simp at this; omega
      have hal : arr.size = n * inf.size := by have := zat j2; simp at this; omega
      obtain ⟨nc, hnc, hrun⟩ := zeq (P := C.P) (w := w) (t := t) (tx := tx) (ts := #[t, tx]) (args := #[.slice (some ⟨b, δ, none⟩) len cap, .slice ax n capx]) (ty := o.type) hu hux hi hz
        (base := some ⟨b, δ, none⟩) (bx := ax) (len := len) (cap := cap) (n := n) (capx := capx) rfl rfl rfl rfl hby hb0 hle (by omega) (old := old) (new := arr) o1 j1
      have hcc : (old ++ arr ++ Builtin.zeroCells zv.cells (nc - (len + n))).size = nc * inf.size := by
        simp only [Array.size_append, ze9, hal, hol, hzs, hzl, Nat.sub_mul, Nat.add_mul]
        have := Nat.mul_le_mul_right inf.size hnc
        rw [Nat.add_mul] at this
        omega
      have hV : zgz w g (cs ++ xs) (old ++ arr ++ Builtin.zeroCells zv.cells (nc - (len + n))) 0 := by
        have hex : Ext w₁ g w g := Ext.heap g rfl
        intro i cv hi'
        rw [Nat.zero_add]
        by_cases hlt : i < cs.length
        · rw [List.getElem?_append_left hlt] at hi'
          obtain ⟨v, y1, y2, y3⟩ := ze0 o2 o3 i cv hi'
          rw [Nat.zero_add] at y1
          refine ⟨v, ?_, y2, y3.ext hex⟩
          have hlt' : i < old.size := by omega
          rw [Array.append_assoc, Array.getElem?_append_left hlt']; exact y1
        · rw [List.getElem?_append_right (by omega)] at hi'
          obtain ⟨v, y1, y2, y3⟩ := ze0 j2 j3 _ cv hi'
          rw [Nat.zero_add] at y1
          refine ⟨v, ?_, y2, y3.ext hex⟩
          have hlt' : i - old.size < arr.size := by have := (List.getElem?_eq_some_iff.1 hi').1; omega
          rw [Array.append_assoc, Array.getElem?_append_right (by omega), Array.getElem?_append_left hlt']
          rw [show i - old.size = i - cs.length from by omega]; exact y1
      have hpos : 0 < n := by omega
      have hxpos : 0 < xs.length := by rw [hxl]; exact Nat.mul_pos hpos hs0
      obtain ⟨r1, r2⟩ := h.repl (cs' := cs ++ xs) (b' := w.heap.size) (δ' := 0) (e := e) hcs k1 (by simp) hmx (w' := w₁.alloc (.cells (old ++ arr ++ Builtin.zeroCells zv.cells (nc - (len + n))) e))
        (by rw [zd4]; show w.heap.size ≤ w.heap.size + 1; omega) (fun k hk' _ => zcx w₁ _ hk') (fun n' hn' => by rw [zki (zcx w₁ _ (zij hn'))]; exact hn')
        (fun o => zgj (zcx w₁ _ (Array.getElem?_eq_some_iff.1 q2).1)) ⟨rfl, rfl, rfl⟩ (zgf w₁ _) (.inr ⟨rfl, by simp; omega⟩) hV (by rw [hcc]; simp; rw [hcl, hxl, ← Nat.add_mul]; exact Nat.mul_le_mul_right _ hnc)
        (fun a' ha' => zgj (zcx w₁ _ (by rw [ha']; exact (Array.getElem?_eq_some_iff.1 q2).1)))
      refine upon_value _ _ _ _ _ (x := .slice (some ⟨w.heap.size, 0, none⟩) (len + n) nc) (by simp only [builtin, Sem.run_bind, hrun, Result.andThen_ok, Sem.run_pure]; rfl) ⟨_, hk, ?_⟩
      refine SRepG.fin (st := st) st.L _ none rfl r1 hN (fun _ => ?_)
      simp only [Option.getD_some, zc8, zaj]
      exact ⟨w.heap.size, 0, nc, nc * inf.size, by simp [zir], rfl, hnc, by rw [Nat.add_mul]; omega, by rw [← hcc]; exact zd5 (zgf w₁ _), by omega⟩
  · exact hx.elim
end
section
variable {C : Cx} {st : St} {a : Act} {w : World} {g : Gh} {lam : Nat → Nat}
theorem zfa {w : World} {g : Gh} : ∀ {xs ys : List AV} {vs us : List Value}, zba w g xs vs → zba w g ys us → zba w g (xs ++ ys) (vs ++ us)
  | [], ys, vs, us, h, k => by simp only [zba] at h; subst h; exact k
  | x :: xs, ys, vs, us, h, k => by
    simp only [zba] at h
    obtain ⟨v, rest, rfl, h1, h2⟩ := h
    simp only [List.cons_append, zba]
    exact ⟨v, rest ++ us, rfl, h1, zfa h2 k⟩
theorem zn8 (h : SRepG C st a w g lam) {o : Oper} (hN : ∀ d, o.dst = some d → d < C.N) {args : Array Operand} {ts : Array TypeId}
    (hop : o.op = .call { callee := .builtin .copy, args := args, argTypes := ts }) {d x : AV} (ha : args.toList.map (fun x => (st.ev x).asV) = [some d, some x])
    {t tx ex : TypeId} (ht : ts.toList = [t, tx]) {sz n : Nat} {xs : List AV} (he : (zen C.P t).bind (tsz C.P) = some sz) (hs : zlk st.H sz x = some (n, xs))
    (hs0 : 0 < sz) {K : Eff → Prop} (hx : zsf C.cfg sz st.H d n xs K) (Q : Exit → Act → World → Prop) :
    o.upon C.P a (ze5 C st o.dst K) Q ((execOp a.eval o).run C.P w) := by
  obtain ⟨p, q, rfl, hp, hq⟩ := zns ha
  have := zvw ht; subst this
  simp only [Option.bind_eq_some_iff] at he
  obtain ⟨e, he, hsz⟩ := he
  have hu := zj5 he
  have hsr : (sizeOf e).run C.P w = .ok sz w := by
    unfold tsz at hsz
    simp only [Option.map_eq_some_iff] at hsz
    obtain ⟨i, hi, rfl⟩ := hsz
    simp [sizeOf, typeInfo, hi, Sem.run_bind]
  obtain ⟨hxl, ax, capx, hX, hfc⟩ := zml (P := C.P) h.wr hs (h.evV hq)
  rw [zgi hop]
  unfold zsf at hx
  split at hx
  case h_2 => exact hx.elim
  rename_i id gen o' len z
  split at hx
  case h_2 => exact hx.elim
  rename_i cs hcs
  obtain ⟨rfl, hg, hold, hle, hk⟩ := hx
  have hS := h.evV hp
  simp only [zaj] at hS
  obtain ⟨b, δ, cap, m, k1, k2, k3, k4, k5, k6⟩ := hS
  rw [← hg] at k1
  obtain ⟨arr, j1, j2, j3⟩ := hfc (min n len) (Nat.min_le_left _ _)
  have hlen : (xs.take (min n len * z)).length = min n len * z := by
    have := Nat.mul_le_mul_right z (Nat.min_le_left n len)
    rw [List.length_take, hxl]; omega
  have hal : arr.toList.length = min n len * z := by rw [zat j2, hlen]
  have hmul := Nat.mul_le_mul_right z (Nat.min_le_right n len)
  obtain ⟨c, e', q2, q3, r1⟩ := h.write (p := o') (vs := xs.take (min n len * z)) (xs := arr.toList) hcs k1 (by rw [hlen]; omega) (by
    rcases hold with h1 | h1
    · exact .inl h1
    · right; rw [zkz] at h1 ⊢
      intro i c hi
      rw [List.getElem?_take] at hi
      split at hi
      · exact h1 i c hi
      · simp at hi) j2 j3
  have hst := run_storeCells_at C.P b (δ + o') e' arr.toList 0 c w q2 (by rw [hal]; omega) j3
  rw [Nat.add_zero] at hst
  rw [hX] at j1
  have hargs : (#[p, q].map a.eval) = #[.slice (some ⟨b, δ + o', none⟩) len cap, .slice ax n capx] := by simp [k2, hX]
  rw [hargs]
  have hrun : (Builtin.copy_ #[t, tx] o.type #[.slice (some ⟨b, δ + o', none⟩) len cap, .slice ax n capx]).run C.P w =
      .ok (goInt (min n len : Nat)) (w.setRow b (c.toList.take (δ + o') ++ arr.toList ++ c.toList.drop (δ + o' + arr.toList.length)).toArray) := by
    have e0 : (#[t, tx] : Array TypeId)[0]? = some t := rfl
    have e1 : (#[Value.slice (some ⟨b, δ + o', none⟩) len cap, Value.slice ax n capx] : Array Value)[0]? = some (Value.slice (some ⟨b, δ + o', none⟩) len cap) := rfl
    have e2 : (#[Value.slice (some ⟨b, δ + o', none⟩) len cap, Value.slice ax n capx] : Array Value)[1]? = some (Value.slice ax n capx) := rfl
    have em : Nat.min n len = min n len := rfl
    simp only [Builtin.copy_, e0, e1, e2, Sem.run_bind, run_underlying hu, Result.andThen_ok, hsr, Builtin.lenOf, Sem.run_pure, em, j1, hst]
  refine upon_value _ _ _ _ _ (x := goInt (min n len : Nat)) (w' := w.setRow b (c.toList.take (δ + o') ++ arr.toList ++ c.toList.drop (δ + o' + arr.toList.length)).toArray)
    (by simp only [builtin, Sem.run_bind, hrun, Result.andThen_ok, Sem.run_pure]) ⟨_, hk, ?_⟩
  exact SRepG.fin (st := st) st.L _ none rfl r1 hN (fun _ => by simp [zc8, zaj, goInt])
theorem zn5 (h : SRepG C st a w g lam) {o : Oper} (hN : ∀ d, o.dst = some d → d < C.N) {args : Array Operand} {ts : Array TypeId} {f : Operand}
    (hop : o.op = .call { callee := .value f, args := args, argTypes := ts }) {id : Nat} {first caps vs : List AV} (hf : st.ev f = .val (.func id first caps)) (ha : zfc st.ev args.toList = some vs)
    {r : AV} {H' : List (List AV)} (hs : zaa C.P id (first ++ vs ++ caps) st.H r H') (hold : za7 C.cfg.n0 st.H H') {K : Eff → Prop} (hk : K ⟨some (.val r), none, H'⟩) (Q : Exit → Act → World → Prop) :
    o.upon C.P a (ze5 C st o.dst K) Q ((execOp a.eval o).run C.P w) := by
  have hF := h.evV hf
  simp only [zaj] at hF
  obtain ⟨fs, cs, hF, hfr, hcr⟩ := hF
  have hA := zi5 h ha
  have hrun : (execOp a.eval o).run C.P w = (callFunc id (fs ++ args.map a.eval ++ cs)).run C.P w := by
    simp only [execOp, hop, resolve, hF, Deferred.ofValue, invoke, Sem.run_bind, Sem.run_pure, Result.andThen_ok]
  have hL : zba w g (first ++ vs ++ caps) (fs ++ args.map a.eval ++ cs).toList := by
    simp only [Array.toList_append, Array.toList_map]
    exact zfa (zfa hfr hA) hcr
  rw [hrun]
  rcases hs with ⟨hent, hsp⟩ | ⟨rfl, hx⟩
  · rw [hent]
    show Calls C.P id _ w _
    refine (hsp w g _ h.wr hL).mono fun e w' he => ?_
    obtain ⟨v, g', rfl, h1, h2, h3⟩ := he
    show ze5 C st o.dst K (a.put o.dst v) w'
    refine ⟨_, hk, ?_⟩
    have hx := h2.ext h.wr
    refine SRepG.fin (st := st) st.L H' none rfl (g := g') (lam := lam) ⟨h1, h.si.trans h.wr h2, ?_, fun t e he => ?_, h.defs, h.size, h.n0, fun id cs hid hc => ?_⟩ hN (fun _ => h3)
    · exact h.lr.step hx h2.keep h2.fznew h2.hb
    · obtain ⟨x, j1, j2⟩ := h.env t e he
      exact ⟨x, j1, j2.ext hx⟩
    · rcases hold id cs hid hc with j1 | j1
      · exact h.om id cs hid j1
      · exact j1
  · obtain ⟨v, h1, h2⟩ := hx w g _ hL
    refine upon_value _ _ _ _ _ h1 ⟨_, hk, ?_⟩
    exact SRepG.fin (st := st) st.L st.H none rfl h hN (fun _ => h2)
theorem znh (h : SRepG C st a w g lam) {o : Oper} (hN : ∀ d, o.dst = some d → d < C.N) {NL : Nat → Prop} (hNL : ∀ d, NL d → zde st.ev d) {K : Eff → Prop}
    (hx : opE C.P C.cfg st.ev NL (lk st.L) st.H o K) (Q : Exit → Act → World → Prop) : o.wp C.P a w (ze5 C st o.dst K) Q := by
  unfold Oper.wp
  unfold opE at hx
  split at hx
  · rename_i t hop
    split at hx
    case h_2 => exact hx.elim
    rename_i cs hz
    simp only [Option.bind_eq_some_iff] at hz
    obtain ⟨z, hz, hcl⟩ := hz
    unfold zh4 at hz
    simp only [Option.map_eq_some_iff, Option.bind_eq_some_iff] at hz
    obtain ⟨zv, ⟨inf, hi, hzv⟩, rfl⟩ := hz
    obtain ⟨hr, ho⟩ := zc0 (w := w) (g := g) hcl (zfb w g zv)
    refine zis h hN hNL hx hr ho Q (t := t) ?_
    simp only [execOp, hop, Sem.run_bind, zo6 hi hzv, Result.andThen_ok, Sem.run_pure]
  · rename_i t x hop
    split at hx
    case h_2 => exact hx.elim
    rename_i cs hz
    simp only [Option.bind_eq_some_iff] at hz
    obtain ⟨z, hz, hcl⟩ := hz
    obtain ⟨hr, ho⟩ := zc0 hcl (h.evV (ze6 hz))
    refine zis h hN hNL hx hr ho Q (t := t) ?_
    simp [execOp, hop, Instr.box, newVar, newRow, newObj, Sem.run_bind, Sem.run]
  · rename_i t x v hop
    split at hx
    case h_2 => exact hx.elim
    rename_i vs hz
    simp only [Option.bind_eq_some_iff] at hz
    obtain ⟨z, hz, hcl⟩ := hz
    obtain ⟨h1, h2, h3⟩ := hx
    exact zln h h2 hop (ze6 hz) hcl h1 h3 Q
  · rename_i t len parts hop
    split at hx
    case h_2 => exact hx.elim
    rename_i s by_ zc he
    split at hx
    case h_2 => exact hx.elim
    rename_i cs hf
    obtain ⟨h1, h2, h3, hk⟩ := hx
    exact zgw h hN hop he hf h1 h2 h3 hk Q
  · rename_i t l c hop
    split at hx
    case h_2 => exact hx.elim
    rename_i s by_ zc k n k' m he hl hc
    obtain ⟨rfl, h1, h2, h3, h4, h5, hk⟩ := hx
    exact zhr h hN hop he hl hc h1 h2 h3 h4 h5 hk Q
  · rename_i args ts hop
    split at hx
    case h_2 => exact hx.elim
    rename_i s x t tx ha ht
    split at hx
    case h_2 => exact hx.elim
    rename_i sz by_ zc ex he hex
    split at hx
    case h_2 => exact hx.elim
    rename_i n xs hs
    obtain ⟨h1, h2, h3, h4, h5⟩ := hx
    exact zke h hN hop ha ht he hex hs h1 h2 h3 h4 h5 Q
  · rename_i args ts hop
    split at hx
    case h_2 => exact hx.elim
    rename_i d x t tx ha ht
    split at hx
    case h_2 => exact hx.elim
    rename_i sz ex he hex
    split at hx
    case h_2 => exact hx.elim
    rename_i n xs hs
    exact zn8 (ex := ex) h hN hop ha ht he hs hx.1 hx.2 Q
  · rename_i f args ts hop
    split at hx
    case h_2 => exact hx.elim
    rename_i id first caps vs hf ha
    obtain ⟨r, H', h1, h2, h3⟩ := hx
    exact zn5 h hN hop hf ha h1 h2 h3 Q
  · split at hx
    case h_2 => exact hx.elim
    rename_i c v hp
    obtain ⟨hc, hk⟩ := hx
    obtain ⟨x, w', h1, h2, h3, h4⟩ := zme h hp hc
    refine upon_value _ _ _ _ _ h1 ⟨_, hk, ?_⟩
    exact SRepG.fin (st := st) st.L st.H none rfl (h.still h2 h3) hN (fun _ => zc8.ext (Ext.heap g h2) h4)
end
def Ex (P : Program) (cfg : Cfg) (draw : Array Oper → (St → Prop) → St → Prop) : Code → (XE → St → Prop) → St → Prop
  | .skip, Q, st => Q .normal st
  | .region _ ops d, Q, st => if d then draw ops (Q .normal) st else zau P cfg ops none ops.toList (Q .normal) st
  | .seq x y, Q, st => Ex P cfg draw x (fun e s => match e with | .normal => Ex P cfg draw y Q s | e => Q e s) st
  | .cond c x y, Q, st =>
    match (st.ev c).asB with
    | some b => (b = true → Ex P cfg draw x Q st) ∧ (b = false → Ex P cfg draw y Q st)
    | none => False
  | .block id c, Q, st => Ex P cfg draw c (fun e s => match e with | .exit i => if i = id then Q .normal s else Q (.exit i) s | e => Q e s) st
  | .loop c, Q, st => ∃ ks n, zfj (Ex P cfg draw c) ks Q n (prune ks st)
  | .exit id, Q, st => Q (.exit id) st
  | .ret, Q, st => Q .ret st
  | _, _, _ => False
def zdc (N : Nat) : Code → Bool
  | .region _ ops _ => ops.toList.all fun o => match o.dst with | some d => decide (d < N) | none => true
  | .seq x y => zdc N x && zdc N y
  | .cond _ x y => zdc N x && zdc N y
  | .block _ c => zdc N c
  | .loop c => zdc N c
  | _ => true
section
variable {C : Cx} {st : St} {a : Act} {w : World} {g : Gh} {lam : Nat → Nat}
def Post (C : Cx) (Q : XE → St → Prop) : Exit → Act → World → Prop
  | .normal, a, w => ∃ st, zge C st a w ∧ Q .normal st
  | .exit i, a, w => ∃ st, zge C st a w ∧ Q (.exit i) st
  | .ret, a, w => ∃ st, zge C st a w ∧ Q .ret st
  | _, _, _ => False
theorem zjs {key : Nat} : ∀ {env : List (Nat × EV)}, zgy key env = true → ∀ t off, lk env t ≠ some (.loc key off)
  | [], _, t, off => by simp [lk]
  | (k, .val v) :: r, h, t, off => by
    simp only [zgy] at h
    simp only [lk]
    split
    · simp
    · exact zjs h t off
  | (k, .loc k' o) :: r, h, t, off => by
    simp only [zgy] at h
    split at h
    · simp at h
    · rename_i hk
      simp only [lk]
      split
      · simp only [ne_eq, Option.some.injEq, EV.loc.injEq, not_and]; intro hh; exact absurd hh hk
      · exact zjs h t off
theorem zg3 {st : St} {d : Nat} (h : zgy d st.env = true ∨ zde st.ev d) : zde st.ev d := by
  rcases h with h | h
  · intro t off hh
    simp only [St.ev] at hh
    cases hl : lk st.env t with
    | none => simp [hl] at hh
    | some e => simp [hl] at hh; exact zjs h t off (by rw [hl, hh])
  · exact h
theorem SRepG.weakEnv (h : SRepG C st a w g lam) {env' : List (Nat × EV)} {L' : List (Nat × List AV)} (he : ∀ t e, lk env' t = some e → lk st.env t = some e) (hL : ∀ k cs, lk L' k = some cs → lk st.L k = some cs) :
    SRepG C ⟨env', L', st.H⟩ a w g lam where
  wr := h.wr
  si := h.si
  lr := ⟨fun key cs hc => h.lr.box key cs (hL key cs hc), fun k k' h1 h2 hh => by
    obtain ⟨c1, hc1⟩ := Option.ne_none_iff_exists'.1 h1
    obtain ⟨c2, hc2⟩ := Option.ne_none_iff_exists'.1 h2
    exact h.lr.inj k k' (by rw [hL k c1 hc1]; simp) (by rw [hL k' c2 hc2]; simp) hh⟩
  env t e hte := h.env t e (he t e hte)
  defs := h.defs
  size := h.size
  n0 := h.n0
  om := h.om
theorem zgo {α : Type} (ks : List Nat) (l : List (Nat × α)) : ∀ t e, lk (ks.filterMap (fun k => (lk l k).map (k, ·))) t = some e → lk l t = some e := by
  induction ks with
  | nil => intro t e h; simp [lk] at h
  | cons k ks ih =>
    intro t e h
    rw [List.filterMap_cons] at h
    cases hk : lk l k with
    | none => rw [hk] at h; exact ih t e h
    | some v =>
      rw [hk] at h
      simp only [Option.map_some, lk] at h
      split at h
      · rename_i hh; subst hh; simp only [Option.some.injEq] at h; subst h; exact hk
      · exact ih t e h
theorem zge.prune (h : zge C st a w) (ks : List Nat) : zge C (Sx.prune ks st) a w := by
  obtain ⟨g, lam, h⟩ := h
  exact ⟨g, lam, h.weakEnv (zgo ks st.env) (zgo ks st.L)⟩
theorem zvn {t : Nat} {v : EV} : ∀ {env : List (Nat × EV)} {t' : Nat} {e : EV}, lk (upd t v env) t' = some e → (t' = t ∧ e = v ∧ lk env t ≠ none) ∨ lk env t' = some e
  | [], t', e, h => by simp [upd, lk] at h
  | (k, x) :: r, t', e, h => by
    simp only [upd] at h
    by_cases hk : k = t
    · subst hk
      simp only [if_true, lk] at h
      split at h
      · rename_i hh; subst hh; simp only [Option.some.injEq] at h; exact .inl ⟨rfl, h.symm, by simp [lk]⟩
      · rename_i hh; right; simp only [lk, if_neg hh]; exact h
    · simp only [if_neg hk, lk] at h
      split at h
      · rename_i hh; right; simp only [lk, if_pos hh]; exact h
      · rename_i hh
        rcases zvn h with ⟨h1, h2, h3⟩ | h1
        · exact .inl ⟨h1, h2, by simp only [lk, if_neg hk]; exact h3⟩
        · right; simp only [lk, if_neg hh]; exact h1
theorem SRepG.know (h : SRepG C st a w g lam) {t : Nat} {b : Bool} (hb : (st.ev (.tmp t)).asB = some b) : SRepG C ⟨upd t (.val (.bool b)) st.env, st.L, st.H⟩ a w g lam := by
  have := zif hb
  simp only [St.ev] at this
  have hl : lk st.env t = some (.val (.bool b)) := by
    cases hq : lk st.env t with
    | none => simp [hq] at this
    | some e => simp [hq] at this; rw [this]
  refine h.weakEnv (fun t' e he => ?_) (fun k cs hc => hc)
  rcases zvn he with ⟨rfl, rfl, _⟩ | h1
  · exact hl
  · exact h1
def Known (ops : Array Oper) (tmps : Array Value) : Option (Nat × Bool) → Prop
  | none => True
  | some (j, b) => yielded ops tmps j = some b
theorem Known.put {ops : Array Oper} {a : Act} {kn : Option (Nat × Bool)} (h : Known ops a.tmps kn) {dst : Option Tmp} (hne : ∀ j b, kn = some (j, b) → ∀ t, (ops[j]?).bind (·.dst) = some t → dst ≠ some t) (v : Value) : Known ops (a.put dst v).tmps kn := by
  cases kn with
  | none => trivial
  | some p =>
    obtain ⟨j, b⟩ := p
    simp only [Known, yielded] at h ⊢
    cases ht : (ops[j]?).bind (·.dst) with
    | none => rw [ht] at h; simp at h
    | some t =>
      rw [ht] at h
      have := hne j b rfl t ht
      cases dst with
      | none => exact h
      | some d =>
        have hdt : d ≠ t := fun hh => this (by rw [hh])
        simpa [Act.put, hdt] using h
theorem z1p {w : World} {g : Gh} {lam : Nat → Nat} : zc8 w g lam (.val (.tup [])) undef := by
  simp only [zc8, zaj]; exact ⟨#[], rfl, by simp [zba]⟩
theorem zk4 {ops : Array Oper} {Q : Exit → Act → World → Prop} : ∀ (l : List Nat) (ol : List Oper) (kn : Option (Nat × Bool)) (K : St → Prop) (st : St) (a : Act) (w : World),
    l.map (fun i => ops[i]?) = ol.map some → (∀ o ∈ ol, ∀ d, o.dst = some d → d < C.N) → Known ops a.tmps kn →
    zau C.P C.cfg ops kn ol K st → zge C st a w → (∀ st a w, K st → zge C st a w → Q .normal a w) → wpOps C.P ops Q l a w
  | [], ol, kn, K, st, a, w, hl, hN, hkn, hx, hs, hK => by
    have : ol = [] := by simpa using hl.symm
    subst this
    exact hK st a w hx hs
  | i :: l, ol, kn, K, st, a, w, hl, hN, hkn, hx, hs, hK => by
    cases ol with
    | nil => simp at hl
    | cons o ol =>
      simp only [List.map_cons, List.cons.injEq] at hl
      obtain ⟨ho, hl⟩ := hl
      simp only [wpOps, ho]
      obtain ⟨g, lam, hs⟩ := hs
      have hN' : ∀ o ∈ ol, ∀ d, o.dst = some d → d < C.N := fun o' h' => hN o' (by simp [h'])
      have rest : ∀ kn st a w, Known ops a.tmps kn → zau C.P C.cfg ops kn ol K st → zge C st a w → wpOps C.P ops Q l a w := fun kn st a w h0 h1 h2 => zk4 l ol kn K st a w hl hN' h0 h1 h2 hK
      have one : ∀ (kn : Option (Nat × Bool)) (st : St), (∀ v, Known ops (a.put o.dst v).tmps kn) → SRepG C st a w g lam → opX C.P C.cfg o (zau C.P C.cfg ops kn ol K) st → o.wp C.P a w (wpOps C.P ops Q l) Q := by
        intro kn st hkn hs hx
        have := znh hs (hN o (by simp)) (fun d hd => zg3 hd) hx Q
        unfold Oper.wp at this ⊢
        revert this
        have hkp : ∀ v (a' : Act), a' = a.put o.dst v → Known ops a'.tmps kn := fun v a' h => h ▸ hkn v
        unfold Oper.upon
        split <;> first
          | exact fun h => h
          | (rintro ⟨e, h1, h2⟩; exact rest _ _ _ _ (hkp _ _ rfl) h1 h2)
          | (rintro ⟨e, h1, h2⟩
             refine rest _ _ _ _ ?_ h1 h2
             have := hkn undef
             cases hd : o.dst <;> (rw [hd] at this; exact this))
          | (intro h; refine h.mono fun e w' he => ?_
             cases e with
             | returned v => obtain ⟨e, h1, h2⟩ := he; exact rest _ _ _ _ (hkp _ _ rfl) h1 h2
             | panicked c => exact he
             | outgrown => exact he)
          | (intro h; refine h.mono fun v w' he => ?_
             obtain ⟨e, h1, h2⟩ := he; exact rest _ _ _ _ (hkp _ _ rfl) h1 h2)
      unfold zau at hx
      split at hx
      · rename_i hg
        have hw : Region.wanted o (yielded ops a.tmps) = true := by simp [Region.wanted, hg]
        simp only [hw, if_true]
        refine .inl (one _ st (fun v => ?_) hs hx)
        split
        · trivial
        · rename_i hany
          refine hkn.put (fun j b hk t ht hdt => hany ?_) v
          subst hk
          simp [ht, hdt]
      · rename_i j want hg
        split at hx
        · exact hx.elim
        rename_i t ht
        split at hx
        · exact hx.elim
        rename_i hdt
        have hkput : ∀ b v, yielded ops a.tmps j = some b → Known ops (a.put o.dst v).tmps (some (j, b)) := by
          intro b v hy
          refine Known.put (kn := some (j, b)) hy (fun j' b' hk t' ht' => ?_) v
          simp only [Option.some.injEq, Prod.mk.injEq] at hk
          obtain ⟨rfl, rfl⟩ := hk
          rw [ht] at ht'; simp only [Option.some.injEq] at ht'; subst ht'
          exact hdt
        split at hx
        · rename_i hk
          subst hk
          simp only [Known] at hkn
          have hw : Region.wanted o (yielded ops a.tmps) = true := by simp [Region.wanted, hg, hkn]
          simp only [hw, if_true]
          exact .inl (one _ st (fun v => hkput want v hkn) hs hx)
        split at hx
        · rename_i hk
          subst hk
          simp only [Known] at hkn
          have hw : Region.wanted o (yielded ops a.tmps) = false := by
            simp only [Region.wanted, hg, hkn]; cases want <;> rfl
          simp only [hw, Bool.false_eq_true, if_false]
          refine rest _ _ _ _ (hkput _ undef hkn) hx ⟨g, lam, ?_⟩
          cases hd : o.dst with
          | none => exact hs
          | some d => exact hs.put (hN o (by simp) d hd) z1p
        split at hx
        · split at hx
          · rename_i hu
            have hy : yielded ops a.tmps j = none := by
              have hq := zql hu
              unfold yielded
              rw [ht]
              simp only [St.ev] at hq
              cases hl' : lk st.env t with
              | none => simp [hl'] at hq
              | some e =>
                simp [hl'] at hq; subst hq
                obtain ⟨x, h1, h2⟩ := hs.env t _ hl'
                simp only [zc8, zaj] at h2
                obtain ⟨vs, rfl, _⟩ := h2
                simp [h1]
            have hw : Region.wanted o (yielded ops a.tmps) = false := by simp [Region.wanted, hg, hy]
            simp only [hw, Bool.false_eq_true, if_false]
            refine rest _ _ _ _ ?_ hx ⟨g, lam, ?_⟩
            · split
              · trivial
              · rename_i hany
                refine hkn.put (fun j b hk t ht hdt => hany ?_) undef
                subst hk
                simp [ht, hdt]
            · cases hd : o.dst with
              | none => exact hs
              | some d => exact hs.put (hN o (by simp) d hd) z1p
          · exact hx.elim
        rename_i b hb
        have hk := hs.know hb
        have hy : yielded ops a.tmps j = some b := by
          have := hs.evB hb
          unfold yielded
          rw [ht]
          have hq := zif hb
          simp only [St.ev] at hq
          cases hl' : lk st.env t with
          | none => simp [hl'] at hq
          | some e =>
            simp [hl'] at hq; subst hq
            obtain ⟨x, h1, h2⟩ := hs.env t _ hl'
            simp only [zc8, zaj] at h2; subst h2
            simp [h1]
        by_cases hbw : b = want
        · subst hbw
          have hw : Region.wanted o (yielded ops a.tmps) = true := by simp [Region.wanted, hg, hy]
          simp only [hw, if_true]
          exact .inl (one _ _ (fun v => hkput _ v hy) hk (hx.1 rfl))
        · have hbn : b = !want := by cases b <;> cases want <;> simp_all
          have hw : Region.wanted o (yielded ops a.tmps) = false := by
            simp only [Region.wanted, hg, hy]; subst hbn; cases want <;> rfl
          simp only [hw, Bool.false_eq_true, if_false]
          have hx2 := hx.2 hbn
          rw [hbn] at hk hy
          refine rest _ _ _ _ (hkput _ undef hy) hx2 ⟨g, lam, ?_⟩
          cases hd : o.dst with
          | none => exact hk
          | some d => exact hk.put (hN o (by simp) d hd) z1p
def zfr (C : Cx) (draw : Array Oper → (St → Prop) → St → Prop) : Prop := ∀ (ops : Array Oper) (K : St → Prop) (st : St) (a : Act) (w : World) (id : Nat) (Q : Exit → Act → World → Prop),
  (∀ o ∈ ops.toList, ∀ d, o.dst = some d → d < C.N) → draw ops K st → zge C st a w → (∀ st a w, K st → zge C st a w → Q .normal a w) → (Code.region id ops true).wp C.P Q a w
theorem zdz {draw : Array Oper → (St → Prop) → St → Prop} (hdr : zfr C draw) : ∀ (c : Code) (Q : XE → St → Prop) (st : St) (a : Act) (w : World), zdc C.N c = true →
    Ex C.P C.cfg draw c Q st → zge C st a w → c.wp C.P (Post C Q) a w
  | .skip, Q, st, a, w, _, hx, hs => wp_skip ⟨st, hs, hx⟩
  | .exit id, Q, st, a, w, _, hx, hs => wp_exit ⟨st, hs, hx⟩
  | .ret, Q, st, a, w, _, hx, hs => wp_ret ⟨st, hs, hx⟩
  | .region id ops d, Q, st, a, w, hd, hx, hs => by
    have hN : ∀ o ∈ ops.toList, ∀ d, o.dst = some d → d < C.N := by
      intro o ho d hod
      simp only [zdc, List.all_eq_true] at hd
      have := hd o ho
      simp only [hod, decide_eq_true_eq] at this
      exact this
    simp only [Ex] at hx
    cases d with
    | true => exact hdr ops (Q .normal) st a w id _ hN (by simpa using hx) hs (fun st a w h1 h2 => ⟨st, h2, h1⟩)
    | false =>
      refine wp_region (zk4 (C := C) (ops := ops) (Q := Post C Q) _ ops.toList none (Q .normal) st a w ?_ hN trivial (by simpa using hx) hs (fun st a w h1 h2 => ⟨st, h2, h1⟩))
      apply List.ext_getElem?
      intro i
      simp only [List.getElem?_map, List.getElem?_range, Array.getElem?_toList]
      by_cases hi : i < ops.size
      · simp [hi]
      · simp [hi]
  | .seq x y, Q, st, a, w, hd, hx, hs => by
    simp only [zdc, Bool.and_eq_true] at hd
    simp only [Ex] at hx
    refine wp_seq (wp_mono (zdz hdr x _ st a w hd.1 hx hs) fun e a w he => ?_)
    cases e <;> simp only [Post, Exit.then] at he ⊢
    · obtain ⟨st', h1, h2⟩ := he; exact zdz hdr y Q st' a w hd.2 h2 h1
    · exact he
    · exact he
  | .cond c x y, Q, st, a, w, hd, hx, hs => by
    simp only [zdc, Bool.and_eq_true] at hd
    simp only [Ex] at hx
    split at hx
    · rename_i b hb
      have hc : a.eval c = .bool b := by obtain ⟨g, lam, hs⟩ := hs; exact hs.evB hb
      refine wp_cond_split hc (fun h => ?_) (fun h => ?_)
      · exact zdz hdr x Q st a w hd.1 (hx.1 h) hs
      · exact zdz hdr y Q st a w hd.2 (hx.2 h) hs
    · exact hx.elim
  | .block id c, Q, st, a, w, hd, hx, hs => by
    simp only [zdc] at hd
    simp only [Ex] at hx
    refine wp_block (wp_mono (zdz hdr c _ st a w hd hx hs) fun e a w he => ?_)
    cases e <;> simp only [Post, Exit.inBlock] at he ⊢
    · exact he
    · obtain ⟨st', h1, h2⟩ := he
      split
      · rename_i hh; simp only [hh, if_true] at h2; exact ⟨st', h1, h2⟩
      · rename_i hh; simp only [hh, if_false] at h2; exact ⟨st', h1, h2⟩
    · exact he
  | .loop c, Q, st, a, w, hd, hx, hs => by
    simp only [zdc] at hd
    simp only [Ex] at hx
    obtain ⟨ks, n, hx⟩ := hx
    refine wp_loop_rounds n ?_
    have key : ∀ n st a w, zfj (Ex C.P C.cfg draw c) ks Q n st → zge C st a w → Code.rounds C.P c (Post C Q) n a w := by
      intro n
      induction n with
      | zero => intro st a w h _; exact h.elim
      | succ n ih =>
        intro st a w h hs
        rw [rounds_succ]
        refine wp_mono (zdz hdr c _ st a w hd h hs) fun e a w he => ?_
        cases e <;> simp only [Post, Exit.then] at he ⊢
        · obtain ⟨st', h1, h2⟩ := he; exact ih _ a w h2 (h1.prune ks)
        · exact he
        · exact he
    exact key n _ a w hx (hs.prune ks)
  | .rangeFunc .., _, _, _, _, _, hx, _ => by simp [Ex] at hx
  | .scope _, _, _, _, _, _, hx, _ => by simp [Ex] at hx
  | .label _, _, _, _, _, _, hx, _ => by simp [Ex] at hx
  | .goto _, _, _, _, _, _, hx, _ => by simp [Ex] at hx
  | .refuse _, _, _, _, _, _, hx, _ => by simp [Ex] at hx
end
def zuy (R : AV → AV → Prop) (l l' : List AV) : Prop := l.length = l'.length ∧ ∀ (i : Nat) c c', l[i]? = some c → l'[i]? = some c' → R c c'
def FrR (n₀ : Nat) (keep : List Nat) (H : List (List AV)) : Nat → AV → AV → Prop
  | 0, _, _ => False
  | d + 1, v, v' =>
    (mx v ≤ n₀ ∧ v' = v) ∨ (v = .slnil ∧ v' = .sl none 0 []) ∨ v' = .junk ∨ (∃ b, v = .fraw b ∧ v' = .flt (cn b)) ∨
    (∃ id gen off len sz cs l l', v = .slm id gen off len sz ∧ v' = .sl none len l' ∧ n₀ ≤ id ∧ id ∉ keep ∧ H[id]? = some cs ∧ cs.length = gen ∧ gc cs off (len * sz) = some l ∧ zuy (FrR n₀ keep H d) l l') ∨
    (∃ id gen off len sz cs j, v = .slm id gen off len sz ∧ v' = .slm (n₀ + j) gen off len sz ∧ keep[j]? = some id ∧ H[id]? = some cs ∧ cs.length = gen) ∨
    (∃ id gen off len sz cs j o, v = .eptr (.slm id gen off len sz) o ∧ v' = .eptr (.slm (n₀ + j) gen off len sz) o ∧ keep[j]? = some id ∧ H[id]? = some cs ∧ cs.length = gen) ∨
    (∃ l l', v = .agg l ∧ v' = .agg l' ∧ zuy (FrR n₀ keep H d) l l') ∨
    (∃ l l', v = .tup l ∧ v' = .tup l' ∧ zuy (FrR n₀ keep H d) l l')
def Fr (n₀ : Nat) (keep : List Nat) (H : List (List AV)) (v v' : AV) : Prop := ∃ d, FrR n₀ keep H d v v'
def Frs (n₀ : Nat) (keep : List Nat) (H : List (List AV)) (l l' : List AV) : Prop := ∃ d, zuy (FrR n₀ keep H d) l l'
section
variable {n₀ : Nat} {keep : List Nat} {H : List (List AV)}
theorem FrR.mono : ∀ {d : Nat} {v v' : AV}, FrR n₀ keep H d v v' → FrR n₀ keep H (d + 1) v v'
  | 0, _, _, h => h.elim
  | d + 1, v, v', h => by
    have hm : ∀ {l l'}, zuy (FrR n₀ keep H d) l l' → zuy (FrR n₀ keep H (d + 1)) l l' := fun h => ⟨h.1, fun i c c' h1 h2 => FrR.mono (h.2 i c c' h1 h2)⟩
    unfold FrR at h ⊢
    rcases h with h | h | h | h | ⟨id, gen, off, len, sz, cs, l, l', h1, h2, h3, h4, h5, h6, h7, h8⟩ | h | h | ⟨l, l', h1, h2, h3⟩ | ⟨l, l', h1, h2, h3⟩
    · exact .inl h
    · exact .inr (.inl h)
    · exact .inr (.inr (.inl h))
    · exact .inr (.inr (.inr (.inl h)))
    · exact .inr (.inr (.inr (.inr (.inl ⟨id, gen, off, len, sz, cs, l, l', h1, h2, h3, h4, h5, h6, h7, hm h8⟩))))
    · exact .inr (.inr (.inr (.inr (.inr (.inl h)))))
    · exact .inr (.inr (.inr (.inr (.inr (.inr (.inl h))))))
    · exact .inr (.inr (.inr (.inr (.inr (.inr (.inr (.inl ⟨l, l', h1, h2, hm h3⟩)))))))
    · exact .inr (.inr (.inr (.inr (.inr (.inr (.inr (.inr ⟨l, l', h1, h2, hm h3⟩)))))))
theorem FrR.le {d e : Nat} (hde : d ≤ e) {v v' : AV} (h : FrR n₀ keep H d v v') : FrR n₀ keep H e v v' := by
  induction hde with
  | refl => exact h
  | step _ ih => exact ih.mono
theorem Fr.old {v : AV} (h : mx v ≤ n₀) : Fr n₀ keep H v v := ⟨1, .inl ⟨h, rfl⟩⟩
theorem Fr.nil : Fr n₀ keep H .slnil (.sl none 0 []) := ⟨1, .inr (.inl ⟨rfl, rfl⟩)⟩
theorem Fr.junk (v : AV) : Fr n₀ keep H v .junk := ⟨1, .inr (.inr (.inl rfl))⟩
theorem Fr.raw (b : Nat) : Fr n₀ keep H (.fraw b) (.flt (cn b)) := ⟨1, .inr (.inr (.inr (.inl ⟨b, rfl, rfl⟩)))⟩
theorem Fr.fz {id gen off len sz : Nat} {cs l l' : List AV} (h1 : n₀ ≤ id) (h2 : id ∉ keep) (h3 : H[id]? = some cs) (h4 : cs.length = gen) (h5 : gc cs off (len * sz) = some l) (h6 : Frs n₀ keep H l l') :
    Fr n₀ keep H (.slm id gen off len sz) (.sl none len l') := by
  obtain ⟨d, h6⟩ := h6
  exact ⟨d + 1, .inr (.inr (.inr (.inr (.inl ⟨id, gen, off, len, sz, cs, l, l', rfl, rfl, h1, h2, h3, h4, h5, h6⟩))))⟩
theorem Fr.kp {id gen off len sz j : Nat} {cs : List AV} (h1 : keep[j]? = some id) (h2 : H[id]? = some cs) (h3 : cs.length = gen) : Fr n₀ keep H (.slm id gen off len sz) (.slm (n₀ + j) gen off len sz) :=
  ⟨1, .inr (.inr (.inr (.inr (.inr (.inl ⟨id, gen, off, len, sz, cs, j, rfl, rfl, h1, h2, h3⟩)))))⟩
theorem Fr.agg {l l' : List AV} (h : Frs n₀ keep H l l') : Fr n₀ keep H (.agg l) (.agg l') := by
  obtain ⟨d, h⟩ := h
  exact ⟨d + 1, .inr (.inr (.inr (.inr (.inr (.inr (.inr (.inl ⟨l, l', rfl, rfl, h⟩)))))))⟩
theorem Fr.tup {l l' : List AV} (h : Frs n₀ keep H l l') : Fr n₀ keep H (.tup l) (.tup l') := by
  obtain ⟨d, h⟩ := h
  exact ⟨d + 1, .inr (.inr (.inr (.inr (.inr (.inr (.inr (.inr ⟨l, l', rfl, rfl, h⟩)))))))⟩
theorem Frs.nil : Frs n₀ keep H [] [] := ⟨0, rfl, fun i c c' h => by simp at h⟩
theorem Frs.cons {v v' : AV} {l l' : List AV} (h : Fr n₀ keep H v v') (k : Frs n₀ keep H l l') : Frs n₀ keep H (v :: l) (v' :: l') := by
  obtain ⟨d, h⟩ := h
  obtain ⟨e, k⟩ := k
  refine ⟨max d e, by simp [k.1], fun i c c' h1 h2 => ?_⟩
  cases i with
  | zero => simp at h1 h2; subst h1 h2; exact h.le (Nat.le_max_left _ _)
  | succ i => simp at h1 h2; exact (k.2 i c c' h1 h2).le (Nat.le_max_right _ _)
theorem Frs.old {l : List AV} (h : mxL l ≤ n₀) : Frs n₀ keep H l l := by
  refine ⟨1, rfl, fun i c c' h1 h2 => ?_⟩
  rw [h1] at h2; simp only [Option.some.injEq] at h2; subst h2
  exact .inl ⟨zkz.1 h i c h1, rfl⟩
end
def frG (g : Gh) (n₀ : Nat) (keep : List Nat) (H : List (List AV)) : Gh where
  ρ id gen := if id < n₀ then g.ρ id gen else
    match keep[id - n₀]? with
    | some k => if (H[k]?).map List.length = some gen then g.ρ k gen else none
    | none => none
  Fz b := g.Fz b ∨ ∃ id cs δ, n₀ ≤ id ∧ id ∉ keep ∧ H[id]? = some cs ∧ g.ρ id cs.length = some (b, δ)
def frH (n₀ : Nat) (keep : List Nat) (H : List (List AV)) : List (List AV) := H.take n₀ ++ keep.map fun k => (H[k]?).getD []
theorem zp2 {w : World} {g : Gh} {n₀ : Nat} {keep : List Nat} {H : List (List AV)} : ExtN n₀ w g w (frG g n₀ keep H) where
  fz b hb := .inl hb
  fzw _ _ := rfl
  rho id gen p hid hp := by simp only [frG, if_pos hid]; exact hp
  bsz _ _ h := h
theorem zmp {w : World} {g : Gh} {n₀ : Nat} {keep : List Nat} {H : List (List AV)} (hw : WRep w g H) (hk : ∀ k ∈ keep, n₀ ≤ k) :
    ∀ (d : Nat) (v v' : AV) (x : Value), FrR n₀ keep H d v v' → zaj w g v x → zaj w (frG g n₀ keep H) v' x
  | 0, _, _, _, h, _ => h.elim
  | d + 1, v, v', x, h, hv => by
    have ih := zmp hw hk d
    have ihL : ∀ {l l' : List AV} {vs : List Value}, zuy (FrR n₀ keep H d) l l' → zba w g l vs → zba w (frG g n₀ keep H) l' vs := by
      intro l l' vs ha hl
      rw [zcl] at hl ⊢
      refine ⟨by rw [hl.1, ha.1], fun i c x h1 h2 => ?_⟩
      have hlt : i < l.length := by rw [ha.1]; exact (List.getElem?_eq_some_iff.1 h1).1
      exact ih l[i] c x (ha.2 i l[i] c (by simp [hlt]) h1) (hl.2 i l[i] x (by simp [hlt]) h2)
    have ihC : ∀ {l l' : List AV} {b o : Nat}, zuy (FrR n₀ keep H d) l l' → zc9 w g l b o → zc9 w (frG g n₀ keep H) l' b o := by
      intro l l' b o ha hl
      rw [zdl] at hl ⊢
      intro i c h1
      have hlt : i < l.length := by rw [ha.1]; exact (List.getElem?_eq_some_iff.1 h1).1
      obtain ⟨x, j1, j2, j3⟩ := hl i l[i] (by simp [hlt])
      exact ⟨x, j1, j2, ih l[i] c x (ha.2 i l[i] c (by simp [hlt]) h1) j3⟩
    unfold FrR at h
    rcases h with ⟨h1, rfl⟩ | ⟨rfl, rfl⟩ | rfl | ⟨b, rfl, rfl⟩ | ⟨id, gen, off, len, sz, cs, l, l', rfl, rfl, h3, h4, h5, h6, h7, h8⟩ | ⟨id, gen, off, len, sz, cs, j, rfl, rfl, h1, h2, h3⟩ | ⟨id, gen, off, len, sz, cs, j, o, rfl, rfl, h1, h2, h3⟩ | ⟨l, l', rfl, rfl, h3⟩ | ⟨l, l', rfl, rfl, h3⟩
    · exact zaj.extN zp2 _ _ h1 hv
    · simp only [zaj] at hv ⊢
      exact ⟨0, Nat.le_refl _, .inl ⟨by simp, by simp, by simp, none, hv⟩⟩
    · simp [zaj]
    · simp only [zaj] at hv ⊢
      exact ⟨b, hv.1, hv.2, rfl⟩
    · simp only [zaj] at hv ⊢
      obtain ⟨b, δ, cap, m, k1, k2, k3, k4, k5, k6⟩ := hv
      rw [← h6] at k1
      obtain ⟨b', δ', c, e, q1, q2, q3, q4, q5, q6⟩ := hw.blk id cs h5
      rw [k1] at q1; simp only [Option.some.injEq, Prod.mk.injEq] at q1; obtain ⟨rfl, rfl⟩ := q1
      exact ⟨cap, k3, .inr ⟨b, δ + off, k2, by simp, .inr ⟨id, cs, δ, h3, h4, h5, k1⟩, ihC h8 (zhd q4 h7)⟩⟩
    · simp only [zaj] at hv ⊢
      obtain ⟨b, δ, cap, m, k1, k2, k3, k4, k5, k6⟩ := hv
      refine ⟨b, δ, cap, m, ?_, k2, k3, k4, k5, k6⟩
      simp only [frG]
      rw [if_neg (by omega), show n₀ + j - n₀ = j from by omega, h1]
      simp [h2, h3, k1]
    · simp only [zaj, zbi] at hv ⊢
      obtain ⟨b, o', k1, δ, k2, k3⟩ := hv
      refine ⟨b, o', k1, δ, ?_, k3⟩
      simp only [frG]
      rw [if_neg (by omega), show n₀ + j - n₀ = j from by omega, h1]
      simp [h2, h3, k2]
    · simp only [zaj] at hv ⊢
      obtain ⟨vs, k1, k2, k3⟩ := hv
      exact ⟨vs, k1, k2, ihL h3 k3⟩
    · simp only [zaj] at hv ⊢
      obtain ⟨vs, k1, k2⟩ := hv
      exact ⟨vs, k1, ihL h3 k2⟩
theorem ztg {w₀ w : World} {g₀ g : Gh} {H₀ H : List (List AV)} {keep : List Nat} (hw₀ : WRep w₀ g₀ H₀) (hw : WRep w g H) (hs : Since w₀ g₀ H₀ w g H) (hom : ∀ id cs, id < H₀.length → H[id]? = some cs → mxL cs ≤ H₀.length) (hnd : keep.Nodup)
    (hk : ∀ k ∈ keep, H₀.length ≤ k ∧ ∃ cs, H[k]? = some cs ∧ mxL cs ≤ H₀.length) :
    WRep w (frG g H₀.length keep H) (frH H₀.length keep H) ∧ Since w₀ g₀ H₀ w (frG g H₀.length keep H) (frH H₀.length keep H) := by
  have hlen : H₀.length ≤ H.length := hs.len
  have htl : (H.take H₀.length).length = H₀.length := by simp; omega
  have hget : ∀ id cs, (frH H₀.length keep H)[id]? = some cs → (id < H₀.length ∧ H[id]? = some cs) ∨ (H₀.length ≤ id ∧ ∃ k, keep[id - H₀.length]? = some k ∧ H[k]? = some cs) := by
    intro id cs hc
    unfold frH at hc
    by_cases hid : id < H₀.length
    · rw [List.getElem?_append_left (by rw [htl]; exact hid), List.getElem?_take, if_pos hid] at hc
      exact .inl ⟨hid, hc⟩
    · rw [List.getElem?_append_right (by rw [htl]; omega), htl, List.getElem?_map, Option.map_eq_some_iff] at hc
      obtain ⟨k, h1, h2⟩ := hc
      obtain ⟨_, cs', h3, _⟩ := hk k (List.mem_of_getElem? h1)
      rw [h3] at h2; simp only [Option.getD_some] at h2; subst h2
      exact .inr ⟨by omega, k, h1, h3⟩
  have hrho : ∀ id cs, (frH H₀.length keep H)[id]? = some cs → ∃ k, H[k]? = some cs ∧ (frG g H₀.length keep H).ρ id cs.length = g.ρ k cs.length ∧ ((id < H₀.length ∧ k = id) ∨ (H₀.length ≤ id ∧ keep[id - H₀.length]? = some k ∧ H₀.length ≤ k)) ∧ mxL cs ≤ H₀.length := by
    intro id cs hc
    rcases hget id cs hc with ⟨hid, hc⟩ | ⟨hid, k, h1, h2⟩
    · exact ⟨id, hc, by simp only [frG, if_pos hid], .inl ⟨hid, rfl⟩, hom id cs hid hc⟩
    · obtain ⟨h3, cs', h4, h5⟩ := hk k (List.mem_of_getElem? h1)
      rw [h2] at h4; simp only [Option.some.injEq] at h4; subst h4
      refine ⟨k, h2, ?_, .inr ⟨hid, h1, h3⟩, h5⟩
      simp only [frG]
      rw [if_neg (by omega), h1]
      simp [h2]
  have hnf : ∀ k cs b δ, H[k]? = some cs → g.ρ k cs.length = some (b, δ) → (k < H₀.length ∨ k ∈ keep) → ¬ (frG g H₀.length keep H).Fz b := by
    rintro k cs b δ hc hp hkk (hf | ⟨id, cs', δ', h1, h2, h3, h4⟩)
    · obtain ⟨b', δ', c, e, q1, q2, q3, q4, q5, q6⟩ := hw.blk k cs hc
      rw [hp] at q1; simp only [Option.some.injEq, Prod.mk.injEq] at q1; obtain ⟨rfl, rfl⟩ := q1
      exact q5 hf
    · have := hw.inj k id cs cs' b δ δ' hc h3 hp h4
      subst this
      rcases hkk with h | h
      · omega
      · exact h2 h
  have hfl : (frH H₀.length keep H).length = H₀.length + keep.length := by simp [frH]; omega
  refine ⟨⟨fun id cs hc => ?_, fun i j cs₁ cs₂ b δ₁ δ₂ h1 h2 h3 h4 => ?_, fun b hb => ?_, fun id gen b δ hp => ?_, fun id gen p hp => ?_⟩, ?_⟩
  · obtain ⟨k, h1, h2, h3, h4⟩ := hrho id cs hc
    obtain ⟨b, δ, c, e, q1, q2, q3, q4, q5, q6⟩ := hw.blk k cs h1
    refine ⟨b, δ, c, e, by rw [h2]; exact q1, q2, q3, zc9.extN zp2 cs b δ h4 rfl q4, hnf k cs b δ h1 q1 ?_, by omega⟩
    rcases h3 with ⟨h, rfl⟩ | ⟨_, h, _⟩
    · exact .inl h
    · exact .inr (List.mem_of_getElem? h)
  · obtain ⟨k, p1, p2, p3, _⟩ := hrho i cs₁ h1
    obtain ⟨k', r1, r2, r3, _⟩ := hrho j cs₂ h2
    rw [p2] at h3; rw [r2] at h4
    have hkk := hw.inj k k' cs₁ cs₂ b δ₁ δ₂ p1 r1 h3 h4
    subst hkk
    rcases p3 with ⟨a1, a2⟩ | ⟨a1, a2, a3⟩ <;> rcases r3 with ⟨b1, b2⟩ | ⟨b1, b2, b3⟩
    · omega
    · omega
    · omega
    · have hi := (List.getElem?_eq_some_iff.1 a2).1
      have hj := (List.getElem?_eq_some_iff.1 b2).1
      have hp := List.pairwise_iff_getElem.1 hnd
      obtain ⟨_, e1⟩ := List.getElem?_eq_some_iff.1 a2
      obtain ⟨_, e2⟩ := List.getElem?_eq_some_iff.1 b2
      rcases Nat.lt_trichotomy i j with h | h | h
      · exact absurd (e1.trans e2.symm) (hp _ _ hi hj (by omega))
      · exact h
      · exact absurd (e2.trans e1.symm) (hp _ _ hj hi (by omega))
  · rcases hb with hb | ⟨id, cs, δ, _, _, h3, h4⟩
    · exact hw.fzlt b hb
    · exact hw.rholt _ _ _ _ h4
  · simp only [frG] at hp
    split at hp
    · exact hw.rholt _ _ _ _ hp
    · split at hp
      · split at hp
        · exact hw.rholt _ _ _ _ hp
        · simp at hp
      · simp at hp
  · simp only [frG] at hp
    split at hp
    · rename_i hid
      obtain ⟨cs, h1, h2⟩ := hw.rhoid _ _ _ hp
      exact ⟨cs, by unfold frH; rw [List.getElem?_append_left (by rw [htl]; exact hid), List.getElem?_take, if_pos hid]; exact h1, h2⟩
    · rename_i hid
      split at hp
      · rename_i k hkj
        split at hp
        · rename_i hg
          obtain ⟨_, cs, h1, _⟩ := hk k (List.mem_of_getElem? hkj)
          rw [h1] at hg; simp only [Option.map_some, Option.some.injEq] at hg
          refine ⟨cs, ?_, by omega⟩
          unfold frH
          rw [List.getElem?_append_right (by rw [htl]; omega), htl, List.getElem?_map, hkj]
          simp [h1]
        · simp at hp
      · simp at hp
  · refine ⟨hs.sz, hs.keep, hs.bszk, hs.fro, fun b hb => .inl (hs.fz b hb), fun b hb hlt => ?_, fun id gen p hp => ?_, fun id cs b δ hlt hc hp => ?_, by rw [hfl]; omega, hs.same⟩
    · rcases hb with hb | ⟨id, cs, δ, h1, _, h3, h4⟩
      · exact hs.fznew b hb hlt
      · obtain ⟨cs₀, h5, _⟩ := hs.hbi id cs b δ hlt h3 h4
        have := (List.getElem?_eq_some_iff.1 h5).1
        omega
    · have h1 := hs.rho id gen p hp
      obtain ⟨cs, h2, _⟩ := hw.rhoid _ _ _ h1
      have hid : id < H₀.length := hw₀.ids _ _ _ hp
      simp only [frG, if_pos hid]; exact h1
    · obtain ⟨k, h1, h2, h3, _⟩ := hrho id cs hc
      rw [h2] at hp
      obtain ⟨cs₀, h5, h6⟩ := hs.hbi k cs b δ hlt h1 hp
      have hkl := (List.getElem?_eq_some_iff.1 h5).1
      rcases h3 with ⟨_, rfl⟩ | ⟨_, _, h⟩
      · exact ⟨cs₀, h5, h6⟩
      · omega
def resV (P : Program) (st : St) : ResultVar → Option AV
  | .tmp t => (st.ev (.tmp t)).asV
  | .cell x t =>
    match zas P st.ev (lk st.L) st.H (.load t (.tmp x)) with
    | some (_, .val v) => some v
    | _ => none
def zaf : List AV → AV
  | [v] => v
  | vs => .tup vs
def zfl (P : Program) (fn : Func) (H₀ : List (List AV)) (r : AV) (H' : List (List AV)) : XE → St → Prop := fun e st =>
  (match e with | .exit _ => False | _ => True) ∧ ∃ vs keep, (fn.results.toList.map (resV P st)).mapM id = some vs ∧ keep.Nodup ∧
    (∀ k ∈ keep, H₀.length ≤ k ∧ ∃ cs, st.H[k]? = some cs ∧ mxL cs ≤ H₀.length) ∧ frH H₀.length keep st.H = H' ∧ Fr H₀.length keep st.H (zaf vs) r
def zbp : Nat → List AV → List (Nat × EV)
  | _, [] => []
  | i, v :: vs => (i, .val v) :: zbp (i + 1) vs
def zyu (a : Act) (r : ResultVar) : Sem Value :=
  match r with
  | .tmp t => Pure.pure (a.tmps.getD t undef)
  | .cell x t => do loadVar t (← asAddr (a.tmps.getD x undef))
theorem zmg {C : Cx} {st : St} {a : Act} {w : World} {g : Gh} {lam : Nat → Nat} (h : SRepG C st a w g lam) : ∀ (rs : List ResultVar) (vs : List AV), (rs.map (resV C.P st)).mapM id = some vs →
    ∃ xs : List Value, (rs.mapM (zyu a)).run C.P w = .ok xs w ∧ zba w g vs xs
  | [], vs, hv => by simp at hv; subst hv; exact ⟨[], rfl, by simp [zba]⟩
  | r :: rs, vs, hv => by
    have hm := zl6 hv
    cases vs with
    | nil => simp at hm
    | cons v vs =>
      simp only [List.map_cons, List.cons.injEq] at hm
      obtain ⟨hr, hm⟩ := hm
      have hv' : (rs.map (resV C.P st)).mapM id = some vs := by
        simp only [List.map_cons, List.mapM_cons, id_eq, hr, Option.bind_eq_bind, Option.bind_some, Option.bind_eq_some_iff, Option.pure_def, Option.some.injEq, List.cons.injEq, true_and] at hv
        obtain ⟨y, h1, rfl⟩ := hv
        exact h1
      obtain ⟨xs, h1, h2⟩ := zmg h rs vs hv'
      have one : ∃ x, (zyu a r).run C.P w = .ok x w ∧ zaj w g v x := by
        cases r with
        | tmp t => exact ⟨a.tmps.getD t undef, rfl, h.evV (ze6 hr)⟩
        | cell y t =>
          simp only [resV] at hr
          split at hr
          · rename_i c v' hp
            simp only [Option.some.injEq] at hr; subst hr
            simp only [zas] at hp
            split at hp
            · rename_i key off he
              simp only [Option.bind_eq_some_iff, Option.map_eq_some_iff, Prod.mk.injEq] at hp
              obtain ⟨cs, h1, n, h2, l, h3, v'', h4, rfl, hq⟩ := hp
              simp only [EV.val.injEq] at hq; subst hq
              obtain ⟨c', e', k1, k2, k3, k4⟩ := h.lr.box key cs h1
              have hl := zhd k3 h3
              rw [Nat.zero_add] at hl
              have hx : a.tmps.getD y undef = .pointer (some ⟨lam key, off, none⟩) := h.evL he
              have hagg := zqp (P := C.P) h2 (zem h3).1 hl h4
              obtain ⟨x, j1, j2⟩ := hagg
              exact ⟨x, by simp only [zyu, hx, asAddr, Sem.run_bind, Sem.run_pure, Result.andThen_ok, j1], j2⟩
            · rename_i s off he
              simp only [Option.bind_eq_some_iff, Option.map_eq_some_iff, Prod.mk.injEq] at hp
              obtain ⟨n, h2, l, h3, v'', h4, rfl, hq⟩ := hp
              simp only [EV.val.injEq] at hq; subst hq
              have hx := h.evV he
              simp only [zaj] at hx
              obtain ⟨b, o', hx, hs⟩ := hx
              obtain ⟨k1, k2⟩ := zh2 h.wr hs h3
              obtain ⟨x, j1, j2⟩ := zqp (P := C.P) h2 k2 k1 h4
              have hx' : a.tmps.getD y undef = .pointer (some ⟨b, o' + off, none⟩) := hx
              exact ⟨x, by simp only [zyu, hx', asAddr, Sem.run_bind, Sem.run_pure, Result.andThen_ok, j1], j2⟩
            · simp at hp
          · simp at hr
      obtain ⟨x, j1, j2⟩ := one
      refine ⟨x :: xs, ?_, by simp only [zba]; exact ⟨x, xs, rfl, j2, h2⟩⟩
      simp only [List.mapM_cons, Sem.run_bind, j1, Result.andThen_ok, h1, Sem.run_pure]
theorem zi4 {w : World} {g : Gh} {lam : Nat → Nat} : ∀ {i : Nat} {args : List AV} {vs : List Value} {t : Nat} {e : EV}, zba w g args vs → lk (zbp i args) t = some e →
    i ≤ t ∧ ∃ x, vs[t - i]? = some x ∧ zc8 w g lam e x
  | i, [], vs, t, e, _, h => by simp [zbp, lk] at h
  | i, v :: args, vs, t, e, hl, h => by
    simp only [zba] at hl
    obtain ⟨x, rest, rfl, h1, h2⟩ := hl
    simp only [zbp, lk] at h
    split at h
    · rename_i hh; subst hh
      simp only [Option.some.injEq] at h; subst h
      exact ⟨Nat.le_refl _, x, by simp, h1⟩
    · obtain ⟨h3, y, h4, h5⟩ := zi4 (lam := lam) h2 h
      refine ⟨by omega, y, ?_, h5⟩
      rw [show t - i = (t - (i + 1)) + 1 from by omega]
      simpa using h4
theorem Spec.intro {P : Program} {f : Nat} {fn : Func} {body : Code} {args : List AV} {H H' : List (List AV)} {r : AV} (hf : P.funcs[f]? = some fn) (hb : fn.body = some body)
    (hd : zdc fn.ntmps body = true) (hn : args.length ≤ fn.ntmps) (esc : Bool) (fz : List Nat) {draw : Array Oper → (St → Prop) → St → Prop} (hdr : ∀ C : Cx, C.P = P → C.cfg = ⟨esc, H.length, fz⟩ → zfr C draw)
    (h : Ex P ⟨esc, H.length, fz⟩ draw body (zfl P fn H r H') ⟨zbp 0 args, [], H⟩) : Spec P f args H r H' := by
  intro w g cargs hw hl
  have hsz : cargs.size = args.length := by have := zat hl; simpa using this
  refine calls_of_wp hf hb ?_
  let C : Cx := ⟨P, ⟨esc, H.length, fz⟩, w, g, H, fn.ntmps⟩
  have hs : zge C ⟨zbp 0 args, [], H⟩ { tmps := cargs ++ Array.replicate (fn.ntmps - cargs.size) undef, defers := [] } w := by
    refine ⟨g, fun _ => 0, hw, Since.refl hw, ⟨fun key cs hc => by simp [lk] at hc, fun k k' h1 h2 _ => by simp [lk] at h1⟩, fun t e he => ?_, rfl, ?_, Nat.le_refl _, fun id cs _ hc => ?_⟩
    · obtain ⟨_, x, h1, h2⟩ := zi4 (lam := fun _ => 0) hl he
      refine ⟨x, ?_, h2⟩
      rw [Nat.sub_zero] at h1
      have hlt : t < cargs.size := by have := (List.getElem?_eq_some_iff.1 h1).1; simpa using this
      rw [Array.getElem?_append_left hlt]; simpa using h1
    · simp [C]; omega
    · obtain ⟨_, _, _, _, _, _, _, _, _, h⟩ := hw.blk id cs hc; exact h
  refine wp_mono (zdz (C := C) (hdr C rfl rfl) body _ _ _ w hd h hs) fun e a w' he => ?_
  have key : ∀ e' st, zge C st a w' → zfl P fn H r H' e' st → a.defers = [] ∧ ∃ v, (results fn a.tmps).run P w' = .ok v w' ∧
      ∃ v₁ g', (Ending.returned v) = .returned v₁ ∧ WRep w' g' H' ∧ Since w g H w' g' H' ∧ zaj w' g' r v₁ := by
    rintro e' st ⟨g', lam, hs'⟩ ⟨_, vs, keep, h1, h2, h3, h4, h5⟩
    obtain ⟨xs, j1, j2⟩ := zmg hs' fn.results.toList vs h1
    dsimp only [C] at j1
    obtain ⟨k1, k2⟩ := ztg hw hs'.wr hs'.si hs'.om h2 h3
    refine ⟨hs'.defs, ?_⟩
    have hrun : (fn.results.mapM (zyu a)).run P w' = .ok xs.toArray w' := by
      rw [Array.mapM_eq_mapM_toList, map_eq_pure_bind, Sem.run_bind, j1]
      simp
    obtain ⟨d, h5⟩ := h5
    have hxl := zat j2
    have hv : zaj w' g' (zaf vs) (if h : xs.toArray.size = 1 then xs.toArray[0] else .tuple xs.toArray) := by
      match vs, xs, j2, hxl with
      | [], [], j2, _ => simp only [zaf]; simp [zaj, zba]
      | [v], [x], j2, _ =>
        simp only [zba] at j2
        obtain ⟨y, rest, hh, j3, j4⟩ := j2
        simp only [List.cons.injEq] at hh; obtain ⟨rfl, rfl⟩ := hh
        simpa [zaf] using j3
      | v :: v' :: vs, x :: x' :: xs, j2, _ =>
        have : ¬ ((x :: x' :: xs).toArray.size = 1) := by simp
        rw [dif_neg this]
        simp only [zaf, zaj]
        exact ⟨_, rfl, by simpa using j2⟩
      | [], _ :: _, _, h => simp at h
      | [_], [], _, h => simp at h
      | [_], _ :: _ :: _, _, h => simp at h
      | _ :: _ :: _, [], _, h => simp at h
      | _ :: _ :: _, [_], _, h => simp at h
    refine ⟨_, ?_, _, frG g' H.length keep st.H, rfl, by rw [← h4]; exact k1, by rw [← h4]; exact k2, zmp hs'.wr (fun k hk => (h3 k hk).1) d _ r _ h5 hv⟩
    simp only [results, Sem.run_bind]
    exact congrArg (fun q => Result.andThen q (fun vs w'' => (Sem.run P (Pure.pure (if h : vs.size = 1 then vs[0] else Value.tuple vs)) w''))) hrun
  cases e <;> simp only [Post] at he
  · obtain ⟨st, h1, h2⟩ := he; exact key _ st h1 h2
  · obtain ⟨st, h1, h2⟩ := he; exact h2.1.elim
  · obtain ⟨st, h1, h2⟩ := he; exact key _ st h1 h2
theorem zaa.mk {P : Program} {f : Nat} {args : List AV} {H H' : List (List AV)} {r : AV} (he : Enters P f) (h : Spec P f args H r H') : zaa P f args H r H' := .inl ⟨he, h⟩
section
variable (P : Program) (cfg : Cfg) (dr : Array Oper → (St → Prop) → St → Prop) (e : List (Nat × EV)) (L : List (Nat × List AV)) (H : List (List AV)) (Q : XE → St → Prop) (K : St → Prop)
def zdh (P : Program) (cfg : Cfg) (dr : Array Oper → (St → Prop) → St → Prop) (y : Code) (Q : XE → St → Prop) : XE → St → Prop := fun e s => match e with | .normal => Ex P cfg dr y Q s | e => Q e s
def zfd (id : Nat) (Q : XE → St → Prop) : XE → St → Prop := fun e s => match e with | .exit i => if i = id then Q .normal s else Q (.exit i) s | e => Q e s
variable (kn : Option (Nat × Bool))
theorem zq5 (ops : Array Oper) (d : Option Tmp) (o : Op) (ty : TypeId) (pos : String) (aft : Array Edge) (j : Nat) (b : Bool) (rest : List Oper) :
    zau P cfg ops (some (j, b)) ({ dst := d, op := o, type := ty, pos := pos, after := aft, guard := none } :: rest) K ⟨e, L, H⟩ =
      opX P cfg { dst := d, op := o, type := ty, pos := pos, after := aft, guard := none } (zau P cfg ops (if ((ops[j]?).bind (·.dst)) == d then none else some (j, b)) rest K) ⟨e, L, H⟩ := rfl
def zin (P : Program) (cfg : Cfg) (ops : Array Oper) (o : Oper) (j : Nat) (want : Bool) (t : Nat) (kn : Option (Nat × Bool)) (rest : List Oper) (K : St → Prop) (st : St) : Option Bool → Prop
  | none => if (st.ev (.tmp t)).isU then zau P cfg ops (if kn.any (fun p => ((ops[p.1]?).bind (·.dst)) == o.dst) then none else kn) rest K (st.put o.dst (.val (.tup []))) else False
  | some b =>
    (b = want → opX P cfg o (zau P cfg ops (some (j, want)) rest K) ⟨upd t (.val (.bool want)) st.env, st.L, st.H⟩) ∧
    (b = !want → zau P cfg ops (some (j, !want)) rest K (St.put ⟨upd t (.val (.bool (!want))) st.env, st.L, st.H⟩ o.dst (.val (.tup []))))
def zx5 (P : Program) (cfg : Cfg) (ops : Array Oper) (o : Oper) (j : Nat) (want : Bool) (kn : Option (Nat × Bool)) (rest : List Oper) (K : St → Prop) (st : St) : Option Nat → Prop
  | none => False
  | some t =>
    if o.dst = some t then False else
    if kn = some (j, want) then opX P cfg o (zau P cfg ops kn rest K) st else
    if kn = some (j, !want) then zau P cfg ops kn rest K (st.put o.dst (.val (.tup []))) else
    zin P cfg ops o j want t kn rest K st ((st.ev (.tmp t)).asB)
theorem zeu (ops : Array Oper) (d : Option Tmp) (o : Op) (ty : TypeId) (pos : String) (aft : Array Edge) (j : Nat) (want : Bool) (rest : List Oper) :
    zau P cfg ops kn ({ dst := d, op := o, type := ty, pos := pos, after := aft, guard := some (j, want) } :: rest) K ⟨e, L, H⟩ =
      zx5 P cfg ops { dst := d, op := o, type := ty, pos := pos, after := aft, guard := some (j, want) } j want kn rest K ⟨e, L, H⟩ ((ops[j]?).bind (·.dst)) := by
  simp only [zau, zx5, zin]
  cases (ops[j]?).bind (·.dst) with
  | none => rfl
  | some t => cases (St.ev ⟨e, L, H⟩ (.tmp t)).asB <;> rfl
theorem skip_some (ops : Array Oper) (o : Oper) (j : Nat) (want : Bool) (rest : List Oper) (t : Nat) :
    zx5 P cfg ops o j want kn rest K ⟨e, L, H⟩ (some t) = (if o.dst = some t then False else
    if kn = some (j, want) then opX P cfg o (zau P cfg ops kn rest K) ⟨e, L, H⟩ else
    if kn = some (j, !want) then zau P cfg ops kn rest K (St.put ⟨e, L, H⟩ o.dst (.val (.tup []))) else
    zin P cfg ops o j want t kn rest K ⟨e, L, H⟩ ((St.ev ⟨e, L, H⟩ (.tmp t)).asB)) := rfl
theorem zwr (f : Nat) : St.ev ⟨e, L, H⟩ (.func f) = .val (.func f [] []) := rfl
variable (d : Option Tmp) (ty : TypeId) (pos : String) (aft : Array Edge) (gd : Option (Nat × Bool))
def zdb (p : Option (Prop × EV)) (st : St) (d : Option Tmp) (K : St → Prop) : Prop :=
  match p with
  | some (c, v) => c ∧ K (st.put d v)
  | none => False
theorem zdf (v : EV) : St.app ⟨e, L, H⟩ d ⟨some v, none, H⟩ = St.put ⟨e, L, H⟩ d v := by cases d <;> rfl
theorem zxn (x : Operand) : opX P cfg ⟨d, .move x, ty, pos, aft, gd⟩ K ⟨e, L, H⟩ = K (St.put ⟨e, L, H⟩ d (St.ev ⟨e, L, H⟩ x)) := by
  simp [opX, opE, zas, zdf]
theorem zq3 (x : Operand) : opX P cfg ⟨d, .assign x, ty, pos, aft, gd⟩ K ⟨e, L, H⟩ = K (St.put ⟨e, L, H⟩ d (St.ev ⟨e, L, H⟩ x)) := by
  simp [opX, opE, zas, zdf]
theorem zxo (c x y : Operand) : opX P cfg ⟨d, .pick c x y, ty, pos, aft, gd⟩ K ⟨e, L, H⟩ =
    zdb (((St.ev ⟨e, L, H⟩ c).asB).map fun b0 => (True, if b0 then St.ev ⟨e, L, H⟩ x else St.ev ⟨e, L, H⟩ y)) ⟨e, L, H⟩ d K := by
  simp only [opX, opE, zas, zdb, zdf]; rfl
theorem zq4 (op : BinOp) (t t' : TypeId) (x y : Operand) : opX P cfg ⟨d, .binOp op t x y t', ty, pos, aft, gd⟩ K ⟨e, L, H⟩ =
    zdb (match zou P op t (St.ev ⟨e, L, H⟩ x) (St.ev ⟨e, L, H⟩ y) with
      | some (c, v) => some (c, .val v)
      | none => (zxz P H op t (St.ev ⟨e, L, H⟩ x) (St.ev ⟨e, L, H⟩ y)).map fun v => (True, .val v)) ⟨e, L, H⟩ d K := by
  simp only [opX, opE, zas, zdb, zdf]; rfl
theorem z4b (op : UnOp) (t : TypeId) (x : Operand) : opX P cfg ⟨d, .unOp op t x, ty, pos, aft, gd⟩ K ⟨e, L, H⟩ =
    zdb ((unV op (St.ev ⟨e, L, H⟩ x)).map fun (c, v) => (c, .val v)) ⟨e, L, H⟩ d K := by
  simp only [opX, opE, zas, zdb, zdf]; rfl
def isPure : Op → Bool
  | .load .. | .nilCheck _ | .convert .. | .fieldAddr .. | .field .. | .indexAddr .. | .extract .. | .build .. | .makeFunc .. | .slice .. | .index .. => true
  | .call { callee := .builtin .len, .. } | .call { callee := .builtin .min, .. } | .call { callee := .builtin .max, .. } => true
  | _ => false
theorem zbu (o : Op) (h : isPure o = true) : opX P cfg ⟨d, o, ty, pos, aft, gd⟩ K ⟨e, L, H⟩ = zdb (zas P (St.ev ⟨e, L, H⟩) (lk L) H o) ⟨e, L, H⟩ d K := by
  simp only [opX, opE]
  split <;> first | (simp [isPure] at h; done) | (simp only [zdb, zdf]; rfl)
theorem zi3 (dd : Nat) (v : EV) (H' : List (List AV)) : St.app ⟨e, L, H⟩ (some dd) ⟨some v, none, H'⟩ = ⟨(dd, v) :: e, L, H'⟩ := rfl
end
end Go.Sx
set_option linter.unusedVariables false
namespace Go.Sx
class TyI (P : Program) (t : TypeId) (sz : outParam Nat) (agg : outParam Bool) : Prop where
  sz : tsz P t = some sz
  kind : zlq P t = some agg
class FldI (P : Program) (t : TypeId) (i : Nat) (off : outParam Nat) (ft : outParam TypeId) : Prop where
  h : zfw P t i = some (off, ft)
  pos : (tsz P ft).any (0 < ·) = true
class SlI (P : Program) (t : TypeId) (el : outParam TypeId) (z : outParam Nat) : Prop where
  h : zen P t = some el
  z : tsz P el = some z
class ZI (P : Program) (t : TypeId) (cs : outParam (List AV)) : Prop where
  h : (zh4 P t).bind AV.cells = some cs
class PtI (P : Program) (t : TypeId) : Prop where
  h : zre P t = true
class EI (P : Program) (t : TypeId) (s by_ : outParam Nat) (zc : outParam (List AV)) : Prop where
  h : zic P t = some (s, by_, zc)
section
variable {P : Program} {cfg : Cfg} {dr : Array Oper → (St → Prop) → St → Prop} {e : List (Nat × EV)} {L : List (Nat × List AV)} {H : List (List AV)} {Q : XE → St → Prop} {K : St → Prop}
variable {kn : Option (Nat × Bool)} {ops : Array Oper} {d : Option Tmp} {o : Op} {ty : TypeId} {pos : String} {aft : Array Edge} {rest : List Oper} {j : Nat} {b want : Bool} {gd : Option (Nat × Bool)} {dd : Nat}
theorem za0 {x y : Code} (h : Ex P cfg dr x (zdh P cfg dr y Q) ⟨e, L, H⟩) : Ex P cfg dr (.seq x y) Q ⟨e, L, H⟩ := h
theorem zai {id : Nat} {c : Code} (h : Ex P cfg dr c (zfd id Q) ⟨e, L, H⟩) : Ex P cfg dr (.block id c) Q ⟨e, L, H⟩ := h
theorem zaq (h : Q .normal ⟨e, L, H⟩) : Ex P cfg dr .skip Q ⟨e, L, H⟩ := h
theorem zaz (h : Q .ret ⟨e, L, H⟩) : Ex P cfg dr .ret Q ⟨e, L, H⟩ := h
theorem b_exit {i : Nat} (h : Q (.exit i) ⟨e, L, H⟩) : Ex P cfg dr (.exit i) Q ⟨e, L, H⟩ := h
theorem zab {id : Nat} {ops : List Oper} (h : zau P cfg ops.toArray none ops (Q .normal) ⟨e, L, H⟩) : Ex P cfg dr (.region id ops.toArray false) Q ⟨e, L, H⟩ := h
theorem za2 {y : Code} (h : Ex P cfg dr y Q ⟨e, L, H⟩) : zdh P cfg dr y Q .normal ⟨e, L, H⟩ := h
theorem za3 {y : Code} (h : Q .ret ⟨e, L, H⟩) : zdh P cfg dr y Q .ret ⟨e, L, H⟩ := h
theorem za1 {y : Code} {i : Nat} (h : Q (.exit i) ⟨e, L, H⟩) : zdh P cfg dr y Q (.exit i) ⟨e, L, H⟩ := h
theorem zbz {i : Nat} (h : Q .normal ⟨e, L, H⟩) : zfd i Q .normal ⟨e, L, H⟩ := h
theorem zb0 {i : Nat} (h : Q .ret ⟨e, L, H⟩) : zfd i Q .ret ⟨e, L, H⟩ := h
theorem zby {i : Nat} (h : Q .normal ⟨e, L, H⟩) : zfd i Q (.exit i) ⟨e, L, H⟩ := by simp [zfd]; exact h
theorem z2h {i k : Nat} (hik : (k == i) = false) (h : Q (.exit k) ⟨e, L, H⟩) : zfd i Q (.exit k) ⟨e, L, H⟩ := by
  have : k ≠ i := by simpa using hik
  simp [zfd, this]; exact h
def zdg (P : Program) (cfg : Cfg) (dr : Array Oper → (St → Prop) → St → Prop) (x y : Code) (Q : XE → St → Prop) (st : St) (v : EV) : Prop :=
  match v.asB with
  | some b => (b = true → Ex P cfg dr x Q st) ∧ (b = false → Ex P cfg dr y Q st)
  | none => False
theorem b_cond {c : Operand} {x y : Code} {v : EV} (hv : St.ev ⟨e, L, H⟩ c = v) (h : zdg P cfg dr x y Q ⟨e, L, H⟩ v) : Ex P cfg dr (.cond c x y) Q ⟨e, L, H⟩ := by subst hv; exact h
theorem c_T {x y : Code} (h : Ex P cfg dr x Q ⟨e, L, H⟩) : zdg P cfg dr x y Q ⟨e, L, H⟩ (.val (.bool true)) := ⟨fun _ => h, (fun h => Bool.noConfusion h)⟩
theorem c_F {x y : Code} (h : Ex P cfg dr y Q ⟨e, L, H⟩) : zdg P cfg dr x y Q ⟨e, L, H⟩ (.val (.bool false)) := ⟨(fun h => Bool.noConfusion h), fun _ => h⟩
theorem c_P {x y : Code} {p : Prop} [Decidable p] (h1 : p → Ex P cfg dr x Q ⟨e, L, H⟩) (h2 : ¬ p → Ex P cfg dr y Q ⟨e, L, H⟩) : zdg P cfg dr x y Q ⟨e, L, H⟩ (.val (.bool (decide p))) :=
  ⟨fun h => h1 (of_decide_eq_true h), fun h => h2 (of_decide_eq_false h)⟩
theorem c_B {x y : Code} {b : Bool} (h1 : b = true → Ex P cfg dr x Q ⟨e, L, H⟩) (h2 : b = false → Ex P cfg dr y Q ⟨e, L, H⟩) : zdg P cfg dr x y Q ⟨e, L, H⟩ (.val (.bool b)) := ⟨h1, h2⟩
theorem zay (h : K ⟨e, L, H⟩) : zau P cfg ops kn [] K ⟨e, L, H⟩ := h
theorem zcm (h : opX P cfg ⟨d, o, ty, pos, aft, none⟩ (zau P cfg ops none rest K) ⟨e, L, H⟩) : zau P cfg ops none (⟨d, o, ty, pos, aft, none⟩ :: rest) K ⟨e, L, H⟩ := h
theorem z5e (hj : (((ops[j]?).bind (·.dst)) == d) = false) (h : opX P cfg ⟨d, o, ty, pos, aft, none⟩ (zau P cfg ops (some (j, b)) rest K) ⟨e, L, H⟩) :
    zau P cfg ops (some (j, b)) (⟨d, o, ty, pos, aft, none⟩ :: rest) K ⟨e, L, H⟩ := by
  rw [zq5, hj]; exact h
theorem upd_same {t : Nat} {v : EV} : ∀ {e : List (Nat × EV)}, lk e t = some v → upd t v e = e
  | [], h => by simp [lk] at h
  | (k, x) :: r, h => by
    simp only [lk] at h
    simp only [upd]
    split
    · rename_i hk; simp only [hk, if_true, Option.some.injEq] at h; rw [h]
    · rename_i hk; simp only [hk, if_false] at h; rw [upd_same h]
theorem zjc {t : Nat} {b : Bool} (h : St.ev ⟨e, L, H⟩ (.tmp t) = .val (.bool b)) : lk e t = some (.val (.bool b)) := by
  simp only [St.ev] at h
  cases hl : lk e t with
  | none => simp [hl] at h
  | some x => simp [hl] at h; rw [h]
def zbf (P : Program) (cfg : Cfg) (ops : Array Oper) (o : Oper) (j : Nat) (want : Bool) (t : Nat) (rest : List Oper) (K : St → Prop) (st : St) (v : EV) : Prop :=
  St.ev st (.tmp t) = v →
  match v.asB with
  | none => False
  | some b =>
    (b = want → opX P cfg o (zau P cfg ops (some (j, want)) rest K) ⟨upd t (.val (.bool want)) st.env, st.L, st.H⟩) ∧
    (b = !want → zau P cfg ops (some (j, !want)) rest K (St.put ⟨upd t (.val (.bool (!want))) st.env, st.L, st.H⟩ o.dst (.val (.tup []))))
theorem z5j {t : Nat} (ht : (ops[j]?).bind (·.dst) = some t) (hd : (d == some t) = false) (h : opX P cfg ⟨d, o, ty, pos, aft, some (j, want)⟩ (zau P cfg ops (some (j, want)) rest K) ⟨e, L, H⟩) :
    zau P cfg ops (some (j, want)) (⟨d, o, ty, pos, aft, some (j, want)⟩ :: rest) K ⟨e, L, H⟩ := by
  have hd' : d ≠ some t := by simpa using hd
  rw [zeu, ht, skip_some]
  simp only [hd', if_false, if_true]; exact h
theorem z5i {t : Nat} (ht : (ops[j]?).bind (·.dst) = some t) (hd : (dd == t) = false) (hb : b = !want) (h : zau P cfg ops (some (j, b)) rest K ⟨(dd, .val (.tup [])) :: e, L, H⟩) :
    zau P cfg ops (some (j, b)) (⟨some dd, o, ty, pos, aft, some (j, want)⟩ :: rest) K ⟨e, L, H⟩ := by
  have hd' : dd ≠ t := by simpa using hd
  subst hb
  rw [zeu, ht, skip_some]
  have h2 : ¬ (!want) = want := by cases want <;> simp
  simp only [Option.some.injEq, Prod.mk.injEq, hd', h2, and_false, if_false, if_true]; exact h
theorem zm5 {t : Nat} {kn' : Option (Nat × Bool)} (h : zbf P cfg ops ⟨d, o, ty, pos, aft, gd⟩ j want t rest K ⟨e, L, H⟩ (St.ev ⟨e, L, H⟩ (.tmp t))) : zin P cfg ops ⟨d, o, ty, pos, aft, gd⟩ j want t kn' rest K ⟨e, L, H⟩ ((St.ev ⟨e, L, H⟩ (.tmp t)).asB) := by
  have h' := h rfl
  unfold zin
  cases hb : (St.ev ⟨e, L, H⟩ (.tmp t)).asB with
  | none => rw [hb] at h'; exact h'.elim
  | some b => rw [hb] at h'; exact h'
theorem z5g {t : Nat} {v : EV} (ht : (ops[j]?).bind (·.dst) = some t) (hd : (d == some t) = false) (hv : St.ev ⟨e, L, H⟩ (.tmp t) = v)
    (h : zbf P cfg ops ⟨d, o, ty, pos, aft, some (j, want)⟩ j want t rest K ⟨e, L, H⟩ v) :
    zau P cfg ops none (⟨d, o, ty, pos, aft, some (j, want)⟩ :: rest) K ⟨e, L, H⟩ := by
  have hd' : d ≠ some t := by simpa using hd
  subst hv
  rw [zeu, ht, skip_some]
  simp only [hd', if_false, reduceCtorEq]
  exact zm5 h
theorem z5h {t j' : Nat} {b' : Bool} {v : EV} (ht : (ops[j]?).bind (·.dst) = some t) (hd : (d == some t) = false) (hj : (j' == j) = false) (hv : St.ev ⟨e, L, H⟩ (.tmp t) = v)
    (h : zbf P cfg ops ⟨d, o, ty, pos, aft, some (j, want)⟩ j want t rest K ⟨e, L, H⟩ v) :
    zau P cfg ops (some (j', b')) (⟨d, o, ty, pos, aft, some (j, want)⟩ :: rest) K ⟨e, L, H⟩ := by
  have hd' : d ≠ some t := by simpa using hd
  have hj' : j' ≠ j := by simpa using hj
  subst hv
  rw [zeu, ht, skip_some]
  simp only [hd', if_false, Option.some.injEq, Prod.mk.injEq, hj', false_and]
  exact zm5 h
theorem z5k {t : Nat} (ht : (ops[j]?).bind (·.dst) = some t) (hd : (dd == t) = false) (hk : kn ≠ some (j, want) ∧ kn ≠ some (j, !want)) (hv : St.ev ⟨e, L, H⟩ (.tmp t) = .val (.tup [])) (hn : kn.any (fun p => ((ops[p.1]?).bind (·.dst)) == some dd) = false)
    (h : zau P cfg ops kn rest K ⟨(dd, .val (.tup [])) :: e, L, H⟩) : zau P cfg ops kn (⟨some dd, o, ty, pos, aft, some (j, want)⟩ :: rest) K ⟨e, L, H⟩ := by
  have hd' : dd ≠ t := by simpa using hd
  rw [zeu, ht, skip_some]
  simp only [Option.some.injEq, hd', if_false, hk.1, hk.2, hv, EV.asB, zin, EV.isU, if_true, hn, Bool.false_eq_true]
  exact h
theorem zci {t : Nat} (h : opX P cfg ⟨d, o, ty, pos, aft, gd⟩ (zau P cfg ops (some (j, true)) rest K) ⟨e, L, H⟩) : zbf P cfg ops ⟨d, o, ty, pos, aft, gd⟩ j true t rest K ⟨e, L, H⟩ (.val (.bool true)) :=
  fun hv => ⟨fun _ => by rw [upd_same (zjc hv)]; exact h, (fun h => Bool.noConfusion h)⟩
theorem zcd {t : Nat} (h : opX P cfg ⟨d, o, ty, pos, aft, gd⟩ (zau P cfg ops (some (j, false)) rest K) ⟨e, L, H⟩) : zbf P cfg ops ⟨d, o, ty, pos, aft, gd⟩ j false t rest K ⟨e, L, H⟩ (.val (.bool false)) :=
  fun hv => ⟨fun _ => by rw [upd_same (zjc hv)]; exact h, (fun h => Bool.noConfusion h)⟩
theorem zch {t : Nat} (h : zau P cfg ops (some (j, true)) rest K ⟨(dd, .val (.tup [])) :: e, L, H⟩) : zbf P cfg ops ⟨some dd, o, ty, pos, aft, gd⟩ j false t rest K ⟨e, L, H⟩ (.val (.bool true)) :=
  fun hv => ⟨(fun h => Bool.noConfusion h), fun _ => by simp only [Bool.not_false]; rw [upd_same (zjc hv)]; exact h⟩
theorem zce {t : Nat} (h : zau P cfg ops (some (j, false)) rest K ⟨(dd, .val (.tup [])) :: e, L, H⟩) : zbf P cfg ops ⟨some dd, o, ty, pos, aft, gd⟩ j true t rest K ⟨e, L, H⟩ (.val (.bool false)) :=
  fun hv => ⟨(fun h => Bool.noConfusion h), fun _ => by simp only [Bool.not_true]; rw [upd_same (zjc hv)]; exact h⟩
theorem zcg {t : Nat} {p : Prop} [Decidable p] (h1 : p → opX P cfg ⟨some dd, o, ty, pos, aft, gd⟩ (zau P cfg ops (some (j, true)) rest K) ⟨upd t (.val (.bool true)) e, L, H⟩)
    (h2 : ¬ p → zau P cfg ops (some (j, false)) rest K ⟨(dd, .val (.tup [])) :: upd t (.val (.bool false)) e, L, H⟩) :
    zbf P cfg ops ⟨some dd, o, ty, pos, aft, gd⟩ j true t rest K ⟨e, L, H⟩ (.val (.bool (decide p))) :=
  fun _ => ⟨fun h => h1 (of_decide_eq_true h), fun h => h2 (of_decide_eq_false h)⟩
theorem zcf {t : Nat} {p : Prop} [Decidable p] (h1 : ¬ p → opX P cfg ⟨some dd, o, ty, pos, aft, gd⟩ (zau P cfg ops (some (j, false)) rest K) ⟨upd t (.val (.bool false)) e, L, H⟩)
    (h2 : p → zau P cfg ops (some (j, true)) rest K ⟨(dd, .val (.tup [])) :: upd t (.val (.bool true)) e, L, H⟩) :
    zbf P cfg ops ⟨some dd, o, ty, pos, aft, gd⟩ j false t rest K ⟨e, L, H⟩ (.val (.bool (decide p))) :=
  fun _ => ⟨fun h => h1 (of_decide_eq_false h), fun h => h2 (of_decide_eq_true h)⟩
theorem zcc {t : Nat} {b : Bool} (h1 : b = true → opX P cfg ⟨some dd, o, ty, pos, aft, gd⟩ (zau P cfg ops (some (j, true)) rest K) ⟨upd t (.val (.bool true)) e, L, H⟩)
    (h2 : b = false → zau P cfg ops (some (j, false)) rest K ⟨(dd, .val (.tup [])) :: upd t (.val (.bool false)) e, L, H⟩) :
    zbf P cfg ops ⟨some dd, o, ty, pos, aft, gd⟩ j true t rest K ⟨e, L, H⟩ (.val (.bool b)) := fun _ => ⟨h1, h2⟩
theorem zcb {t : Nat} {b : Bool} (h1 : b = false → opX P cfg ⟨some dd, o, ty, pos, aft, gd⟩ (zau P cfg ops (some (j, false)) rest K) ⟨upd t (.val (.bool false)) e, L, H⟩)
    (h2 : b = true → zau P cfg ops (some (j, true)) rest K ⟨(dd, .val (.tup [])) :: upd t (.val (.bool true)) e, L, H⟩) :
    zbf P cfg ops ⟨some dd, o, ty, pos, aft, gd⟩ j false t rest K ⟨e, L, H⟩ (.val (.bool b)) := fun _ => ⟨h1, h2⟩
theorem zpe {x : Operand} {v : EV} (hv : St.ev ⟨e, L, H⟩ x = v) (h : K ⟨(dd, v) :: e, L, H⟩) : opX P cfg ⟨some dd, .move x, ty, pos, aft, gd⟩ K ⟨e, L, H⟩ := by
  subst hv; rw [zxn]; exact h
theorem zg0 {x : Operand} {v : EV} (hv : St.ev ⟨e, L, H⟩ x = v) (h : K ⟨(dd, v) :: e, L, H⟩) : opX P cfg ⟨some dd, .assign x, ty, pos, aft, gd⟩ K ⟨e, L, H⟩ := by
  subst hv; rw [zq3]; exact h
def zcq (dd : Nat) (K : St → Prop) (st : St) (r : Option (Prop × AV)) : Prop :=
  match r with
  | some (c, v) => c ∧ K ⟨(dd, .val v) :: st.env, st.L, st.H⟩
  | none => False
theorem zy2 {op : BinOp} {t t' : TypeId} {x y : Operand} {vx vy : EV} (hx : St.ev ⟨e, L, H⟩ x = vx) (hy : St.ev ⟨e, L, H⟩ y = vy) {r : Option (Prop × AV)} (hr : zou P op t vx vy = r) (h : zcq dd K ⟨e, L, H⟩ r) :
    opX P cfg ⟨some dd, .binOp op t x y t', ty, pos, aft, gd⟩ K ⟨e, L, H⟩ := by
  subst hr hx hy; rw [zq4]
  cases hb : zou P op t (St.ev ⟨e, L, H⟩ x) (St.ev ⟨e, L, H⟩ y) with
  | none => rw [hb] at h; exact h.elim
  | some p => obtain ⟨c, v⟩ := p; rw [hb] at h; exact h
theorem z2o {t t' : TypeId} [pt : PtI P t] {x y : Operand} {s s' : AV} {a a' : Nat} (hx : St.ev ⟨e, L, H⟩ x = .val (.eptr s a)) (hy : St.ev ⟨e, L, H⟩ y = .val (.eptr s' a')) {r : Bool} (hr : ptrEq H s a s' a' = some r) (h : K ⟨(dd, .val (.bool r)) :: e, L, H⟩) :
    opX P cfg ⟨some dd, .binOp .eql t x y t', ty, pos, aft, gd⟩ K ⟨e, L, H⟩ := by
  rw [zq4, hx, hy]
  have : zou P .eql t (.val (.eptr s a)) (.val (.eptr s' a')) = none := by simp [zou, AV.asF, z0s, zok]
  rw [this]
  simp only [zxz, pt.h, if_true, hr, Option.map_some, zdb]
  exact ⟨trivial, h⟩
theorem z5l {op : UnOp} {t : TypeId} {x : Operand} {vx : EV} (hx : St.ev ⟨e, L, H⟩ x = vx) {r : Option (Prop × AV)} (hr : unV op vx = r) (h : zcq dd K ⟨e, L, H⟩ r) :
    opX P cfg ⟨some dd, .unOp op t x, ty, pos, aft, gd⟩ K ⟨e, L, H⟩ := by
  subst hr hx; rw [z4b]
  cases hb : unV op (St.ev ⟨e, L, H⟩ x) with
  | none => rw [hb] at h; exact h
  | some p => obtain ⟨c, v⟩ := p; rw [hb] at h; exact h
theorem v_w {n : Int} (hw : -9223372036854775808 ≤ n ∧ n ≤ 9223372036854775807) (h : K ⟨(dd, .val (.int .i64 n)) :: e, L, H⟩) : zcq dd K ⟨e, L, H⟩ (some (True, .int .i64 (IntKind.i64.wrap n))) := by
  rw [IntWalk.i64_in n hw]; exact ⟨trivial, h⟩
theorem v_T {p : Prop} [Decidable p] (hp : p) (h : K ⟨(dd, .val (.bool true)) :: e, L, H⟩) : zcq dd K ⟨e, L, H⟩ (some (True, .bool (decide p))) := by
  rw [decide_eq_true hp]; exact ⟨trivial, h⟩
theorem v_F {p : Prop} [Decidable p] (hp : ¬ p) (h : K ⟨(dd, .val (.bool false)) :: e, L, H⟩) : zcq dd K ⟨e, L, H⟩ (some (True, .bool (decide p))) := by
  rw [decide_eq_false hp]; exact ⟨trivial, h⟩
theorem zdk (h : K ⟨(dd, .val (.bool false)) :: e, L, H⟩) : zcq dd K ⟨e, L, H⟩ (some (True, .bool (!true))) := ⟨trivial, h⟩
theorem zdi (h : K ⟨(dd, .val (.bool true)) :: e, L, H⟩) : zcq dd K ⟨e, L, H⟩ (some (True, .bool (!false))) := ⟨trivial, h⟩
theorem zdj {p : Prop} [Decidable p] (h : K ⟨(dd, .val (.bool (decide (¬ p)))) :: e, L, H⟩) : zcq dd K ⟨e, L, H⟩ (some (True, .bool (!(decide p)))) := by
  rw [← decide_not]; exact ⟨trivial, h⟩
theorem v_k {v : AV} (h : K ⟨(dd, .val v) :: e, L, H⟩) : zcq dd K ⟨e, L, H⟩ (some (True, v)) := ⟨trivial, h⟩
theorem v_c {c : Prop} {v : AV} (hc : c) (h : zcq dd K ⟨e, L, H⟩ (some (True, v))) : zcq dd K ⟨e, L, H⟩ (some (c, v)) := ⟨hc, h.2⟩
def zda (dd : Nat) (K : St → Prop) (y z : Operand) (st : St) (v : EV) : Prop :=
  match v.asB with
  | some b => K ⟨(dd, if b then St.ev st y else St.ev st z) :: st.env, st.L, st.H⟩
  | none => False
theorem zzc {x y z : Operand} {v : EV} (hv : St.ev ⟨e, L, H⟩ x = v) (h : zda dd K y z ⟨e, L, H⟩ v) : opX P cfg ⟨some dd, .pick x y z, ty, pos, aft, gd⟩ K ⟨e, L, H⟩ := by
  subst hv
  rw [zxo]
  unfold zda at h
  cases hb : (St.ev ⟨e, L, H⟩ x).asB with
  | none => rw [hb] at h; exact h
  | some b => rw [hb] at h; exact ⟨trivial, h⟩
theorem p_T {y z : Operand} {v : EV} (hv : St.ev ⟨e, L, H⟩ y = v) (h : K ⟨(dd, v) :: e, L, H⟩) : zda dd K y z ⟨e, L, H⟩ (.val (.bool true)) := by subst hv; exact h
theorem p_F {y z : Operand} {v : EV} (hv : St.ev ⟨e, L, H⟩ z = v) (h : K ⟨(dd, v) :: e, L, H⟩) : zda dd K y z ⟨e, L, H⟩ (.val (.bool false)) := by subst hv; exact h
def zbo (P : Program) (t : TypeId) (dd : Nat) (K : St → Prop) (st : St) (v : EV) : Prop :=
  match v with
  | .loc key off => ∃ cs n l v', lk st.L key = some cs ∧ tsz P t = some n ∧ gc cs off n = some l ∧ ldv P t l = some v' ∧ K ⟨(dd, .val v') :: st.env, st.L, st.H⟩
  | .val (.eptr s off) => ∃ n l v', tsz P t = some n ∧ zbx st.H s off n = some l ∧ ldv P t l = some v' ∧ K ⟨(dd, .val v') :: st.env, st.L, st.H⟩
  | _ => False
theorem zy9 {t : TypeId} {x : Operand} {v : EV} (hv : St.ev ⟨e, L, H⟩ x = v) (h : zbo P t dd K ⟨e, L, H⟩ v) : opX P cfg ⟨some dd, .load t x, ty, pos, aft, gd⟩ K ⟨e, L, H⟩ := by
  subst hv
  rw [zbu P cfg e L H K _ _ _ _ _ _ rfl]
  simp only [zas]
  unfold zbo at h
  split at h
  · rename_i key off he
    obtain ⟨cs, n, l, v', h1, h2, h3, h4, hk⟩ := h
    rw [he]; simp only at h1 ⊢
    rw [h1, h2]; simp only [Option.bind_some, h3, h4, Option.map_some]
    exact ⟨trivial, hk⟩
  · rename_i s off he
    obtain ⟨n, l, v', h2, h3, h4, hk⟩ := h
    rw [he]; simp only at h3 ⊢
    rw [h2]; simp only [Option.bind_some, h3, h4, Option.map_some]
    exact ⟨trivial, hk⟩
  · exact h.elim
theorem z0f {t : TypeId} {key off : Nat} {cs : List AV} {c : AV} [i : TyI P t 1 false] (h1 : lk L key = some cs) (h2 : cs[off]? = some c) (hk : K ⟨(dd, .val c) :: e, L, H⟩) : zbo P t dd K ⟨e, L, H⟩ (.loc key off) :=
  ⟨cs, 1, [c], c, h1, i.sz, by simp [gc, h2], by simp [ldv, i.kind], hk⟩
theorem z0g {t : TypeId} {key off n : Nat} {cs l : List AV} [i : TyI P t n true] (h1 : lk L key = some cs) (h2 : gc cs off n = some l) (hk : K ⟨(dd, .val (.agg l)) :: e, L, H⟩) : zbo P t dd K ⟨e, L, H⟩ (.loc key off) :=
  ⟨cs, n, l, .agg l, h1, i.sz, h2, by simp [ldv, i.kind], hk⟩
theorem zkw {t : TypeId} {s : AV} {off : Nat} {c : AV} [i : TyI P t 1 false] (h2 : zbx H s off 1 = some [c]) (hk : K ⟨(dd, .val c) :: e, L, H⟩) : zbo P t dd K ⟨e, L, H⟩ (.val (.eptr s off)) :=
  ⟨1, [c], c, i.sz, h2, by simp [ldv, i.kind], hk⟩
theorem zqo {t : TypeId} {s : AV} {off n : Nat} {l : List AV} [i : TyI P t n true] (h2 : zbx H s off n = some l) (hk : K ⟨(dd, .val (.agg l)) :: e, L, H⟩) : zbo P t dd K ⟨e, L, H⟩ (.val (.eptr s off)) :=
  ⟨n, l, .agg l, i.sz, h2, by simp [ldv, i.kind], hk⟩
def faK (dd : Nat) (K : St → Prop) (o : Nat) (st : St) (v : EV) : Prop :=
  match v with
  | .loc key off => K ⟨(dd, .loc key (off + o)) :: st.env, st.L, st.H⟩
  | .val (.eptr s off) => K ⟨(dd, .val (.eptr s (off + o))) :: st.env, st.L, st.H⟩
  | _ => False
theorem z5f {t : TypeId} {x : Operand} {i off : Nat} {ft : TypeId} [fi : FldI P t i off ft] {v : EV} (hv : St.ev ⟨e, L, H⟩ x = v) (h : faK dd K off ⟨e, L, H⟩ v) : opX P cfg ⟨some dd, .fieldAddr t x i, ty, pos, aft, gd⟩ K ⟨e, L, H⟩ := by
  subst hv
  rw [zbu P cfg e L H K _ _ _ _ _ _ rfl]
  simp only [zas, fi.h, Option.bind_some, fi.pos, if_true]
  unfold faK at h
  split at h
  · rename_i key off he; rw [he]; exact ⟨trivial, h⟩
  · rename_i s off he; rw [he]; exact ⟨trivial, h⟩
  · exact h.elim
theorem z3g {key off o m : Nat} (hm : off + o = m) (h : K ⟨(dd, .loc key m) :: e, L, H⟩) : faK dd K o ⟨e, L, H⟩ (.loc key off) := by subst hm; exact h
theorem z3h {s : AV} {off o m : Nat} (hm : off + o = m) (h : K ⟨(dd, .val (.eptr s m)) :: e, L, H⟩) : faK dd K o ⟨e, L, H⟩ (.val (.eptr s off)) := by subst hm; exact h
theorem zpc {t el : TypeId} {x y : Operand} {z : Nat} [si : SlI P t el z] {s : AV} {k : IntKind} {n : Int} {len i : Nat} (hx : St.ev ⟨e, L, H⟩ x = .val s) (hy : St.ev ⟨e, L, H⟩ y = .val (.int k n)) (hl : slen s = some len) (hn : n = (i : Int)) (hi : i < len)
    (h : K ⟨(dd, .val (.eptr s (i * z))) :: e, L, H⟩) : opX P cfg ⟨some dd, .indexAddr t x y, ty, pos, aft, gd⟩ K ⟨e, L, H⟩ := by
  subst hn
  rw [zbu P cfg e L H K _ _ _ _ _ _ rfl]
  simp only [zas, si.h, hx, hy, zlp, hl, Option.bind_some, si.z, Option.map_some, Int.toNat_natCast]
  exact ⟨by omega, h⟩
theorem z2i {t : TypeId} {x : Operand} {vx : EV} (hx : St.ev ⟨e, L, H⟩ x = vx) {r : Option (List AV)} (hr : vx.asV.bind AV.cells = r) {cs : List AV} (hcs : r = some cs) (hesc : cfg.esc = false) (hn : zgy dd e = true)
    (h : K ⟨(dd, .loc dd 0) :: e, (dd, cs) :: L, H⟩) : opX P cfg ⟨some dd, .box t x, ty, pos, aft, gd⟩ K ⟨e, L, H⟩ := by
  subst hcs hx; simp only [opX, opE, hr, newX, hesc, Bool.false_eq_true, if_false]; exact ⟨.inl hn, h⟩
theorem zv7 {t : TypeId} {cs : List AV} [z : ZI P t cs] (hesc : cfg.esc = false) (hn : zgy dd e = true)
    (h : K ⟨(dd, .loc dd 0) :: e, (dd, cs) :: L, H⟩) : opX P cfg ⟨some dd, .alloc t, ty, pos, aft, gd⟩ K ⟨e, L, H⟩ := by
  simp only [opX, opE, z.h, newX, hesc, Bool.false_eq_true, if_false]; exact ⟨.inl hn, h⟩
theorem z2k {x : Operand} {ts : Array TypeId} {t : TypeId} {el z : Nat} [si : SlI P t el z] (hts : ts[0]? = some t) {s : AV} {n : Nat} (hx : St.ev ⟨e, L, H⟩ x = .val s) (hs : slen s = some n) (h : K ⟨(dd, .val (.int .i64 n)) :: e, L, H⟩) :
    opX P cfg ⟨some dd, .call { callee := .builtin .len, args := #[x], argTypes := ts }, ty, pos, aft, gd⟩ K ⟨e, L, H⟩ := by
  rw [zbu P cfg e L H K _ _ _ _ _ _ rfl]
  have hu := zj5 si.h
  simp only [zas, hts, Option.bind_some, hu, hx, EV.asV, hs, Option.map_some]
  exact ⟨trivial, h⟩
theorem b_call {id : Nat} {args : Array Operand} {ts : Array TypeId} {ra : Option (List AV)} (ha : zfc (St.ev ⟨e, L, H⟩) args.toList = ra) {vs : List AV} (hvs : ra = some vs) {r : AV} {H' : List (List AV)}
    (hs : zaa P id vs H r H') (ho : za7 cfg.n0 H H') (h : K ⟨(dd, .val r) :: e, L, H'⟩) :
    opX P cfg ⟨some dd, .call { callee := .value (.func id), args := args, argTypes := ts }, ty, pos, aft, gd⟩ K ⟨e, L, H⟩ := by
  subst hvs; simp only [opX, opE, zwr, ha]; exact ⟨r, H', by simpa using hs, ho, h⟩
end
end Go.Sx
set_option linter.unusedVariables false
set_option linter.unusedSimpArgs false
namespace Go.Sx
theorem zef {P : Program} {ρ ρ' : Operand → EV} {lL : Nat → Option (List AV)} {H : List (List AV)} (op : Op) (h : ∀ x ∈ op.operands.toList, ρ x = ρ' x) : zas P ρ lL H op = zas P ρ' lL H op := by
  cases op
  case move x => simp only [Op.operands] at h; simp only [zas, h x (by simp)]
  case assign x => simp only [Op.operands] at h; simp only [zas, h x (by simp)]
  case pick c a b => simp only [Op.operands] at h; simp only [zas, h c (by simp), h a (by simp), h b (by simp)]
  case load t x => simp only [Op.operands] at h; simp only [zas, h x (by simp)]
  case nilCheck x => simp only [Op.operands] at h; simp only [zas, h x (by simp)]
  case binOp op t x y t' => simp only [Op.operands] at h; simp only [zas, h x (by simp), h y (by simp)]
  case unOp op t x => simp only [Op.operands] at h; simp only [zas, h x (by simp)]
  case convert s t x => simp only [Op.operands] at h; simp only [zas, h x (by simp)]
  case fieldAddr t x i => simp only [Op.operands] at h; simp only [zas, h x (by simp)]
  case field t x i => simp only [Op.operands] at h; simp only [zas, h x (by simp)]
  case indexAddr t x i => simp only [Op.operands] at h; simp only [zas, h x (by simp), h i (by simp)]
  case slice t x lo hi mx =>
    simp only [Op.operands] at h
    have hx := h x (by simp)
    have hl : ∀ o, lo = some o → ρ o = ρ' o := fun o ho => h o (by simp [ho])
    have hh : ∀ o, hi = some o → ρ o = ρ' o := fun o ho => h o (by simp [ho])
    have h1 : ∀ d, zj9 ρ d lo = zj9 ρ' d lo := fun d => by cases lo with | none => rfl | some o => simp only [zj9, hl o rfl]
    have h2 : ∀ d, zj9 ρ d hi = zj9 ρ' d hi := fun d => by cases hi with | none => rfl | some o => simp only [zj9, hh o rfl]
    cases mx <;> simp only [zas, hx, h1, h2]
  case index t x i => simp only [Op.operands] at h; simp only [zas, h x (by simp), h i (by simp)]
  case extract x i => simp only [Op.operands] at h; simp only [zas, h x (by simp)]
  case build t ps =>
    simp only [Op.operands] at h
    simp only [zas, zhk]
    rw [List.map_congr_left (g := fun p : Nat × Operand => (p.1, (ρ' p.2).asV))]
    intro p hp
    simp only [h p.2 (by simp only [List.mem_map]; exact ⟨p, hp, rfl⟩)]
  case makeFunc f first caps =>
    cases f <;> simp only [zas]
    simp only [Op.operands] at h
    rw [List.map_congr_left (l := first.toList) (g := fun x => (ρ' x).asV) (fun x hx => by rw [h x (by simp; exact .inl (by simpa using hx))]),
      List.map_congr_left (l := caps.toList) (g := fun x => (ρ' x).asV) (fun x hx => by rw [h x (by simp; exact .inr (by simpa using hx))])]
  case call c =>
    obtain ⟨callee, args, ts⟩ := c
    cases callee with
    | value f => simp only [zas]
    | invoke r m => simp only [zas]
    | builtin b =>
      have ha : ∀ x ∈ args.toList, ρ x = ρ' x := fun x hx => h x (by simp [Op.operands, Call.operands]; simpa using hx)
      cases b <;> simp only [zas]
      case len =>
        split
        · rename_i he _; rw [ha _ (by rw [he]; simp)]
        · rename_i he _; rw [ha _ (by rw [he]; simp)]
        · rfl
      case min => rw [List.map_congr_left (g := fun x => (ρ' x).asI) (fun x hx => by rw [ha x hx])]
      case max => rw [List.map_congr_left (g := fun x => (ρ' x).asI) (fun x hx => by rw [ha x hx])]
  all_goals simp only [zas]
theorem zhh {ρ ρ' : Operand → EV} {xs : List Operand} (h : ∀ x ∈ xs, ρ x = ρ' x) : zfc ρ xs = zfc ρ' xs := by
  simp only [zfc]
  rw [List.map_congr_left (g := fun x => (ρ' x).asV) (fun x hx => by rw [h x hx])]
theorem zk0 {cfg : Cfg} {NL NL' : Nat → Prop} {H : List (List AV)} {dst : Option Tmp} {cs : List AV} {K K' : Eff → Prop} (hN : ∀ d, dst = some d → NL d → NL' d) (hK : ∀ e, K e → K' e) (hx : newX cfg NL H dst cs K) : newX cfg NL' H dst cs K' := by
  unfold newX at *
  cases dst with
  | none => exact hx
  | some d =>
    dsimp only at hx ⊢
    split at hx
    · rename_i he; simp only [he, if_true]; exact hK _ hx
    · rename_i he; simp only [he, if_false]; exact ⟨hN d rfl hx.1, hK _ hx.2⟩
theorem zmn {cfg : Cfg} {lL : Nat → Option (List AV)} {H : List (List AV)} {x : EV} {vs : List AV} {K K' : Eff → Prop} (hK : ∀ e, K e → K' e) (hx : zez cfg lL H x vs K) : zez cfg lL H x vs K' := by
  unfold zez at *
  split at hx
  · split at hx
    · rename_i h; (try rw [h]); exact ⟨hx.1, hK _ hx.2⟩
    · exact hx.elim
  · split at hx
    · rename_i h; (try rw [h]); exact ⟨hx.1, hx.2.1, hx.2.2.1, hK _ hx.2.2.2⟩
    · exact hx.elim
  · exact hx.elim
theorem zo7 {cfg : Cfg} {sz : Nat} {H : List (List AV)} {s : AV} {n : Nat} {xs : List AV} {K K' : Eff → Prop} (hK : ∀ e, K e → K' e) (hx : zj8 cfg sz H s n xs K) : zj8 cfg sz H s n xs K' := by
  unfold zj8 at *
  split at hx
  · exact ⟨hx.1, fun h => hK _ (hx.2.1 h), fun h => hK _ (hx.2.2 h)⟩
  · split at hx
    · rename_i h; (try rw [h]); obtain ⟨h1, h2, h3, h4, h5, h6, h7⟩ := hx; exact ⟨h1, h2, h3, h4, h5, h6, hK _ h7⟩
    · exact hx.elim
  · exact hx.elim
theorem zpq {cfg : Cfg} {sz : Nat} {H : List (List AV)} {s : AV} {n : Nat} {xs : List AV} {K K' : Eff → Prop} (hK : ∀ e, K e → K' e) (hx : zsf cfg sz H s n xs K) : zsf cfg sz H s n xs K' := by
  unfold zsf at *
  split at hx
  · split at hx
    · rename_i h; (try rw [h]); obtain ⟨h1, h2, h3, h4, h7⟩ := hx; exact ⟨h1, h2, h3, h4, hK _ h7⟩
    · exact hx.elim
  · exact hx.elim
theorem zg4 {P : Program} {cfg : Cfg} {ρ ρ' : Operand → EV} {NL NL' : Nat → Prop} {lL : Nat → Option (List AV)} {H : List (List AV)} {o : Oper} {K K' : Eff → Prop} (hr : ∀ x ∈ o.op.operands.toList, ρ x = ρ' x) (hN : ∀ d, o.dst = some d → NL d → NL' d)
    (hK : ∀ e, K e → K' e) (hx : opE P cfg ρ NL lL H o K) : opE P cfg ρ' NL' lL H o K' := by
  obtain ⟨dst, op, ty, pos, aft, gd⟩ := o
  dsimp only at hr hN
  have pure : ∀ op', op' = op → (match zas P ρ lL H op with | some (c, v) => c ∧ K ⟨some v, none, H⟩ | none => False) → (match zas P ρ' lL H op' with | some (c, v) => c ∧ K' ⟨some v, none, H⟩ | none => False) := by
    rintro op' rfl hh
    rw [← zef op' hr]
    split at hh
    · rename_i h; exact ⟨hh.1, hK _ hh.2⟩
    · exact hh.elim
  cases op
  case alloc t =>
    unfold opE at hx ⊢
    dsimp only at hx ⊢
    split at hx
    · rename_i h; (try rw [h]); exact zk0 hN hK hx
    · exact hx.elim
  case box t x =>
    unfold opE at hx ⊢
    dsimp only at hx ⊢
    rw [hr x (by simp [Op.operands])] at hx
    split at hx
    · rename_i h; (try rw [h]); exact zk0 hN hK hx
    · exact hx.elim
  case store t x v =>
    unfold opE at hx ⊢
    dsimp only at hx ⊢
    rw [hr x (by simp [Op.operands]), hr v (by simp [Op.operands])] at hx
    split at hx
    · rename_i h; (try rw [h]); exact ⟨hx.1, hx.2.1, zmn hK hx.2.2⟩
    · exact hx.elim
  case buildSlice t n ps =>
    unfold opE at hx ⊢
    dsimp only at hx ⊢
    have hm : ps.toList.map (fun p : Nat × Operand => (p.1, (ρ p.2).asV)) = ps.toList.map (fun p => (p.1, (ρ' p.2).asV)) :=
      List.map_congr_left (fun p hp => by rw [hr p.2 (by simp [Op.operands]; exact ⟨p.1, by simpa using hp⟩)])
    rw [hm] at hx
    split at hx
    · rename_i h; (try rw [h])
      (try dsimp only)
      split at hx
      · rename_i h; (try rw [h])
        (try dsimp only)
        refine ⟨hx.1, hx.2.1, hx.2.2.1, ?_⟩
        have := hx.2.2.2
        split at this
        · rename_i h; simp only [h, if_true]; exact hK _ this
        · rename_i h; simp only [h, if_false]; exact hK _ this
      · exact hx.elim
    · exact hx.elim
  case makeSlice t l c =>
    unfold opE at hx ⊢
    dsimp only at hx ⊢
    rw [hr l (by simp [Op.operands]), hr c (by simp [Op.operands])] at hx
    split at hx
    · rename_i h1 h2 h3; (try rw [h1, h2, h3])
      obtain ⟨h1, h2, h3, h4, h5, h6, h7⟩ := hx
      exact ⟨h1, h2, h3, h4, h5, h6, hK _ h7⟩
    · exact hx.elim
  case call c =>
    obtain ⟨callee, args, ts⟩ := c
    cases callee with
    | value f =>
      unfold opE at hx ⊢
      dsimp only at hx ⊢
      rw [hr f (by simp [Op.operands, Call.operands]), zhh (ρ := ρ) (ρ' := ρ') (fun x hx => hr x (by simp [Op.operands, Call.operands]; exact .inr (by simpa using hx)))] at hx
      split at hx
      · rename_i h1 h2; (try rw [h1, h2])
        obtain ⟨r, H', h1, h2, h3⟩ := hx
        exact ⟨r, H', h1, h2, hK _ h3⟩
      · exact hx.elim
    | invoke r m => exact pure _ rfl hx
    | builtin b =>
      have ha : args.toList.map (fun x => (ρ x).asV) = args.toList.map (fun x => (ρ' x).asV) :=
        List.map_congr_left (fun x hx => by rw [hr x (by simp [Op.operands, Call.operands]; simpa using hx)])
      cases b
      case append =>
        unfold opE at hx ⊢
        dsimp only at hx ⊢
        rw [ha] at hx
        split at hx
        · rename_i h1 h2; (try rw [h1, h2])
          (try dsimp only)
          split at hx
          · rename_i h3 h4; (try rw [h3, h4])
            (try dsimp only)
            split at hx
            · rename_i h5; (try rw [h5]); exact ⟨hx.1, hx.2.1, hx.2.2.1, hx.2.2.2.1, zo7 hK hx.2.2.2.2⟩
            · exact hx.elim
          · exact hx.elim
        · exact hx.elim
      case copy =>
        unfold opE at hx ⊢
        dsimp only at hx ⊢
        rw [ha] at hx
        split at hx
        · rename_i h1 h2; (try rw [h1, h2])
          (try dsimp only)
          split at hx
          · rename_i h3 h4; (try rw [h3, h4])
            (try dsimp only)
            split at hx
            · rename_i h5; (try rw [h5]); exact ⟨hx.1, zpq hK hx.2⟩
            · exact hx.elim
          · exact hx.elim
        · exact hx.elim
      all_goals exact pure _ rfl hx
  all_goals exact pure _ rfl hx
structure Eqv (s t : St) : Prop where
  env : ∀ k, lk s.env k = lk t.env k
  L : ∀ k, lk s.L k = lk t.L k
  H : s.H = t.H
theorem Eqv.refl (s : St) : Eqv s s := ⟨fun _ => rfl, fun _ => rfl, rfl⟩
theorem Eqv.symm {s t : St} (h : Eqv s t) : Eqv t s := ⟨fun k => (h.env k).symm, fun k => (h.L k).symm, h.H.symm⟩
theorem Eqv.trans {s t u : St} (h : Eqv s t) (h' : Eqv t u) : Eqv s u := ⟨fun k => (h.env k).trans (h'.env k), fun k => (h.L k).trans (h'.L k), h.H.trans h'.H⟩
theorem Eqv.ev {s t : St} (h : Eqv s t) : s.ev = t.ev := by
  funext x
  cases x <;> simp only [St.ev]
  rw [h.env]
theorem SRepG.eqv {C : Cx} {s t : St} {a : Act} {w : World} {g : Gh} {lam : Nat → Nat} (h : SRepG C s a w g lam) (he : Eqv s t) : SRepG C t a w g lam := by
  obtain ⟨e', L', H'⟩ := t
  obtain ⟨h1, h2, h3⟩ := he
  dsimp only at h1 h2 h3; subst h3
  exact h.weakEnv (fun k e hk => by rw [h1]; exact hk) (fun k cs hk => by rw [h2]; exact hk)
theorem zge.eqv {C : Cx} {s t : St} {a : Act} {w : World} (h : zge C s a w) (he : Eqv s t) : zge C t a w := by
  obtain ⟨g, lam, h⟩ := h; exact ⟨g, lam, h.eqv he⟩
def zet : Op → Bool
  | .alloc _ | .box .. => false
  | _ => true
def znw (cfg : Cfg) (ρ : Operand → EV) (o : Oper) (k : Nat) : Prop :=
  (cfg.esc = false ∧ zet o.op = false ∧ o.dst = some k) ∨ ∃ x ∈ o.op.operands.toList, ∃ off, ρ x = .loc k off
theorem zt9 {P : Program} {ρ : Operand → EV} {lL lL' : Nat → Option (List AV)} {H : List (List AV)} (op : Op) (h : ∀ x ∈ op.operands.toList, ∀ k off, ρ x = .loc k off → lL k = lL' k) : zas P ρ lL H op = zas P ρ lL' H op := by
  cases op
  case load t x =>
    simp only [zas]
    cases hx : ρ x with
    | val v => cases v <;> rfl
    | loc k off =>
      have := h x (by simp [Op.operands]) k off hx
      simp only [this]
  case call c =>
    obtain ⟨callee, args, ts⟩ := c
    cases callee with
    | value f => rfl
    | invoke r m => rfl
    | builtin b => cases b <;> rfl
  case makeFunc f a b => cases f <;> rfl
  case slice t x lo hi m => cases m <;> rfl
  all_goals rfl
theorem zhv {P : Program} {ρ : Operand → EV} {lL : Nat → Option (List AV)} {H : List (List AV)} {op : Op} {c : Prop} {k off : Nat} (h : zas P ρ lL H op = some (c, .loc k off)) : ∃ x ∈ op.operands.toList, ∃ off', ρ x = .loc k off' := by
  cases op
  case move x => simp only [zas, Option.some.injEq, Prod.mk.injEq] at h; exact ⟨x, by simp [Op.operands], off, h.2⟩
  case assign x => simp only [zas, Option.some.injEq, Prod.mk.injEq] at h; exact ⟨x, by simp [Op.operands], off, h.2⟩
  case pick a x y =>
    simp only [zas, Option.map_eq_some_iff, Prod.mk.injEq] at h
    obtain ⟨b, _, _, h⟩ := h
    cases b
    · exact ⟨y, by simp [Op.operands], off, by simpa using h⟩
    · exact ⟨x, by simp [Op.operands], off, by simpa using h⟩
  case nilCheck x =>
    simp only [zas] at h
    split at h
    · rename_i key o he; simp only [Option.some.injEq, Prod.mk.injEq, EV.loc.injEq] at h; obtain ⟨_, rfl, rfl⟩ := h; exact ⟨x, by simp [Op.operands], _, he⟩
    · simp at h
    · simp at h
    · simp at h
  case fieldAddr t x i =>
    simp only [zas, Option.bind_eq_some_iff] at h
    obtain ⟨p, _, h⟩ := h
    split at h
    · split at h
      · rename_i key o he; simp only [Option.some.injEq, Prod.mk.injEq, EV.loc.injEq] at h; obtain ⟨_, rfl, _⟩ := h; exact ⟨x, by simp [Op.operands], _, he⟩
      · simp at h
      · simp at h
    · simp at h
  case load t x =>
    simp only [zas] at h
    split at h
    · simp only [Option.bind_eq_some_iff, Option.map_eq_some_iff, Prod.mk.injEq] at h; obtain ⟨_, _, _, _, _, _, _, _, _, h⟩ := h; cases h
    · simp only [Option.bind_eq_some_iff, Option.map_eq_some_iff, Prod.mk.injEq] at h; obtain ⟨_, _, _, _, _, _, _, h⟩ := h; cases h
    · cases h
  case binOp op t x y t' =>
    simp only [zas] at h
    split at h
    · simp at h
    · simp at h
  case unOp op t x => simp [zas] at h
  case convert s d x =>
    simp only [zas] at h
    split at h <;> simp at h
  case field t x i =>
    simp only [zas, Option.bind_eq_some_iff] at h
    obtain ⟨p, _, h⟩ := h
    split at h
    · simp only [Option.bind_eq_some_iff, Option.map_eq_some_iff, Prod.mk.injEq] at h; obtain ⟨_, _, _, _, _, _, _, h⟩ := h; cases h
    · cases h
  case indexAddr t x i =>
    simp only [zas] at h
    split at h
    · simp only [Option.bind_eq_some_iff, Option.map_eq_some_iff, Prod.mk.injEq] at h; obtain ⟨_, _, _, _, _, h⟩ := h; cases h
    · simp only [Option.bind_eq_some_iff] at h
      obtain ⟨_, _, _, _, h⟩ := h
      split at h
      · rename_i k2 o2 he
        simp only [Option.some.injEq, Prod.mk.injEq, EV.loc.injEq] at h
        obtain ⟨_, rfl, _⟩ := h
        exact ⟨x, by simp [Op.operands], o2, he⟩
      · simp at h
      · cases h
    · cases h
  case extract x i =>
    simp only [zas] at h
    split at h
    · simp at h
    · cases h
  case slice t x lo hi m =>
    cases m with
    | some m => simp [zas] at h
    | none => simp [zas] at h
  case index t x i => simp [zas] at h
  case build t ps => simp [zas] at h
  case makeFunc f a b =>
    cases f <;> simp only [zas, reduceCtorEq] at h
    split at h
    · simp at h
    · cases h
  case call c =>
    obtain ⟨callee, args, ts⟩ := c
    cases callee with
    | value f => simp [zas] at h
    | invoke r m => simp [zas] at h
    | builtin b =>
      cases b <;> simp only [zas, reduceCtorEq] at h
      all_goals (repeat' split at h) <;> first | (simp at h; done) | (simp only [Option.map_eq_some_iff, Prod.mk.injEq] at h; obtain ⟨_, _, _, h⟩ := h; cases h)
  all_goals simp [zas] at h
theorem zqz {cfg : Cfg} {NL NL' : Nat → Prop} {H : List (List AV)} {dst : Option Tmp} {cs : List AV} {K K' : Eff → Prop} (hN : ∀ d, cfg.esc = false → dst = some d → NL d → NL' d)
    (hK : ∀ e : Eff, (∀ k off, e.v = some (.loc k off) → cfg.esc = false ∧ dst = some k) → (∀ k cs, e.l = some (k, cs) → cfg.esc = false ∧ dst = some k) → K e → K' e) (h : newX cfg NL H dst cs K) : newX cfg NL' H dst cs K' := by
  unfold newX at h ⊢
  cases dst with
  | none => exact h
  | some d =>
    dsimp only at h ⊢
    split at h
    · rename_i he; rw [if_pos he]; exact hK _ (fun k off hh => by simp at hh) (fun k cs hh => by simp at hh) h
    · rename_i he
      rw [if_neg he]
      refine ⟨hN d (by simpa using he) rfl h.1, hK _ (fun k off hh => ?_) (fun k cs hh => ?_) h.2⟩
      · simp at hh; exact ⟨by simpa using he, by rw [hh.1]⟩
      · simp at hh; exact ⟨by simpa using he, by rw [hh.1]⟩
theorem zr5 {cfg : Cfg} {lL lL' : Nat → Option (List AV)} {H : List (List AV)} {x : EV} {vs : List AV} {K K' : Eff → Prop} (hl : ∀ k off, x = .loc k off → lL k = lL' k)
    (hK : ∀ e : Eff, (∀ k off, e.v ≠ some (.loc k off)) → (∀ k cs, e.l = some (k, cs) → ∃ off, x = .loc k off) → K e → K' e) (h : zez cfg lL H x vs K) : zez cfg lL' H x vs K' := by
  unfold zez at h ⊢
  split at h
  · rename_i key off
    rw [← hl key off rfl]
    split at h
    · refine ⟨h.1, hK _ (fun _ _ hh => by simp at hh) (fun k cs hh => ?_) h.2⟩
      simp at hh; exact ⟨off, by rw [hh.1]⟩
    · exact h
  · skip
    split at h
    · exact ⟨h.1, h.2.1, h.2.2.1, hK _ (fun _ _ hh => by simp at hh) (fun k cs hh => by simp at hh) h.2.2.2⟩
    · exact h
  · exact h.elim
theorem zv5 {cfg : Cfg} {sz : Nat} {H : List (List AV)} {s : AV} {n : Nat} {xs : List AV} {K K' : Eff → Prop} (hK : ∀ e : Eff, (∀ k off, e.v ≠ some (.loc k off)) → (∀ p, e.l ≠ some p) → K e → K' e) (h : zj8 cfg sz H s n xs K) : zj8 cfg sz H s n xs K' := by
  unfold zj8 at h ⊢
  split at h
  · exact ⟨h.1, fun h0 => hK _ (by simp) (by simp) (h.2.1 h0), fun h0 => hK _ (by simp) (by simp) (h.2.2 h0)⟩
  · skip
    split at h
    · exact ⟨h.1, h.2.1, h.2.2.1, h.2.2.2.1, h.2.2.2.2.1, h.2.2.2.2.2.1, hK _ (by simp) (by simp) h.2.2.2.2.2.2⟩
    · exact h
  · exact h.elim
theorem zwl {cfg : Cfg} {sz : Nat} {H : List (List AV)} {s : AV} {n : Nat} {xs : List AV} {K K' : Eff → Prop} (hK : ∀ e : Eff, (∀ k off, e.v ≠ some (.loc k off)) → (∀ p, e.l ≠ some p) → K e → K' e) (h : zsf cfg sz H s n xs K) : zsf cfg sz H s n xs K' := by
  unfold zsf at h ⊢
  split at h
  · skip
    split at h
    · exact ⟨h.1, h.2.1, h.2.2.1, h.2.2.2.1, hK _ (by simp) (by simp) h.2.2.2.2⟩
    · exact h
  · exact h.elim
theorem zvq {P : Program} {cfg : Cfg} {ρ ρ' : Operand → EV} {NL NL' : Nat → Prop} {lL lL' : Nat → Option (List AV)} {H : List (List AV)} {o : Oper} {K K' : Eff → Prop} (hr : ∀ x ∈ o.op.operands.toList, ρ x = ρ' x) (hN : ∀ d, cfg.esc = false → o.dst = some d → zet o.op = false → NL d → NL' d)
    (hl : ∀ x ∈ o.op.operands.toList, ∀ k off, ρ x = .loc k off → lL k = lL' k)
    (hK : ∀ e, (∀ k off, e.v = some (.loc k off) → znw cfg ρ o k) → (∀ k cs, e.l = some (k, cs) → znw cfg ρ o k) → K e → K' e) (hx : opE P cfg ρ NL lL H o K) : opE P cfg ρ' NL' lL' H o K' := by
  obtain ⟨dst, op, ty, pos, aft, gd⟩ := o
  dsimp only at hr hN hl
  have pure : ∀ op', op' = op → (match zas P ρ lL H op with | some (c, v) => c ∧ K ⟨some v, none, H⟩ | none => False) → (match zas P ρ' lL' H op' with | some (c, v) => c ∧ K' ⟨some v, none, H⟩ | none => False) := by
    rintro op' rfl hh
    rw [← zef op' hr, ← zt9 op' hl]
    split at hh
    · rename_i c v h
      refine ⟨hh.1, hK _ (fun k off he => ?_) (fun k cs he => by simp at he) hh.2⟩
      simp only [Option.some.injEq] at he
      subst he
      exact .inr (zhv h)
    · exact hh.elim
  have quiet : ∀ {v : EV} {H' : List (List AV)}, (∀ k off, v ≠ .loc k off) → K ⟨some v, none, H'⟩ → K' ⟨some v, none, H'⟩ := fun h hk => hK _ (fun k off he => by simp only [Option.some.injEq] at he; exact (h k off he).elim) (fun k cs he => by simp at he) hk
  cases op
  case alloc t =>
    unfold opE at hx ⊢
    dsimp only at hx ⊢
    split at hx
    · rename_i h; (try rw [h]); exact zqz (fun d he hd => hN d he hd rfl) (fun e h1 h2 => hK e (fun k off he => .inl ⟨(h1 k off he).1, rfl, (h1 k off he).2⟩) (fun k cs he => .inl ⟨(h2 k cs he).1, rfl, (h2 k cs he).2⟩)) hx
    · exact hx.elim
  case box t x =>
    unfold opE at hx ⊢
    dsimp only at hx ⊢
    rw [hr x (by simp [Op.operands])] at hx
    split at hx
    · rename_i h; (try rw [h]); exact zqz (fun d he hd => hN d he hd rfl) (fun e h1 h2 => hK e (fun k off he => .inl ⟨(h1 k off he).1, rfl, (h1 k off he).2⟩) (fun k cs he => .inl ⟨(h2 k cs he).1, rfl, (h2 k cs he).2⟩)) hx
    · exact hx.elim
  case store t x v =>
    unfold opE at hx ⊢
    dsimp only at hx ⊢
    rw [hr v (by simp [Op.operands])] at hx
    split at hx
    · rename_i h
      (try rw [h])
      refine ⟨hx.1, hx.2.1, ?_⟩
      rw [← hr x (by simp [Op.operands])]
      exact zr5 (fun k off he => hl x (by simp [Op.operands]) k off he) (fun e h1 h2 => hK e (fun k off he => (h1 k off he).elim) (fun k cs he => by obtain ⟨off, h3⟩ := h2 k cs he; exact .inr ⟨x, by simp [Op.operands], off, h3⟩)) hx.2.2
    · exact hx.elim
  case buildSlice t n ps =>
    unfold opE at hx ⊢
    dsimp only at hx ⊢
    have hm : ps.toList.map (fun p : Nat × Operand => (p.1, (ρ p.2).asV)) = ps.toList.map (fun p => (p.1, (ρ' p.2).asV)) :=
      List.map_congr_left (fun p hp => by rw [hr p.2 (by simp [Op.operands]; exact ⟨p.1, by simpa using hp⟩)])
    rw [hm] at hx
    split at hx
    · rename_i h; (try rw [h])
      (try dsimp only)
      split at hx
      · rename_i h; (try rw [h])
        (try dsimp only)
        refine ⟨hx.1, hx.2.1, hx.2.2.1, ?_⟩
        have := hx.2.2.2
        split at this
        · rename_i h; simp only [h, if_true]; exact quiet (by simp) this
        · rename_i h; simp only [h, if_false]; exact quiet (by simp) this
      · exact hx.elim
    · exact hx.elim
  case makeSlice t l c =>
    unfold opE at hx ⊢
    dsimp only at hx ⊢
    rw [hr l (by simp [Op.operands]), hr c (by simp [Op.operands])] at hx
    split at hx
    · rename_i h1 h2 h3; (try rw [h1, h2, h3])
      obtain ⟨h1, h2, h3, h4, h5, h6, h7⟩ := hx
      exact ⟨h1, h2, h3, h4, h5, h6, quiet (by simp) h7⟩
    · exact hx.elim
  case call c =>
    obtain ⟨callee, args, ts⟩ := c
    cases callee with
    | value f =>
      unfold opE at hx ⊢
      dsimp only at hx ⊢
      rw [hr f (by simp [Op.operands, Call.operands]), zhh (ρ := ρ) (ρ' := ρ') (fun x hx => hr x (by simp [Op.operands, Call.operands]; exact .inr (by simpa using hx)))] at hx
      split at hx
      · rename_i h1 h2; (try rw [h1, h2])
        obtain ⟨r, H', h1, h2, h3⟩ := hx
        exact ⟨r, H', h1, h2, quiet (by simp) h3⟩
      · exact hx.elim
    | invoke r m => exact pure _ rfl hx
    | builtin b =>
      have ha : args.toList.map (fun x => (ρ x).asV) = args.toList.map (fun x => (ρ' x).asV) :=
        List.map_congr_left (fun x hx => by rw [hr x (by simp [Op.operands, Call.operands]; simpa using hx)])
      cases b
      case append =>
        unfold opE at hx ⊢
        dsimp only at hx ⊢
        rw [ha] at hx
        split at hx
        · rename_i h1 h2; (try rw [h1, h2])
          (try dsimp only)
          split at hx
          · rename_i h3 h4; (try rw [h3, h4])
            (try dsimp only)
            split at hx
            · rename_i h5; (try rw [h5]); exact ⟨hx.1, hx.2.1, hx.2.2.1, hx.2.2.2.1, zv5 (fun e h1 h2 => hK e (fun k off he => (h1 k off he).elim) (fun k cs he => (h2 _ he).elim)) hx.2.2.2.2⟩
            · exact hx.elim
          · exact hx.elim
        · exact hx.elim
      case copy =>
        unfold opE at hx ⊢
        dsimp only at hx ⊢
        rw [ha] at hx
        split at hx
        · rename_i h1 h2; (try rw [h1, h2])
          (try dsimp only)
          split at hx
          · rename_i h3 h4; (try rw [h3, h4])
            (try dsimp only)
            split at hx
            · rename_i h5; (try rw [h5]); exact ⟨hx.1, zwl (fun e h1 h2 => hK e (fun k off he => (h1 k off he).elim) (fun k cs he => (h2 _ he).elim)) hx.2⟩
            · exact hx.elim
          · exact hx.elim
        · exact hx.elim
      all_goals exact pure _ rfl hx
  all_goals exact pure _ rfl hx
end Go.Sx
