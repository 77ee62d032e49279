/- A part of the proofs of this seat: SxE. No condition is set. -/
import Derived.Test.YtchhjighipjnnaaSxD
set_option linter.unusedVariables false
set_option linter.unusedSimpArgs false
namespace Go.Sx
section
variable {C : Cx} {st : St} {a : Act} {w : World} {g : Gh} {lam : Nat → Nat}

theorem telem_eq {P : Program} {t e : TypeId} (h : telem P t = some e) : P.underlying t = some (.slice e) := by
  unfold telem at h
  split at h
  · simp only [Option.some.injEq] at h; subst h; assumption
  · simp at h

theorem exec_builtin {o : Oper} {b : Builtin} {args : Array Operand} {ts : Array TypeId} (hop : o.op = .call { callee := .builtin b, args := args, argTypes := ts }) (ρ : Operand → Value) (P : Program) (w : World) :
    (execOp ρ o).run P w = (builtin b ts o.type (args.map fun | .const _ => true | _ => false) (args.map ρ)).run P w := by
  simp only [execOp, hop, resolve, invoke, Sem.run_bind, Sem.run_pure, Result.andThen_ok]
  rfl

theorem two_args {args : Array Operand} {s x : AV} (h : args.toList.map (fun x => (st.ev x).asV) = [some s, some x]) :
    ∃ p q, args = #[p, q] ∧ st.ev p = .val s ∧ st.ev q = .val x := by
  rcases args with ⟨l⟩
  simp only [List.map_eq_cons_iff, List.map_eq_nil_iff] at h
  obtain ⟨p, _, rfl, h1, q, _, rfl, h2, rfl⟩ := h
  exact ⟨p, q, rfl, asV_eq h1, asV_eq h2⟩
theorem two_ts {ts : Array TypeId} {t tx : TypeId} (h : ts.toList = [t, tx]) : ts = #[t, tx] := by cases ts; simp_all

theorem zsize_of {zv : Value} {zc : List AV} (w : World) (g : Gh) (hc : (aOf zv).cells = some zc) : zv.cells.size = zc.length := by
  have := LRep_length (cells_rep (w := w) (g := g) hc (aOf_rep w g zv)).1
  simpa using this

theorem append_sound (h : SRepG C st a w g lam) {o : Oper} (hN : ∀ d, o.dst = some d → d < C.N) {args : Array Operand} {ts : Array TypeId}
    (hop : o.op = .call { callee := .builtin .append, args := args, argTypes := ts }) {s x : AV} (ha : args.toList.map (fun x => (st.ev x).asV) = [some s, some x])
    {t tx ex : TypeId} (ht : ts.toList = [t, tx]) {sz by_ n : Nat} {zc xs : List AV} (he : einfo C.P t = some (sz, by_, zc)) (hex : telem C.P tx = some ex) (hs : srcX st.H sz x = some (n, xs))
    (hby : by_ ≤ 2 ^ 10) (hb0 : 0 < by_) (hzl : zc.length = sz) (hs0 : 0 < sz) {K : Eff → Prop} (hx : appX C.cfg sz st.H s n xs K) (Q : Exit → Act → World → Prop) :
    o.upon C.P a (PostOp C st o.dst K) Q ((execOp a.eval o).run C.P w) := by
  obtain ⟨p, q, rfl, hp, hq⟩ := two_args ha
  have := two_ts ht; subst this
  obtain ⟨e, inf, zv, hu, hi, rfl, rfl, hz, hc⟩ := einfo_eq he
  have hux := telem_eq hex
  have hzs := zsize_of w g hc
  let w₁ : World := { w with drawn := w.drawn + 1 }
  have h₁ : SRepG C st a w₁ g lam := h.still rfl ⟨rfl, rfl, rfl⟩
  obtain ⟨hxl, ax, capx, hX, hfc⟩ := src_run (P := C.P) h.wr hs (h.evV hq)
  obtain ⟨_, _, _, _, hfc₁⟩ := src_run (P := C.P) h₁.wr hs (h₁.evV hq)
  rw [exec_builtin hop]
  unfold appX at hx
  split at hx
  · -- nil
    obtain ⟨hn, hk0, hk1⟩ := hx
    have hS := h.evV hp
    simp only [VRep] at hS
    rcases Nat.eq_zero_or_pos n with h0 | h0
    · subst h0
      refine upon_value _ _ _ _ _ (x := .slice none 0 0) (w' := w) ?_ ⟨_, hk0 rfl, SRepG.fin (st := st) st.L st.H none rfl h hN (fun _ => by simp [ERep, VRep])⟩
      obtain ⟨arr, j1, j2, j3⟩ := hfc 0 (Nat.le_refl _)
      have hsz : (sizeOf e).run C.P w = .ok inf.size w := by simp [sizeOf, typeInfo, hi, Sem.run_bind]
      rw [hX] at j1
      simp [builtin, Builtin.append_, hS, hX, Sem.run_bind, run_underlying hu, run_underlying hux, hsz, Builtin.lenOf, j1]
    · obtain ⟨arr, j1, j2, j3⟩ := hfc₁ n (Nat.le_refl _)
      rw [hX] at j1
      obtain ⟨nc, hnc, hrun⟩ := append_grow_run (P := C.P) (w := w) (t := t) (tx := tx) (ts := #[t, tx]) (args := #[.slice none 0 0, .slice ax n capx]) (ty := o.type) hu hux hi hz (base := none) (bx := ax) (len := 0) (cap := 0) (n := n) (capx := capx) rfl rfl rfl rfl
        hby hb0 (by omega) (by omega) (old := #[]) (new := arr) rfl j1
      have hal : arr.size = n * inf.size := by have := LRep_length j2; simp [hxl] at this; omega
      rw [Nat.zero_add] at hnc hrun
      have htk : xs.take (n * inf.size) = xs := List.take_of_length_le (by omega)
      rw [htk] at j2
      have hcs : (#[] ++ arr ++ Builtin.zeroCells zv.cells (nc - n)).size = nc * inf.size := by
        simp only [Array.size_append, zeroCells_size, hal, hzs, hzl, Array.size_empty, Nat.zero_add, Nat.sub_mul]
        have := Nat.mul_le_mul_right inf.size hnc
        omega
      have hV : Vals w₁ g xs (#[] ++ arr ++ Builtin.zeroCells zv.cells (nc - n)) 0 := by
        intro i cv hi'
        obtain ⟨v, k1, k2, k3⟩ := vals_of j2 j3 i cv hi'
        refine ⟨v, ?_, k2, k3⟩
        have hlt : 0 + i < arr.size := (Array.getElem?_eq_some_iff.1 k1).1
        simp only [Array.empty_append]
        rw [Array.getElem?_append_left hlt]; exact k1
      refine newSl_sound h₁ hN (e := e) (cap := nc) (c := #[] ++ arr ++ Builtin.zeroCells zv.cells (nc - n)) (s := inf.size) hV (by rw [hcs, hxl]; exact Nat.mul_le_mul_right _ hnc) (by omega) hnc (by omega) (hk1 (by omega)) Q ?_
      have hargs : (#[p, q].map a.eval) = #[.slice none 0 0, .slice ax n capx] := by simp [hS, hX]
      rw [hargs]
      simp only [builtin, Sem.run_bind, hrun, Result.andThen_ok, Sem.run_pure]
      rfl
  · -- a block
    rename_i id gen o' len z
    split at hx
    case h_2 => exact hx.elim
    rename_i cs hcs
    obtain ⟨rfl, hg, rfl, hlg, hle, hold, hk⟩ := hx
    have hS := h.evV hp
    have hS₁ := h₁.evV hp
    simp only [VRep] at hS
    obtain ⟨b, δ, cap, m, k1, k2, k3, k4, k5, k6⟩ := hS
    rw [Nat.add_zero] at k2 k6
    rw [← hg] at k1
    obtain ⟨b', δ', c, e', q1, q2, q3, q4, q5, q6⟩ := h.wr.blk id cs hcs
    rw [k1] at q1; simp only [Option.some.injEq, Prod.mk.injEq] at q1; obtain ⟨rfl, rfl⟩ := q1
    rw [bsz_row q2] at k5; simp only [Option.some.injEq] at k5; subst k5
    have hcl : cs.length = len * inf.size := by omega
    have hmx : C.cfg.n0 ≤ id ∨ mxL (cs ++ xs) ≤ C.cfg.n0 := by
      rcases Nat.lt_or_ge id C.cfg.n0 with hlt | hge
      · right
        rcases hold with h1 | h1
        · omega
        · rw [mxL_append]
          have := h.om id cs hlt hcs
          omega
      · exact .inl hge
    have hargs : (#[p, q].map a.eval) = #[.slice (some ⟨b, δ, none⟩) len cap, .slice ax n capx] := by simp [k2, hX]
    rw [hargs]
    by_cases hroom : len + n ≤ cap
    · obtain ⟨arr, j1, j2, j3⟩ := hfc n (Nat.le_refl _)
      have htk : xs.take (n * inf.size) = xs := List.take_of_length_le (by omega)
      rw [htk] at j2
      have hal : arr.toList.length = xs.length := LRep_length j2
      have hmul : (len + n) * inf.size ≤ cap * inf.size := Nat.mul_le_mul_right _ hroom
      rw [Nat.add_mul] at hmul
      have hst := run_storeCells_at C.P b (δ + len * inf.size) e' arr.toList 0 c w q2 (by rw [hal]; omega) j3
      rw [hX] at j1
      have hrun := append_room_run (P := C.P) (w := w) (ts := #[t, tx]) (args := #[.slice (some ⟨b, δ, none⟩) len cap, .slice ax n capx]) (ty := o.type) hu hux hi rfl rfl rfl rfl hroom j1 hst
      rw [Nat.add_zero, ← hcl] at hrun
      have hV := app_vals (Vals.of_crep q4 q2) j2 j3 (by rw [hxl]; omega)
      have hnew := setRow_heap w b c (c.toList.take (δ + cs.length) ++ arr.toList ++ c.toList.drop (δ + cs.length + arr.toList.length)).toArray e' _ q2
      have hsz : (c.toList.take (δ + cs.length) ++ arr.toList ++ c.toList.drop (δ + cs.length + arr.toList.length)).toArray.size = c.size := patch_size (by rw [hal]; omega)
      obtain ⟨r1, r2⟩ := h.repl (cs' := cs ++ xs) (b' := b) (δ' := δ) (e := e') hcs k1 (by simp) hmx (w' := w.setRow b _) (by rw [setRow_size]; exact Nat.le_refl _)
        (fun k _ hk' => setRow_other w b k _ hk') (fun n' hn' => by rw [bsz_row q2] at hn'; rw [bsz_row hnew, hsz]; exact hn')
        (fun o => (fro_zero hnew).trans (fro_zero q2).symm) (setRow_same w b _) hnew (.inl ⟨rfl, rfl⟩) hV (by rw [hsz]; simp; omega)
        (fun a' ha' => (fro_zero (by rw [ha']; exact hnew)).trans (fro_zero (by rw [ha']; exact q2)).symm)
      refine upon_value _ _ _ _ _ (x := .slice (some ⟨b, δ, none⟩) (len + n) cap) (w' := w.setRow b (c.toList.take (δ + cs.length) ++ arr.toList ++ c.toList.drop (δ + cs.length + arr.toList.length)).toArray)
        (by simp only [builtin, Sem.run_bind, hrun, Result.andThen_ok, Sem.run_pure]) ⟨_, hk, ?_⟩
      refine SRepG.fin (st := st) st.L _ none rfl r1 hN (fun _ => ?_)
      simp only [Option.getD_some, ERep, VRep]
      exact ⟨b, δ, cap, c.size, by simp [movG], rfl, hroom, by rw [Nat.add_mul]; omega, by rw [bsz_row hnew, hsz], by omega⟩
    · obtain ⟨arr, j1, j2, j3⟩ := hfc₁ n (Nat.le_refl _)
      rw [hX] at j1
      have htk : xs.take (n * inf.size) = xs := List.take_of_length_le (by omega)
      rw [htk] at j2
      have hold' : SBase w₁ g (.slm id gen 0 len inf.size) b δ := by simp only [SBase]; exact ⟨δ, by rw [← hg]; exact k1, rfl⟩
      have hcr : CRep w₁ g cs b δ := CRep.ext (Ext.heap (w := w) (w' := w₁) g rfl) rfl q4
      obtain ⟨old, o1, o2, o3⟩ := load_run (P := C.P) (m := len * inf.size) hcr (by omega)
      have htk2 : cs.take (len * inf.size) = cs := List.take_of_length_le (by omega)
      rw [htk2] at o2
      have hol : old.size = len * inf.size := by have := LRep_length o2; simp at this; omega
      have hal : arr.size = n * inf.size := by have := LRep_length j2; simp at this; omega
      obtain ⟨nc, hnc, hrun⟩ := append_grow_run (P := C.P) (w := w) (t := t) (tx := tx) (ts := #[t, tx]) (args := #[.slice (some ⟨b, δ, none⟩) len cap, .slice ax n capx]) (ty := o.type) hu hux hi hz
        (base := some ⟨b, δ, none⟩) (bx := ax) (len := len) (cap := cap) (n := n) (capx := capx) rfl rfl rfl rfl hby hb0 hle (by omega) (old := old) (new := arr) o1 j1
      have hcc : (old ++ arr ++ Builtin.zeroCells zv.cells (nc - (len + n))).size = nc * inf.size := by
        simp only [Array.size_append, zeroCells_size, hal, hol, hzs, hzl, Nat.sub_mul, Nat.add_mul]
        have := Nat.mul_le_mul_right inf.size hnc
        rw [Nat.add_mul] at this
        omega
      have hV : Vals w g (cs ++ xs) (old ++ arr ++ Builtin.zeroCells zv.cells (nc - (len + n))) 0 := by
        have hex : Ext w₁ g w g := Ext.heap g rfl
        intro i cv hi'
        rw [Nat.zero_add]
        by_cases hlt : i < cs.length
        · rw [List.getElem?_append_left hlt] at hi'
          obtain ⟨v, y1, y2, y3⟩ := vals_of o2 o3 i cv hi'
          rw [Nat.zero_add] at y1
          refine ⟨v, ?_, y2, y3.ext hex⟩
          have hlt' : i < old.size := by omega
          rw [Array.append_assoc, Array.getElem?_append_left hlt']; exact y1
        · rw [List.getElem?_append_right (by omega)] at hi'
          obtain ⟨v, y1, y2, y3⟩ := vals_of j2 j3 _ cv hi'
          rw [Nat.zero_add] at y1
          refine ⟨v, ?_, y2, y3.ext hex⟩
          have hlt' : i - old.size < arr.size := by have := (List.getElem?_eq_some_iff.1 hi').1; omega
          rw [Array.append_assoc, Array.getElem?_append_right (by omega), Array.getElem?_append_left hlt']
          rw [show i - old.size = i - cs.length from by omega]; exact y1
      have hpos : 0 < n := by omega
      have hxpos : 0 < xs.length := by rw [hxl]; exact Nat.mul_pos hpos hs0
      obtain ⟨r1, r2⟩ := h.repl (cs' := cs ++ xs) (b' := w.heap.size) (δ' := 0) (e := e) hcs k1 (by simp) hmx (w' := w₁.alloc (.cells (old ++ arr ++ Builtin.zeroCells zv.cells (nc - (len + n))) e))
        (by rw [al_size]; show w.heap.size ≤ w.heap.size + 1; omega) (fun k hk' _ => al_old w₁ _ hk') (fun n' hn' => by rw [bsz_eq (al_old w₁ _ (bsz_lt hn'))]; exact hn')
        (fun o => fro_eq (al_old w₁ _ (Array.getElem?_eq_some_iff.1 q2).1)) ⟨rfl, rfl, rfl⟩ (al_new w₁ _) (.inr ⟨rfl, by simp; omega⟩) hV (by rw [hcc]; simp; rw [hcl, hxl, ← Nat.add_mul]; exact Nat.mul_le_mul_right _ hnc)
        (fun a' ha' => fro_eq (al_old w₁ _ (by rw [ha']; exact (Array.getElem?_eq_some_iff.1 q2).1)))
      refine upon_value _ _ _ _ _ (x := .slice (some ⟨w.heap.size, 0, none⟩) (len + n) nc) (by simp only [builtin, Sem.run_bind, hrun, Result.andThen_ok, Sem.run_pure]; rfl) ⟨_, hk, ?_⟩
      refine SRepG.fin (st := st) st.L _ none rfl r1 hN (fun _ => ?_)
      simp only [Option.getD_some, ERep, VRep]
      exact ⟨w.heap.size, 0, nc, nc * inf.size, by simp [movG], rfl, hnc, by rw [Nat.add_mul]; omega, by rw [← hcc]; exact bsz_row (al_new w₁ _), by omega⟩
  · exact hx.elim
end
end Go.Sx
