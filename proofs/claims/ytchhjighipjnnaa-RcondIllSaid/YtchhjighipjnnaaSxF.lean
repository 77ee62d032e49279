/- A part of the proofs of this seat: SxF. No condition is set. -/
import Derived.Test.YtchhjighipjnnaaSxE
set_option linter.unusedVariables false
set_option linter.unusedSimpArgs false
namespace Go.Sx
section
variable {C : Cx} {st : St} {a : Act} {w : World} {g : Gh} {lam : Nat → Nat}

theorem LRep_append {w : World} {g : Gh} : ∀ {xs ys : List AV} {vs us : List Value}, LRep w g xs vs → LRep w g ys us → LRep w g (xs ++ ys) (vs ++ us)
  | [], ys, vs, us, h, k => by simp only [LRep] at h; subst h; exact k
  | x :: xs, ys, vs, us, h, k => by
    simp only [LRep] at h
    obtain ⟨v, rest, rfl, h1, h2⟩ := h
    simp only [List.cons_append, LRep]
    exact ⟨v, rest ++ us, rfl, h1, LRep_append h2 k⟩

theorem copy_sound (h : SRepG C st a w g lam) {o : Oper} (hN : ∀ d, o.dst = some d → d < C.N) {args : Array Operand} {ts : Array TypeId}
    (hop : o.op = .call { callee := .builtin .copy, args := args, argTypes := ts }) {d x : AV} (ha : args.toList.map (fun x => (st.ev x).asV) = [some d, some x])
    {t tx ex : TypeId} (ht : ts.toList = [t, tx]) {sz n : Nat} {xs : List AV} (he : (telem C.P t).bind (tsz C.P) = some sz) (hs : srcX st.H sz x = some (n, xs))
    (hs0 : 0 < sz) {K : Eff → Prop} (hx : cpyX C.cfg sz st.H d n xs K) (Q : Exit → Act → World → Prop) :
    o.upon C.P a (PostOp C st o.dst K) Q ((execOp a.eval o).run C.P w) := by
  obtain ⟨p, q, rfl, hp, hq⟩ := two_args ha
  have := two_ts ht; subst this
  simp only [Option.bind_eq_some_iff] at he
  obtain ⟨e, he, hsz⟩ := he
  have hu := telem_eq he
  have hsr : (sizeOf e).run C.P w = .ok sz w := by
    unfold tsz at hsz
    simp only [Option.map_eq_some_iff] at hsz
    obtain ⟨i, hi, rfl⟩ := hsz
    simp [sizeOf, typeInfo, hi, Sem.run_bind]
  obtain ⟨hxl, ax, capx, hX, hfc⟩ := src_run (P := C.P) h.wr hs (h.evV hq)
  rw [exec_builtin hop]
  unfold cpyX at hx
  split at hx
  case h_2 => exact hx.elim
  rename_i id gen o' len z
  split at hx
  case h_2 => exact hx.elim
  rename_i cs hcs
  obtain ⟨rfl, hg, hold, hle, hk⟩ := hx
  have hS := h.evV hp
  simp only [VRep] at hS
  obtain ⟨b, δ, cap, m, k1, k2, k3, k4, k5, k6⟩ := hS
  rw [← hg] at k1
  obtain ⟨arr, j1, j2, j3⟩ := hfc (min n len) (Nat.min_le_left _ _)
  have hlen : (xs.take (min n len * z)).length = min n len * z := by
    have := Nat.mul_le_mul_right z (Nat.min_le_left n len)
    rw [List.length_take, hxl]; omega
  have hal : arr.toList.length = min n len * z := by rw [LRep_length j2, hlen]
  have hmul := Nat.mul_le_mul_right z (Nat.min_le_right n len)
  obtain ⟨c, e', q2, q3, r1⟩ := h.write (p := o') (vs := xs.take (min n len * z)) (xs := arr.toList) hcs k1 (by rw [hlen]; omega) (by
    rcases hold with h1 | h1
    · exact .inl h1
    · right; rw [mxL_le] at h1 ⊢
      intro i c hi
      rw [List.getElem?_take] at hi
      split at hi
      · exact h1 i c hi
      · simp at hi) j2 j3
  have hst := run_storeCells_at C.P b (δ + o') e' arr.toList 0 c w q2 (by rw [hal]; omega) j3
  rw [Nat.add_zero] at hst
  rw [hX] at j1
  have hargs : (#[p, q].map a.eval) = #[.slice (some ⟨b, δ + o', none⟩) len cap, .slice ax n capx] := by simp [k2, hX]
  rw [hargs]
  have hrun : (Builtin.copy_ #[t, tx] o.type #[.slice (some ⟨b, δ + o', none⟩) len cap, .slice ax n capx]).run C.P w =
      .ok (goInt (min n len : Nat)) (w.setRow b (c.toList.take (δ + o') ++ arr.toList ++ c.toList.drop (δ + o' + arr.toList.length)).toArray) := by
    have e0 : (#[t, tx] : Array TypeId)[0]? = some t := rfl
    have e1 : (#[Value.slice (some ⟨b, δ + o', none⟩) len cap, Value.slice ax n capx] : Array Value)[0]? = some (Value.slice (some ⟨b, δ + o', none⟩) len cap) := rfl
    have e2 : (#[Value.slice (some ⟨b, δ + o', none⟩) len cap, Value.slice ax n capx] : Array Value)[1]? = some (Value.slice ax n capx) := rfl
    have em : Nat.min n len = min n len := rfl
    simp only [Builtin.copy_, e0, e1, e2, Sem.run_bind, run_underlying hu, Result.andThen_ok, hsr, Builtin.lenOf, Sem.run_pure, em, j1, hst]
  refine upon_value _ _ _ _ _ (x := goInt (min n len : Nat)) (w' := w.setRow b (c.toList.take (δ + o') ++ arr.toList ++ c.toList.drop (δ + o' + arr.toList.length)).toArray)
    (by simp only [builtin, Sem.run_bind, hrun, Result.andThen_ok, Sem.run_pure]) ⟨_, hk, ?_⟩
  exact SRepG.fin (st := st) st.L _ none rfl r1 hN (fun _ => by simp [ERep, VRep, goInt])

theorem call_sound (h : SRepG C st a w g lam) {o : Oper} (hN : ∀ d, o.dst = some d → d < C.N) {args : Array Operand} {ts : Array TypeId} {f : Operand}
    (hop : o.op = .call { callee := .value f, args := args, argTypes := ts }) {id : Nat} {first caps vs : List AV} (hf : st.ev f = .val (.func id first caps)) (ha : argsX st.ev args.toList = some vs)
    {r : AV} {H' : List (List AV)} (hs : CSpec C.P id (first ++ vs ++ caps) st.H r H') (hold : OldOk C.cfg.n0 st.H H') {K : Eff → Prop} (hk : K ⟨some (.val r), none, H'⟩) (Q : Exit → Act → World → Prop) :
    o.upon C.P a (PostOp C st o.dst K) Q ((execOp a.eval o).run C.P w) := by
  have hF := h.evV hf
  simp only [VRep] at hF
  obtain ⟨fs, cs, hF, hfr, hcr⟩ := hF
  have hA := args_rep h ha
  have hrun : (execOp a.eval o).run C.P w = (callFunc id (fs ++ args.map a.eval ++ cs)).run C.P w := by
    simp only [execOp, hop, resolve, hF, Deferred.ofValue, invoke, Sem.run_bind, Sem.run_pure, Result.andThen_ok]
  have hL : LRep w g (first ++ vs ++ caps) (fs ++ args.map a.eval ++ cs).toList := by
    simp only [Array.toList_append, Array.toList_map]
    exact LRep_append (LRep_append hfr hA) hcr
  rw [hrun]
  rcases hs with ⟨hent, hsp⟩ | ⟨rfl, hx⟩
  · rw [hent]
    show Calls C.P id _ w _
    refine (hsp w g _ h.wr hL).mono fun e w' he => ?_
    obtain ⟨v, g', rfl, h1, h2, h3⟩ := he
    show PostOp C st o.dst K (a.put o.dst v) w'
    refine ⟨_, hk, ?_⟩
    have hx := h2.ext h.wr
    refine SRepG.fin (st := st) st.L H' none rfl (g := g') (lam := lam) ⟨h1, h.si.trans h.wr h2, ?_, fun t e he => ?_, h.defs, h.size, h.n0, fun id cs hid hc => ?_⟩ hN (fun _ => h3)
    · exact h.lr.step hx h2.keep h2.fznew h2.hb
    · obtain ⟨x, j1, j2⟩ := h.env t e he
      exact ⟨x, j1, j2.ext hx⟩
    · rcases hold id cs hid hc with j1 | j1
      · exact h.om id cs hid j1
      · exact j1
  · obtain ⟨v, h1, h2⟩ := hx w g _ hL
    refine upon_value _ _ _ _ _ h1 ⟨_, hk, ?_⟩
    exact SRepG.fin (st := st) st.L st.H none rfl h hN (fun _ => h2)

theorem op_sound (h : SRepG C st a w g lam) {o : Oper} (hN : ∀ d, o.dst = some d → d < C.N) {NL : Nat → Prop} (hNL : ∀ d, NL d → NoLoc st.ev d) {K : Eff → Prop}
    (hx : opE C.P C.cfg st.ev NL (lk st.L) st.H o K) (Q : Exit → Act → World → Prop) : o.wp C.P a w (PostOp C st o.dst K) Q := by
  unfold Oper.wp
  unfold opE at hx
  split at hx
  · rename_i t hop
    split at hx
    case h_2 => exact hx.elim
    rename_i cs hz
    simp only [Option.bind_eq_some_iff] at hz
    obtain ⟨z, hz, hcl⟩ := hz
    unfold tzero at hz
    simp only [Option.map_eq_some_iff, Option.bind_eq_some_iff] at hz
    obtain ⟨zv, ⟨inf, hi, hzv⟩, rfl⟩ := hz
    obtain ⟨hr, ho⟩ := cells_rep (w := w) (g := g) hcl (aOf_rep w g zv)
    refine newX_sound h hN hNL hx hr ho Q (t := t) ?_
    simp only [execOp, hop, Sem.run_bind, alloc_run hi hzv, Result.andThen_ok, Sem.run_pure]
  · rename_i t x hop
    split at hx
    case h_2 => exact hx.elim
    rename_i cs hz
    simp only [Option.bind_eq_some_iff] at hz
    obtain ⟨z, hz, hcl⟩ := hz
    obtain ⟨hr, ho⟩ := cells_rep hcl (h.evV (asV_eq hz))
    refine newX_sound h hN hNL hx hr ho Q (t := t) ?_
    simp [execOp, hop, Instr.box, newVar, newRow, newObj, Sem.run_bind, Sem.run]
  · rename_i t x v hop
    split at hx
    case h_2 => exact hx.elim
    rename_i vs hz
    simp only [Option.bind_eq_some_iff] at hz
    obtain ⟨z, hz, hcl⟩ := hz
    obtain ⟨h1, h2, h3⟩ := hx
    exact storeX_sound h h2 hop (asV_eq hz) hcl h1 h3 Q
  · rename_i t len parts hop
    split at hx
    case h_2 => exact hx.elim
    rename_i s by_ zc he
    split at hx
    case h_2 => exact hx.elim
    rename_i cs hf
    obtain ⟨h1, h2, h3, hk⟩ := hx
    exact buildSlice_sound h hN hop he hf h1 h2 h3 hk Q
  · rename_i t l c hop
    split at hx
    case h_2 => exact hx.elim
    rename_i s by_ zc k n k' m he hl hc
    obtain ⟨rfl, h1, h2, h3, h4, h5, hk⟩ := hx
    exact makeSlice_sound h hN hop he hl hc h1 h2 h3 h4 h5 hk Q
  · rename_i args ts hop
    split at hx
    case h_2 => exact hx.elim
    rename_i s x t tx ha ht
    split at hx
    case h_2 => exact hx.elim
    rename_i sz by_ zc ex he hex
    split at hx
    case h_2 => exact hx.elim
    rename_i n xs hs
    obtain ⟨h1, h2, h3, h4, h5⟩ := hx
    exact append_sound h hN hop ha ht he hex hs h1 h2 h3 h4 h5 Q
  · rename_i args ts hop
    split at hx
    case h_2 => exact hx.elim
    rename_i d x t tx ha ht
    split at hx
    case h_2 => exact hx.elim
    rename_i sz ex he hex
    split at hx
    case h_2 => exact hx.elim
    rename_i n xs hs
    exact copy_sound (ex := ex) h hN hop ha ht he hs hx.1 hx.2 Q
  · rename_i f args ts hop
    split at hx
    case h_2 => exact hx.elim
    rename_i id first caps vs hf ha
    obtain ⟨r, H', h1, h2, h3⟩ := hx
    exact call_sound h hN hop hf ha h1 h2 h3 Q
  · split at hx
    case h_2 => exact hx.elim
    rename_i c v hp
    obtain ⟨hc, hk⟩ := hx
    obtain ⟨x, w', h1, h2, h3, h4⟩ := pureV_sound h hp hc
    refine upon_value _ _ _ _ _ h1 ⟨_, hk, ?_⟩
    exact SRepG.fin (st := st) st.L st.H none rfl (h.still h2 h3) hN (fun _ => ERep.ext (Ext.heap g h2) h4)
end
end Go.Sx
