/- A part of the proofs of this seat: XR. No condition is set. -/
import Derived.Deep.Fields
import Derived.Deep.Slices
import Derived.Laws.LoneSync
import Derived.OpenShut
import Derived.ProofKit
import Derived.WideKeyArgs
import Derived.Test.YthjjpbcmimpjbaaXF
set_option linter.unusedVariables false
set_option linter.unusedSimpArgs false
namespace Go.Sx
open Go.ChangeShapes Go.WideShapes Go.ChangeAt Go.RowKit Go.Deep
/-! ### from a law's contract to the row -/
def g0 (W : World) : Gh := ⟨fun _ _ => none, fun b => b < W.heap.size⟩
theorem wrep0 (W : World) : WRep W (g0 W) [] := ⟨fun id cs h => by simp at h, fun id id' cs cs' b δ δ' h => by simp at h, fun b h => h, fun id gen b δ h => by simp [g0] at h, fun id gen p h => by simp [g0] at h⟩
structure Stays (W W' : World) : Prop where
  kept : W.keptBut W' (fun _ => False)
  fro : ∀ a : Addr, a.block < W.heap.size → W'.frozen? a = W.frozen? a
  heap : ∀ b, b < W.heap.size → W'.heap[b]? = W.heap[b]?
theorem law_run {P : Program} {f : Nat} {args : List AV} {cargs : Array Value} {W : World} (hs : Spec P f args [] (.bool true) []) (hl : LRep W (g0 W) args cargs.toList) :
    Calls P f cargs W fun e W' => e = .returned (.bool true) ∧ Stays W W' := by
  refine (hs W (g0 W) cargs (wrep0 W) hl).mono fun e W' h => ?_
  obtain ⟨v, g', h1, h2, h3, h4⟩ := h
  simp only [VRep] at h4
  subst h4
  have hb : ∀ b, b < W.heap.size → W'.heap[b]? = W.heap[b]? := fun b hb => h3.keep b hb (by rintro ⟨id, cs, δ, hc, _⟩; simp at hc)
  refine ⟨h1, ⟨h3.same.1, h3.same.2.1, fun i hi => ?_⟩, h3.fro, hb⟩
  rw [hb i hi]
  exact (World.keptBut_refl W (fun _ => False)).2.2 i hi

section
variable {H : Type} {enc : TypeId × Value → H} {P : Program} {W : World} {base : Nat}
theorem trod_flt {t : TypeId} {n : Nat} {v : Value} {spare : Nat → Bool} {held : Bool} {x : DataW H × List MemPlace} (ht : P.underlying t = some (.float .f64)) (h : DataW.trod enc P W base spare held n t [v] = some x) : ∃ b, v = .float .f64 b ∧ b < 2 ^ 64 := by
  cases n with
  | zero => simp [DataW.trod] at h
  | succ n =>
    unfold DataW.trod at h
    rw [ht] at h
    split at h <;> simp_all
    subst_vars
    obtain ⟨⟨_, h1⟩, _⟩ := h
    simpa [Lit.wf] using h1
/-- a list of floats that came in -/
theorem open_fl {t e : TypeId} {n : Nat} {X : Value} {x : DataW H × List MemPlace} (ht : P.underlying t = some (.slice e)) (he : P.underlying e = some (.float .f64)) (hc : P.cellsOf e = 1) (h : DataW.trod enc P W base (fun _ => true) true n t [X] = some x) :
    ∃ p l, l.length ≤ 9223372036854775807 ∧ VRep W (g0 W) (aD p l) X := by
  rcases open_slice1 ht hc h with ⟨h1, _⟩ | ⟨a, len, cap, m, k, V, D, Pl, h1, hb, hl, hm, hmm, _, hx⟩
  · simp only [List.cons.injEq, and_true] at h1
    subst h1
    exact ⟨(0, 0), [], by simp, by simp only [aD, if_true, VRep]; exact ⟨0, Nat.le_refl _, .inl (by simp [fl])⟩⟩
  · simp only [List.cons.injEq, and_true] at h1
    subst h1
    simp only [if_true] at hmm
    have hf : ∀ i, i < len → ∃ b, V i = .float .f64 b ∧ b < 2 ^ 64 := fun i hi => trod_flt he (hx i (by omega)).2
    have hbs : ∃ bs : Nat → Nat, ∀ i, i < len → V i = .float .f64 (bs i) ∧ bs i < 2 ^ 64 :=
      ⟨fun i => if h : i < len then (hf i h).choose else 0, fun i hi => by simp only [hi, dif_pos]; exact (hf i hi).choose_spec⟩
    obtain ⟨bs, hbs⟩ := hbs
    have hml : maxLen = 9223372036854775807 := by decide
    refine ⟨(a.block, a.off), (List.range len).map fun i => cn (bs i), by simp; omega, ?_⟩
    by_cases h0 : len = 0
    · subst h0
      simp only [aD, List.range_zero, List.map_nil, if_true, VRep, List.length_nil]
      exact ⟨cap, Nat.zero_le _, .inl (by simp [fl])⟩
    · have hc0 := (hx 0 (by omega)).1
      have ha0 : a.add 0 = a := by simp [Addr.add]
      rw [ha0] at hc0
      obtain ⟨_, _, hsh, _, hsp⟩ := World.shape?_of_cell? hc0
      have hae : a = ⟨a.block, a.off, none⟩ := by cases a; simp_all
      have hne : ¬ ((List.range len).map fun i => cn (bs i)) = [] := by simp; omega
      simp only [aD, if_neg hne, VRep, List.length_map, List.length_range]
      have hblk : a.block < W.heap.size := by
        unfold World.shape? at hsh
        cases hq : W.heap[a.block]? with
        | none => rw [hq] at hsh; simp at hsh
        | some o => exact (Array.getElem?_eq_some_iff.1 hq).1
      refine ⟨cap, hl, .inr ⟨a.block, a.off, by rw [← hae], .inr rfl, hblk, ?_⟩⟩
      rw [CRep_iff]
      intro i c hi
      have hil : i < len := by
        have := (List.getElem?_eq_some_iff.1 hi).1
        simpa [fl] using this
      have hci := (hx i (by omega)).1
      have had : a.add i = ⟨a.block, a.off + i, none⟩ := by
        rw [hae]; exact Addr.add_mid _ _ _
      rw [had] at hci
      refine ⟨V i, hci, ?_, ?_⟩
      · rw [(hbs i hil).1]; rfl
      · simp [fl, hil] at hi
        subst hi
        simp only [VRep]
        exact ⟨bs i, (hbs i hil).1, (hbs i hil).2, rfl⟩
theorem trod_i64 {t : TypeId} {n : Nat} {v : Value} {spare : Nat → Bool} {held : Bool} {x : DataW H × List MemPlace} (ht : P.underlying t = some (.int .i64)) (h : DataW.trod enc P W base spare held n t [v] = some x) : ∃ i, v = .int .i64 i ∧ -9223372036854775808 ≤ i ∧ i ≤ 9223372036854775807 := by
  obtain ⟨i, h1, _, h2⟩ := DataW.trod_int ht h
  simp only [List.cons.injEq, and_true] at h1
  simp only [Lit.wf, IntKind.min, IntKind.max, IntKind.signed, IntKind.bits] at h2
  simp at h2
  exact ⟨i, h1, by omega, by omega⟩
/-- a matrix that came in -/
theorem open_mat {t ts tf ti : TypeId} {fs : Array Field} {v : Value} {d : DataW H} {ps : List MemPlace} {r : Reach} {b0 : Nat} (hs : P.underlying t = some (.struct fs)) (hone : oneCellFields P fs = true) (hty : fs.toList.map (·.type) = [ts, ti, ti, ti, ti]) (hC : P.cellsOf t = 5)
    (hts : P.underlying ts = some (.slice tf)) (htf : P.underlying tf = some (.float .f64)) (hcf : P.cellsOf tf = 1) (hti : P.underlying ti = some (.int .i64))
    (hv : Value.okWide P W r b0 t v) (h : DataW.Trod enc P W base (fun _ => true) true t v d ps) :
    ∃ p l off rows cols ld, MI l.length off rows cols ld ∧ VRep W (g0 W) (mt (aD p l) off rows cols ld) v := by
  obtain ⟨cs, rfl, hsz⟩ := okWide_struct hs hv
  obtain ⟨fuel, hf⟩ := h
  obtain ⟨xs, n, _, _, hcl, hlen, hg⟩ := DataW.trod_struct hs hf
  have hfl : fs.size = 5 := by have := congrArg List.length hty; simpa using this
  have get : ∀ i (hi : i < 5), ∃ c y, cs[i]? = some c ∧ DataW.trod enc P W base (fun _ => true) true n ((fs[i]'(by omega)).type) [c] = some y := by
    intro i hi
    have hfi : fs[i]? = some (fs[i]'(by omega)) := Array.getElem?_eq_getElem (by omega)
    obtain ⟨h1, h2⟩ := hone_of hone i _ hfi
    have h3 := hg i _ hfi
    rw [h1, h2] at h3
    have hci : i < cs.size := by omega
    have hd : ((Value.agg cs).cells.toList.drop i).take 1 = [cs[i]] := by
      show (cs.toList.drop i).take 1 = _
      rw [List.drop_eq_getElem_cons (by simpa using hci)]
      simp
    have hxi : i < xs.length := by omega
    have h3' : DataW.trod enc P W base (fun _ => true) true n ((fs[i]'(by omega)).type) (((Value.agg cs).cells.toList.drop i).take 1) = xs[i]? := h3
    rw [hd, List.getElem?_eq_getElem hxi] at h3'
    exact ⟨cs[i], _, by simp [hci], h3'⟩
  have hti' : ∀ i (hi : i < 5), (fs[i]'(by omega)).type = [ts, ti, ti, ti, ti][i]'(by simpa using hi) := by
    intro i hi
    have := congrArg (·[i]?) hty
    simp only [List.getElem?_map, Array.getElem?_toList] at this
    rw [Array.getElem?_eq_getElem (by omega)] at this
    rw [List.getElem?_eq_getElem (by simpa using hi)] at this
    simpa using this
  obtain ⟨c0, y0, e0, t0⟩ := get 0 (by omega)
  obtain ⟨c1, y1, e1, t1⟩ := get 1 (by omega)
  obtain ⟨c2, y2, e2, t2⟩ := get 2 (by omega)
  obtain ⟨c3, y3, e3, t3⟩ := get 3 (by omega)
  obtain ⟨c4, y4, e4, t4⟩ := get 4 (by omega)
  rw [hti' 0 (by omega)] at t0
  rw [hti' 1 (by omega)] at t1
  rw [hti' 2 (by omega)] at t2
  rw [hti' 3 (by omega)] at t3
  rw [hti' 4 (by omega)] at t4
  simp only [List.getElem_cons_zero, List.getElem_cons_succ] at t0 t1 t2 t3 t4
  obtain ⟨p, l, hl, hD⟩ := open_fl hts htf hcf t0
  obtain ⟨i1, rfl, a1, b1⟩ := trod_i64 hti t1
  obtain ⟨i2, rfl, a2, b2⟩ := trod_i64 hti t2
  obtain ⟨i3, rfl, a3, b3⟩ := trod_i64 hti t3
  obtain ⟨i4, rfl, a4, b4⟩ := trod_i64 hti t4
  have hcs : cs.toList = [c0, .int .i64 i1, .int .i64 i2, .int .i64 i3, .int .i64 i4] := by
    apply List.ext_getElem?
    intro i
    match i with
    | 0 => simpa using e0
    | 1 => simpa using e1
    | 2 => simpa using e2
    | 3 => simpa using e3
    | 4 => simpa using e4
    | i + 5 => rw [List.getElem?_eq_none (by simp; omega), List.getElem?_eq_none (by simp)]
  refine ⟨p, l, i1, i2, i3, i4, ⟨hl, a1, b1, a2, b2, a3, b3, a4, b4⟩, ?_⟩
  have ho0 : c0.oneCell' = true := by
    simp only [aD, VRep] at hD
    obtain ⟨cap, _, ⟨_, _, _, ao, rfl⟩ | ⟨b, o, rfl, _⟩⟩ := hD <;> rfl
  simp only [mt, VRep]
  refine ⟨cs, rfl, ?_, ?_⟩
  · rw [hcs]; simp only [List.mem_cons, List.not_mem_nil, or_false]
    rintro x (rfl | rfl | rfl | rfl | rfl) <;> first | exact ho0 | rfl
  · rw [hcs]
    simp only [LRep]
    exact ⟨_, _, rfl, hD, _, _, rfl, by simp [VRep], _, _, rfl, by simp [VRep], _, _, rfl, by simp [VRep], _, _, rfl, by simp [VRep], rfl⟩

theorem open_i64 {t : TypeId} {v : Value} {d : DataW H} {ps : List MemPlace} {r : Reach} {b0 : Nat} (ht : P.underlying t = some (.int .i64)) (hv : Value.okWide P W r b0 t v) (h : DataW.Trod enc P W base (fun _ => true) true t v d ps) :
    ∃ i, VRep W (g0 W) (.int .i64 i) v ∧ -9223372036854775808 ≤ i ∧ i ≤ 9223372036854775807 := by
  obtain ⟨i, rfl, _, _, hw⟩ := open_int ht hv h
  simp only [Lit.wf, IntKind.min, IntKind.max, IntKind.signed, IntKind.bits] at hw
  simp at hw
  exact ⟨i, by simp [VRep], by omega, by omega⟩
theorem open_f64 {t : TypeId} {v : Value} {d : DataW H} {ps : List MemPlace} {r : Reach} {b0 : Nat} (ht : P.underlying t = some (.float .f64)) (hv : Value.okWide P W r b0 t v) (h : DataW.Trod enc P W base (fun _ => true) true t v d ps) :
    ∃ x, VRep W (g0 W) (.flt x) v := by
  obtain ⟨b, rfl, _, _, hw⟩ := open_float ht hv h
  simp only [Lit.wf, decide_eq_true_eq] at hw
  exact ⟨cn b, by simp only [VRep]; exact ⟨b, rfl, hw, rfl⟩⟩
theorem cells_slice {t e : TypeId} {v : Value} {r : Reach} {b0 : Nat} (ht : P.underlying t = some (.slice e)) (hv : Value.okWide P W r b0 t v) : v.cells.toList = [v] := by
  simp only [Value.okWide, ht, Cell.okWide] at hv
  cases v <;> simp_all [Value.cells, Cell.ok]
theorem open_fls {t e : TypeId} {v : Value} {d : DataW H} {ps : List MemPlace} {r : Reach} {b0 : Nat} (ht : P.underlying t = some (.slice e)) (he : P.underlying e = some (.float .f64)) (hc : P.cellsOf e = 1) (hv : Value.okWide P W r b0 t v) (h : DataW.Trod enc P W base (fun _ => true) true t v d ps) :
    ∃ p l, l.length ≤ 9223372036854775807 ∧ VRep W (g0 W) (aD p l) v := by
  obtain ⟨n, hn⟩ := h
  rw [cells_slice ht hv] at hn
  exact open_fl ht he hc hn

/-- nothing that was there has turned: an argument reads as it did -/
theorem stays_trod {t : TypeId} (hl : laidOutB P = true) (hr : P.readableRec t = true) (hrow : t < P.types.size) {W' : World} {sp : Nat → Bool} {v : Value} {d : DataW H} {ps : List MemPlace}
    (h : DataW.Trod enc P W 0 (fun _ => true) true t v d ps) (hst : Stays W W') (hlt : ∀ p ∈ ps, p.block < W.heap.size) (hsp : ∀ p ∈ ps, sp p.block = true) : DataW.Trod enc P W' 0 sp true t v d ps := by
  refine Go.WideElems.Trod_stays hl hr hrow h (fun p hp => ?_) hsp
  have := hst.heap p.block (hlt p hp)
  cases p with
  | cell b o => exact cell_eq this
  | map b => exact this
theorem stays_all (hl : laidOutB P = true) {W' : World} {sp : Nat → Bool} (hst : Stays W W') : ∀ {ts : List TypeId} {vs : List Value} {ds : List (DataW H)} {ps : List MemPlace}, (∀ t ∈ ts, P.readableRec t = true ∧ t < P.types.size) →
    DataW.TrodAll enc P W 0 (fun _ => true) true ts vs ds ps → (∀ p ∈ ps, p.block < W.heap.size) → (∀ p ∈ ps, sp p.block = true) → DataW.TrodAll enc P W' 0 sp true ts vs ds ps
  | [], [], [], ps, _, h, _, _ => h
  | [], [], _ :: _, _, _, h, _, _ => h.elim
  | [], _ :: _, _, _, _, h, _, _ => by simp [DataW.TrodAll] at h
  | _ :: _, [], _, _, _, h, _, _ => by simp [DataW.TrodAll] at h
  | _ :: _, _ :: _, [], _, _, h, _, _ => h.elim
  | t :: ts, v :: vs, d :: ds, ps, hts, ⟨p, q, h1, h2, h3⟩, hlt, hsp => by
    subst h3
    exact ⟨p, q, stays_trod hl (hts t (by simp)).1 (hts t (by simp)).2 h1 hst (fun x hx => hlt x (by simp [hx])) (fun x hx => hsp x (by simp [hx])),
      stays_all hl hst (fun t ht => hts t (by simp [ht])) h2 (fun x hx => hlt x (by simp [hx])) (fun x hx => hsp x (by simp [hx])), rfl⟩
/-- THE WORD OF A LAW's ROW: it returned true, and nothing that was there has turned -/
theorem law_post {f : Func} {s : ChangeSpec} {apart fresh handsOn again : Bool} {W' : World} {args : Array Value} {ds gs : List (DataW H)} {before : List MemPlace} {tb : TypeId}
    (hW : DataW.Whole enc P f.params.toList s.vars apart W args.toList ds gs before) (hv0 : s.vars = []) (hst : Stays W W') (hres : f.resultTypes = #[tb]) (htb : P.underlying tb = some .bool)
    (hspec : s.fn H (ds ++ gs) = { results := [.lit (.bool true)], args := ds }) (hl : laidOutB P = true) (hts : ∀ t ∈ f.params.toList, P.readableRec t = true ∧ t < P.types.size) :
    s.post enc P f apart fresh handsOn again W args (.bool true) W' := by
  have hlt := hW.lt
  have hW' := hW
  obtain ⟨p, q, h1, h2, h3, h4, h5⟩ := hW
  rw [hv0] at h2
  have hgq : gs = [] ∧ q = [] := by
    cases gs with
    | nil => exact ⟨rfl, by simpa [DataW.TrodVars] using h2⟩
    | cons g gs => simp [DataW.TrodVars] at h2
  obtain ⟨rfl, rfl⟩ := hgq
  rw [List.append_nil] at h3
  subst h3
  have hR : ∀ (b : Nat) (sp : Nat → Bool) (hd : Bool), DataW.TrodAll enc P W' b sp hd f.resultTypes.toList ((Value.bool true).resultList f.resultTypes.size) [.lit (.bool true)] [] := by
    intro b sp hd
    rw [hres]
    exact ⟨[], [], shut_bool htb true, rfl, rfl⟩
  have hA : ∀ sp : Nat → Bool, (∀ x ∈ before, sp x.block = true) → DataW.TrodAll enc P W' 0 sp true f.params.toList args.toList ds before := fun sp hsp => stays_all hl hst hts h1 hlt hsp
  have hV : ∀ sp : Nat → Bool, DataW.TrodVars enc P W' sp s.vars ([] : List (DataW H)) [] := fun sp => by rw [hv0]; rfl
  refine ⟨ds, [], before, [], before, [], hW', by rw [hspec]; exact hR _ _ _, by rw [hspec]; exact hA _ (fun x hx => by simpa using hlt x hx), by rw [hspec]; exact hV _, World.keptBut_mono (fun p h => h.elim) hst.kept, fun _ => ?_⟩
  refine ⟨ok_one hres rfl (okWide_bool_mk htb true), [.lit (.bool true)] ++ ds, [], [] ++ before, ⟨[] ++ before, [], trodAll_append (hA _ (fun _ _ => rfl)) (hR _ _ _), hV _, by simp, ?_, ?_⟩, ?_⟩
  · intro b off hp
    rw [hst.fro _ (hlt _ (by simpa using hp))]
    exact h4 b off (by simpa using hp)
  · intro ha; simpa using h5 ha
  · intro x hx _; simpa using hx
end
end Go.Sx

set_option linter.unusedVariables false
set_option linter.unusedSimpArgs false
namespace Go.Sx
open Go.ChangeShapes Go.WideShapes Go.ChangeAt Go.RowKit Go.Deep
/-! ### arguments of any shape that these laws have -/
def aI (p : Nat × Nat) (l : List Int) : AV := .sl (if l = [] then none else some p) l.length (il l)
theorem aI_IL (H : List (List AV)) (p : Nat × Nat) (l : List Int) : IL H (aI p l) l := IL.fz H _ l
inductive Shp where
  | flt
  | bool
  | int (k : IntKind)
  | fls
  | ils
  | st (l : List Shp)
mutual
/-- how many cells -/
def Shp.n : Shp → Nat
  | .st l => Shp.ns l
  | _ => 1
def Shp.ns : List Shp → Nat
  | [] => 0
  | s :: r => s.n + Shp.ns r
end
mutual
/-- the values that stand for what came in -/
def Shp.Dom : Shp → List AV → Prop
  | .flt, as => ∃ x, as = [.flt x]
  | .bool, as => ∃ b, as = [.bool b]
  | .int k, as => ∃ i, as = [.int k i] ∧ k.min ≤ i ∧ i ≤ k.max
  | .fls, as => ∃ p l, as = [aD p l] ∧ l.length ≤ 9223372036854775807
  | .ils, as => ∃ p l, as = [aI p l] ∧ l.length ≤ 9223372036854775807 ∧ ∀ x ∈ l, -9223372036854775808 ≤ x ∧ x ≤ 9223372036854775807
  | .st l, as => Shp.Doms l as
def Shp.Doms : List Shp → List AV → Prop
  | [], as => as = []
  | s :: r, as => ∃ a b, as = a ++ b ∧ s.Dom a ∧ Shp.Doms r b
end
/-- does a type have a shape? -/
def isTy (P : Program) (t : TypeId) (d : TypeDesc) : Bool :=
  match P.underlying t, d with
  | some (.float .f64), .float .f64 => true
  | some .bool, .bool => true
  | some (.int k), .int k' => decide (k = k')
  | _, _ => false
mutual
def Shp.ok (P : Program) : Nat → Shp → TypeId → Bool
  | 0, _, _ => false
  | d + 1, s, t =>
    match s, P.underlying t with
    | .flt, some (.float .f64) => P.cellsOf t == 1
    | .bool, some .bool => P.cellsOf t == 1
    | .int k, some (.int k') => decide (k = k') && P.cellsOf t == 1
    | .fls, some (.slice e) => isTy P e (.float .f64) && P.cellsOf e == 1 && P.cellsOf t == 1
    | .ils, some (.slice e) => isTy P e (.int .i64) && P.cellsOf e == 1 && P.cellsOf t == 1
    | .st l, some (.struct fs) => P.cellsOf t == Shp.ns l && Shp.oks P d l fs.toList 0
    | _, _ => false
def Shp.oks (P : Program) : Nat → List Shp → List Field → Nat → Bool
  | 0, _, _, _ => false
  | _ + 1, [], [], _ => true
  | d + 1, s :: r, f :: fs, o => f.offset == o && P.cellsOf f.type == s.n && Shp.ok P d s f.type && Shp.oks P d r fs (o + s.n)
  | _, _, _, _ => false
end

section
variable {H : Type} {enc : TypeId × Value → H} {P : Program} {W : World} {base : Nat}
theorem open_il {t e : TypeId} {n : Nat} {X : Value} {x : DataW H × List MemPlace} (ht : P.underlying t = some (.slice e)) (he : P.underlying e = some (.int .i64)) (hc : P.cellsOf e = 1) (h : DataW.trod enc P W base (fun _ => true) true n t [X] = some x) :
    ∃ p l, (l.length ≤ 9223372036854775807 ∧ ∀ x ∈ l, -9223372036854775808 ≤ x ∧ x ≤ 9223372036854775807) ∧ VRep W (g0 W) (aI p l) X := by
  rcases open_slice1 ht hc h with ⟨h1, _⟩ | ⟨a, len, cap, m, k, V, D, Pl, h1, hb, hl, hm, hmm, _, hx⟩
  · simp only [List.cons.injEq, and_true] at h1
    subst h1
    exact ⟨(0, 0), [], by simp, by simp only [aI, if_true, VRep]; exact ⟨0, Nat.le_refl _, .inl (by simp [il])⟩⟩
  · simp only [List.cons.injEq, and_true] at h1
    subst h1
    simp only [if_true] at hmm
    have hf : ∀ i, i < len → ∃ b, V i = .int .i64 b ∧ -9223372036854775808 ≤ b ∧ b ≤ 9223372036854775807 := fun i hi => trod_i64 he (hx i (by omega)).2
    have hbs : ∃ bs : Nat → Int, ∀ i, i < len → V i = .int .i64 (bs i) ∧ -9223372036854775808 ≤ bs i ∧ bs i ≤ 9223372036854775807 :=
      ⟨fun i => if h : i < len then (hf i h).choose else 0, fun i hi => by simp only [hi, dif_pos]; exact (hf i hi).choose_spec⟩
    obtain ⟨bs, hbs⟩ := hbs
    have hml : maxLen = 9223372036854775807 := by decide
    refine ⟨(a.block, a.off), (List.range len).map fun i => bs i, ⟨by simp; omega, ?_⟩, ?_⟩
    · intro x hxm
      simp only [List.mem_map, List.mem_range] at hxm
      obtain ⟨i, hi, rfl⟩ := hxm
      exact (hbs i hi).2
    by_cases h0 : len = 0
    · subst h0
      simp only [aI, List.range_zero, List.map_nil, if_true, VRep, List.length_nil]
      exact ⟨cap, Nat.zero_le _, .inl (by simp [il])⟩
    · have hc0 := (hx 0 (by omega)).1
      have ha0 : a.add 0 = a := by simp [Addr.add]
      rw [ha0] at hc0
      obtain ⟨_, _, hsh, _, hsp⟩ := World.shape?_of_cell? hc0
      have hae : a = ⟨a.block, a.off, none⟩ := by cases a; simp_all
      have hne : ¬ ((List.range len).map fun i => bs i) = [] := by simp; omega
      simp only [aI, if_neg hne, VRep, List.length_map, List.length_range]
      have hblk : a.block < W.heap.size := by
        unfold World.shape? at hsh
        cases hq : W.heap[a.block]? with
        | none => rw [hq] at hsh; simp at hsh
        | some o => exact (Array.getElem?_eq_some_iff.1 hq).1
      refine ⟨cap, hl, .inr ⟨a.block, a.off, by rw [← hae], .inr rfl, hblk, ?_⟩⟩
      rw [CRep_iff]
      intro i c hi
      have hil : i < len := by
        have := (List.getElem?_eq_some_iff.1 hi).1
        simpa [il] using this
      have hci := (hx i (by omega)).1
      have hadd : a.add i = ⟨a.block, a.off + i, none⟩ := by rw [hae]; simp [Addr.add]
      rw [hadd] at hci
      refine ⟨V i, hci, ?_, ?_⟩
      · rw [(hbs i hil).1]; rfl
      · simp [il, hil] at hi
        subst hi
        simp only [VRep]
        exact (hbs i hil).1
theorem one_of {cells : List Value} (h : cells.length = 1) : ∃ v, cells = [v] := by
  match cells, h with
  | [v], _ => exact ⟨v, rfl⟩
theorem isTy_flt {e : TypeId} (h : isTy P e (.float .f64) = true) : P.underlying e = some (.float .f64) := by
  unfold isTy at h
  split at h <;> simp_all
theorem isTy_int {e : TypeId} (h : isTy P e (.int .i64) = true) : P.underlying e = some (.int .i64) := by
  unfold isTy at h
  split at h <;> simp_all
def oneAll (cells : List Value) : Prop := ∀ x ∈ cells, x.oneCell' = true
theorem aD_one {p : Nat × Nat} {l : List Nat} {v : Value} (h : VRep W (g0 W) (aD p l) v) : v.oneCell' = true := by
  simp only [aD, VRep] at h
  obtain ⟨cap, _, ⟨_, _, _, ao, rfl⟩ | ⟨b, o, rfl, _⟩⟩ := h <;> rfl
theorem aI_one {p : Nat × Nat} {l : List Int} {v : Value} (h : VRep W (g0 W) (aI p l) v) : v.oneCell' = true := by
  simp only [aI, VRep] at h
  obtain ⟨cap, _, ⟨_, _, _, ao, rfl⟩ | ⟨b, o, rfl, _⟩⟩ := h <;> rfl
mutual
theorem Shp.opens : ∀ (d : Nat) (s : Shp) (t : TypeId) (n : Nat) (cells : List Value) (x : DataW H × List MemPlace), Shp.ok P d s t = true → DataW.trod enc P W base (fun _ => true) true n t cells = some x → cells.length = s.n →
    ∃ as, s.Dom as ∧ LRep W (g0 W) as cells ∧ oneAll cells
  | 0, s, t, n, cells, x, h, _, _ => by simp [Shp.ok] at h
  | d + 1, s, t, n, cells, x, h, ht, hl => by
    unfold Shp.ok at h
    split at h
    · rename_i hu
      obtain ⟨v, rfl⟩ := one_of hl
      obtain ⟨b, rfl, hb⟩ := trod_flt hu ht
      exact ⟨[.flt (cn b)], ⟨_, rfl⟩, by simp only [LRep]; exact ⟨_, _, rfl, by simp only [VRep]; exact ⟨b, rfl, hb, rfl⟩, rfl⟩, by intro x hx; simp at hx; subst hx; rfl⟩
    · rename_i hu
      obtain ⟨b, h1, _⟩ := DataW.trod_bool hu ht
      subst h1
      exact ⟨[.bool b], ⟨_, rfl⟩, by simp only [LRep]; exact ⟨_, _, rfl, by simp [VRep], rfl⟩, by intro x hx; simp at hx; subst hx; rfl⟩
    · rename_i k k' hu
      simp only [Bool.and_eq_true, decide_eq_true_eq] at h
      obtain ⟨rfl, _⟩ := h
      obtain ⟨i, h1, _, h2⟩ := DataW.trod_int hu ht
      subst h1
      simp only [Lit.wf, Bool.and_eq_true, decide_eq_true_eq] at h2
      exact ⟨[.int k i], ⟨_, rfl, h2.1, h2.2⟩, by simp only [LRep]; exact ⟨_, _, rfl, by simp [VRep], rfl⟩, by intro x hx; simp at hx; subst hx; rfl⟩
    · rename_i e hu
      simp only [Bool.and_eq_true, beq_iff_eq] at h
      obtain ⟨v, rfl⟩ := one_of hl
      obtain ⟨p, l, h1, h2⟩ := open_fl hu (isTy_flt h.1.1) h.1.2 ht
      exact ⟨[aD p l], ⟨_, _, rfl, h1⟩, by simp only [LRep]; exact ⟨_, _, rfl, h2, rfl⟩, by intro x hx; simp at hx; subst hx; exact aD_one h2⟩
    · rename_i e hu
      simp only [Bool.and_eq_true, beq_iff_eq] at h
      obtain ⟨v, rfl⟩ := one_of hl
      obtain ⟨p, l, h1, h2⟩ := open_il hu (isTy_int h.1.1) h.1.2 ht
      exact ⟨[aI p l], ⟨_, _, rfl, h1⟩, by simp only [LRep]; exact ⟨_, _, rfl, h2, rfl⟩, by intro x hx; simp at hx; subst hx; exact aI_one h2⟩
    · rename_i l fs hu
      simp only [Bool.and_eq_true, beq_iff_eq] at h
      obtain ⟨xs, m, _, _, hcl, hlen, hg⟩ := DataW.trod_struct hu ht
      have := Shp.openss d l fs.toList 0 m cells h.2 (fun i f hi => ?_) (by rw [hcl, h.1, Nat.zero_add])
      · simpa [Shp.Dom] using this
      · have hi' : fs[i]? = some f := by simpa using hi
        have h3 := hg i f hi'
        have hlt : i < xs.length := by rw [hlen]; exact (Array.getElem?_eq_some_iff.1 hi').1
        exact ⟨xs[i], by rw [h3]; simp [hlt]⟩
    · cases h
theorem Shp.openss : ∀ (d : Nat) (l : List Shp) (fs : List Field) (o : Nat) (m : Nat) (cells : List Value), Shp.oks P d l fs o = true →
    (∀ (i : Nat) (f : Field), fs[i]? = some f → ∃ y, DataW.trod enc P W base (fun _ => true) true m f.type ((cells.drop f.offset).take (P.cellsOf f.type)) = some y) → cells.length = o + Shp.ns l →
    ∃ as, Shp.Doms l as ∧ LRep W (g0 W) as (cells.drop o) ∧ oneAll (cells.drop o)
  | 0, _, _, _, _, _, h, _, _ => by simp [Shp.oks] at h
  | d + 1, [], [], o, m, cells, h, _, hl => by
    have : cells.drop o = [] := by rw [List.drop_eq_nil_iff]; simp [Shp.ns] at hl; omega
    exact ⟨[], by simp [Shp.Doms], by rw [this]; simp [LRep], by rw [this]; intro x hx; simp at hx⟩
  | d + 1, s :: r, f :: fs, o, m, cells, h, hg, hl => by
    simp only [Shp.oks, Bool.and_eq_true, beq_iff_eq] at h
    obtain ⟨⟨⟨h1, h2⟩, h3⟩, h4⟩ := h
    simp only [Shp.ns] at hl
    obtain ⟨y, hy⟩ := hg 0 f (by simp)
    rw [h1, h2] at hy
    obtain ⟨a, ha1, ha2, ha3⟩ := Shp.opens d s f.type m _ y h3 hy (by rw [List.length_take, List.length_drop]; omega)
    obtain ⟨b, hb1, hb2, hb3⟩ := Shp.openss d r fs (o + s.n) m cells h4 (fun i f' hi => hg (i + 1) f' (by simpa using hi)) (by omega)
    have e : cells.drop o = (cells.drop o).take s.n ++ cells.drop (o + s.n) := by
      rw [← List.drop_drop, List.take_append_drop]
    refine ⟨a ++ b, ?_, ?_, ?_⟩
    · simp only [Shp.Doms]; exact ⟨a, b, rfl, ha1, hb1⟩
    · rw [e]; exact LRep_append ha2 hb2
    · rw [e]; intro x hx
      rcases List.mem_append.1 hx with hx | hx
      · exact ha3 x hx
      · exact hb3 x hx
  | d + 1, [], _ :: _, o, m, cells, h, _, _ => by simp [Shp.oks] at h
  | d + 1, _ :: _, [], o, m, cells, h, _, _ => by simp [Shp.oks] at h
end
/-- a struct that came in -/
theorem open_st {t : TypeId} {l : List Shp} {v : Value} {d : DataW H} {ps : List MemPlace} {r : Reach} {b0 : Nat} {fs : Array Field} (hs : P.underlying t = some (.struct fs)) (hok : Shp.ok P 40 (.st l) t = true)
    (hv : Value.okWide P W r b0 t v) (h : DataW.Trod enc P W base (fun _ => true) true t v d ps) : ∃ as, Shp.Doms l as ∧ VRep W (g0 W) (.agg as) v := by
  obtain ⟨cs, rfl, hsz⟩ := okWide_struct hs hv
  obtain ⟨fuel, hf⟩ := h
  have hn : cs.toList.length = (Shp.st l).n := by
    simp only [Shp.ok, hs, Bool.and_eq_true, beq_iff_eq] at hok
    simp only [Shp.n]
    rw [← hok.1, ← hsz]; simp
  obtain ⟨as, h1, h2, h3⟩ := Shp.opens 40 (.st l) t fuel cs.toList _ hok hf hn
  exact ⟨as, by simpa [Shp.Dom] using h1, by simp only [VRep]; exact ⟨cs, rfl, h3, h2⟩⟩
def i64S : Shp := .int .i64
theorem i64_min : IntKind.i64.min = -9223372036854775808 := by decide
theorem i64_max : IntKind.i64.max = 9223372036854775807 := by decide
def facS : List Shp := [.st [.fls, i64S, i64S, i64S, i64S], .ils]
def vecS : List Shp := [.fls, i64S, i64S, i64S]
def optS : List Shp := [i64S, .bool, .bool, i64S]
theorem dom_fac {as : List AV} (h : Shp.Doms facS as) : ∃ p l off rows cols ld q m, MI l.length off rows cols ld ∧ m.length ≤ 9223372036854775807 ∧ (∀ x ∈ m, -9223372036854775808 ≤ x ∧ x ≤ 9223372036854775807) ∧ as = [aD p l, .int .i64 off, .int .i64 rows, .int .i64 cols, .int .i64 ld, aI q m] := by
  simp only [facS, i64S, Shp.Doms, Shp.Dom, i64_min, i64_max] at h
  obtain ⟨a, b, rfl, ⟨a1, b1, rfl, ⟨p, l, rfl, hl⟩, a2, b2, rfl, ⟨off, rfl, h1, h2⟩, a3, b3, rfl, ⟨rows, rfl, h3, h4⟩, a4, b4, rfl, ⟨cols, rfl, h5, h6⟩, a5, b5, rfl, ⟨ld, rfl, h7, h8⟩, rfl⟩, a6, b6, rfl, ⟨q, m, rfl, hm, hx⟩, rfl⟩ := h
  exact ⟨p, l, off, rows, cols, ld, q, m, ⟨hl, h1, h2, h3, h4, h5, h6, h7, h8⟩, hm, hx, rfl⟩
theorem dom_vec {as : List AV} (h : Shp.Doms vecS as) : ∃ p l off n inc, VI l.length off n inc ∧ as = [aD p l, .int .i64 off, .int .i64 n, .int .i64 inc] := by
  simp only [vecS, i64S, Shp.Doms, Shp.Dom, i64_min, i64_max] at h
  obtain ⟨a1, b1, rfl, ⟨p, l, rfl, hl⟩, a2, b2, rfl, ⟨off, rfl, h1, h2⟩, a3, b3, rfl, ⟨n, rfl, h3, h4⟩, a4, b4, rfl, ⟨inc, rfl, h5, h6⟩, rfl⟩ := h
  exact ⟨p, l, off, n, inc, ⟨hl, h1, h2, h3, h4, h5, h6⟩, rfl⟩
theorem dom_opt {as : List AV} (h : Shp.Doms optS as) : ∃ i b c j, (-9223372036854775808 ≤ i ∧ i ≤ 9223372036854775807) ∧ (-9223372036854775808 ≤ j ∧ j ≤ 9223372036854775807) ∧ as = [.int .i64 i, .bool b, .bool c, .int .i64 j] := by
  simp only [optS, i64S, Shp.Doms, Shp.Dom, i64_min, i64_max] at h
  obtain ⟨a1, b1, rfl, ⟨i, rfl, h1, h2⟩, a2, b2, rfl, ⟨b, rfl⟩, a3, b3, rfl, ⟨c, rfl⟩, a4, b4, rfl, ⟨j, rfl, h5, h6⟩, rfl⟩ := h
  exact ⟨i, b, c, j, ⟨h1, h2⟩, ⟨h5, h6⟩, rfl⟩
/-- .. a list of whole numbers, a truth value, a whole number of any kind -/
theorem open_ils {t e : TypeId} {v : Value} {d : DataW H} {ps : List MemPlace} {r : Reach} {b0 : Nat} (ht : P.underlying t = some (.slice e)) (he : P.underlying e = some (.int .i64)) (hc : P.cellsOf e = 1) (hv : Value.okWide P W r b0 t v) (h : DataW.Trod enc P W base (fun _ => true) true t v d ps) :
    ∃ p l, (l.length ≤ 9223372036854775807 ∧ ∀ x ∈ l, -9223372036854775808 ≤ x ∧ x ≤ 9223372036854775807) ∧ VRep W (g0 W) (aI p l) v := by
  obtain ⟨n, hn⟩ := h
  rw [cells_slice ht hv] at hn
  exact open_il ht he hc hn
theorem open_intk {t : TypeId} {k : IntKind} {v : Value} {d : DataW H} {ps : List MemPlace} {r : Reach} {b0 : Nat} (ht : P.underlying t = some (.int k)) (hv : Value.okWide P W r b0 t v) (h : DataW.Trod enc P W base (fun _ => true) true t v d ps) :
    ∃ i, VRep W (g0 W) (.int k i) v ∧ k.min ≤ i ∧ i ≤ k.max := by
  obtain ⟨i, rfl, _, _, hw⟩ := open_int ht hv h
  simp only [Lit.wf, Bool.and_eq_true, decide_eq_true_eq] at hw
  exact ⟨i, by simp [VRep], hw.1, hw.2⟩
theorem open_bl {t : TypeId} {v : Value} {d : DataW H} {ps : List MemPlace} {r : Reach} {b0 : Nat} (ht : P.underlying t = some .bool) (hv : Value.okWide P W r b0 t v) (h : DataW.Trod enc P W base (fun _ => true) true t v d ps) :
    ∃ b, VRep W (g0 W) (.bool b) v := by
  obtain ⟨n, hn⟩ := h
  obtain ⟨b, h1, _⟩ := DataW.trod_bool ht hn
  have : v = .bool b := by
    simp only [Value.okWide, ht, Cell.okWide] at hv
    cases v <;> simp_all [Value.cells, Cell.ok]
  subst this
  exact ⟨b, by simp [VRep]⟩
end
end Go.Sx
