/- A part of the proofs of this seat: YC. No condition is set. -/
import Derived.OrdersHeld
import Derived.Test.YtdlgclpoomlijaaYB
set_option linter.unusedVariables false
set_option linter.unusedSimpArgs false
namespace Go.Sx

/-! ### regions that draw their order: all orders at once -/
def zjt (P : Program) (cfg : Cfg) (ops : Array Oper) (o : Oper) (K : St → Prop) (st : St) : Prop :=
  match o.guard with
  | none => opX P cfg o K st
  | some (j, want) =>
    match (ops[j]?).bind (·.dst) with
    | none => False
    | some t =>
      match (st.ev (.tmp t)).asB with
      | none => if (st.ev (.tmp t)).isU then K (st.put o.dst (.val (.tup []))) else False
      | some b => if b = want then opX P cfg o K st else K (st.put o.dst (.val (.tup [])))

def zdd (ch : List Nat) (listed : Array Bool) : Bool := ch.all fun m => !listed.getD m false
structure NY where
  ks : List Nat
  W : Nat → Bool := fun _ => false
  kw : List (Nat × List Nat) := []
def NY.stays (nY : NY) (listed : Array Bool) (k : Nat) : Prop := k ∉ nY.ks ∨ ∃ l, lk nY.kw k = some l ∧ zdd l listed = true
def RR (nY : NY) (ch : List Nat) (listed : Array Bool) (s t : St) : Prop :=
  (∀ k, nY.stays listed k → lk t.L k = lk s.L k) ∧ (∀ id, (zdd ch listed = true ∨ nY.W id = true) → id < s.H.length → t.H[id]? = s.H[id]?)

theorem RR.refl {nY : NY} {ch : List Nat} {listed : Array Bool} (s : St) : RR nY ch listed s s := ⟨fun _ _ => rfl, fun _ _ _ => rfl⟩
theorem RR.trans {nY : NY} {ch : List Nat} {l1 l2 : Array Bool} {s t u : St} (h1 : RR nY ch l1 s t) (h2 : RR nY ch l2 t u) (hq : ∀ l, zdd l l2 = true → zdd l l1 = true) : RR nY ch l2 s u :=
  ⟨fun k hk => (h2.1 k hk).trans (h1.1 k (hk.imp (fun h => h) fun ⟨l, h1, h2⟩ => ⟨l, h1, hq l h2⟩)), fun id q hid => by
    have h3 := h1.2 id (q.imp (hq ch) (fun h => h)) hid
    have : id < t.H.length := by
      have hs : s.H[id]? = some s.H[id] := List.getElem?_eq_getElem hid
      rw [hs] at h3; exact (List.getElem?_eq_some_iff.1 h3).1
    exact (h2.2 id q this).trans h3⟩

def zkd (P : Program) (cfg : Cfg) (ops : Array Oper) (nY : NY) (ch : List Nat) (K : St → Prop) : Nat → Array Bool → St → Prop
  | 0, listed, st => Region.ready .any ops listed = [] ∧ K st
  | n + 1, listed, st => (Region.ready .any ops listed = [] → K st) ∧ ∀ i ∈ Region.ready .any ops listed, ∀ o, ops[i]? = some o →
      zjt P cfg ops o (fun s => RR nY ch (listed.setIfInBounds i true) st s ∧ zkd P cfg ops nY ch K n (listed.setIfInBounds i true) s) st

section
variable {C : Cx} {ops : Array Oper} {Q : Exit → Act → World → Prop}

theorem zq2 {o : Oper} {K : St → Prop} {K' : Act → World → Prop} {st : St} {a : Act} {w : World} (hN : ∀ d, o.dst = some d → d < C.N) (hx : zjt C.P C.cfg ops o K st) (hs : zge C st a w)
    (hK : ∀ s a w, K s → zge C s a w → K' a w) : if Region.wanted o (yielded ops a.tmps) then o.wp C.P a w K' Q ∨ (o.asks C.P a w ∧ LetsOut Q) else K' (a.put o.dst undef) w := by
  obtain ⟨g, lam, hs⟩ := hs
  have one : opX C.P C.cfg o K st → o.wp C.P a w K' Q := by
    intro hx
    have := znh hs hN (fun d hd => zg3 hd) hx Q
    unfold Oper.wp at this ⊢
    revert this
    unfold Oper.upon
    split <;> first
      | exact fun h => h
      | (rintro ⟨e, h1, h2⟩; exact hK _ _ _ h1 h2)
      | (intro h; refine h.mono fun e w' he => ?_
         cases e with
         | returned v => obtain ⟨e, h1, h2⟩ := he; exact hK _ _ _ h1 h2
         | panicked c => exact he
         | outgrown => exact he)
      | (intro h; refine h.mono fun v w' he => ?_
         obtain ⟨e, h1, h2⟩ := he; exact hK _ _ _ h1 h2)
  unfold zjt at hx
  split at hx
  · rename_i hg
    have hw : Region.wanted o (yielded ops a.tmps) = true := by simp [Region.wanted, hg]
    simp only [hw, if_true]
    exact .inl (one hx)
  · rename_i j want hg
    split at hx
    · exact hx.elim
    rename_i t ht
    split at hx
    · split at hx
      · rename_i hu
        have hy : yielded ops a.tmps j = none := by
          have hq := zql hu
          unfold yielded
          rw [ht]
          simp only [St.ev] at hq
          cases hl' : lk st.env t with
          | none => simp [hl'] at hq
          | some e =>
            simp [hl'] at hq; subst hq
            obtain ⟨x, h1, h2⟩ := hs.env t _ hl'
            simp only [zc8, zaj] at h2
            obtain ⟨vs, rfl, _⟩ := h2
            simp [h1]
        have hw : Region.wanted o (yielded ops a.tmps) = false := by simp [Region.wanted, hg, hy]
        simp only [hw, Bool.false_eq_true, if_false]
        refine hK _ _ _ hx ⟨g, lam, ?_⟩
        cases hd : o.dst with
        | none => exact hs
        | some d => exact hs.put (hN d hd) z1p
      · exact hx.elim
    rename_i b hb
    have hy : yielded ops a.tmps j = some b := by
      have := hs.evB hb
      unfold yielded
      rw [ht]
      have hq := zif hb
      simp only [St.ev] at hq
      cases hl' : lk st.env t with
      | none => simp [hl'] at hq
      | some e =>
        simp [hl'] at hq; subst hq
        obtain ⟨x, h1, h2⟩ := hs.env t _ hl'
        simp only [zc8, zaj] at h2; subst h2
        simp [h1]
    split at hx
    · rename_i hbw
      subst hbw
      have hw : Region.wanted o (yielded ops a.tmps) = true := by simp [Region.wanted, hg, hy]
      simp only [hw, if_true]
      exact .inl (one hx)
    · rename_i hbw
      have hw : Region.wanted o (yielded ops a.tmps) = false := by
        simp only [Region.wanted, hg, hy]; cases b <;> cases want <;> simp_all
      simp only [hw, Bool.false_eq_true, if_false]
      refine hK _ _ _ hx ⟨g, lam, ?_⟩
      cases hd : o.dst with
      | none => exact hs
      | some d => exact hs.put (hN d hd) z1p

theorem zie {nY : NY} {ch : List Nat} {K : St → Prop} (hN : ∀ o ∈ ops.toList, ∀ d, o.dst = some d → d < C.N) (hK : ∀ s a w, K s → zge C s a w → Q .normal a w) :
    ∀ (n : Nat) (listed : Array Bool) (st : St) (a : Act) (w : World), zkd C.P C.cfg ops nY ch K n listed st → zge C st a w → wpAny C.P .any ops Q n listed a w
  | 0, listed, st, a, w, h, hs => ⟨h.1, hK _ _ _ h.2 hs⟩
  | n + 1, listed, st, a, w, h, hs => by
    refine ⟨fun h0 => hK _ _ _ (h.1 h0) hs, fun i hi => ?_⟩
    obtain ⟨_, o, ho, _⟩ := mem_ready.1 hi
    unfold wpOp
    simp only [ho]
    exact zq2 (fun d hd => hN o (by rw [Array.mem_toList_iff]; exact Array.mem_of_getElem? ho) d hd) (h.2 i hi o ho) hs fun s a w h1 h2 => zie hN hK n _ s a w h1.2 h2
end

/-! what an operation leaves of the rest -/
theorem zbl {st : St} {d : Option Tmp} {v : EV} {t : Nat} (h : d ≠ some t) : lk (st.put d v).env t = lk st.env t := by
  cases d with
  | none => rfl
  | some d =>
    have : d ≠ t := fun hh => h (by rw [hh])
    simp [St.put, lk, this]
theorem zc5 {st : St} {d : Option Tmp} {e : Eff} {t : Nat} (h : d ≠ some t) : lk (st.app d e).env t = lk st.env t := by
  cases d with
  | none => rfl
  | some d =>
    have : d ≠ t := fun hh => h (by rw [hh])
    cases hv : e.v <;> simp [St.app, hv, lk, this]
theorem zfv {s st : St} {t : Nat} (h : lk s.env t = lk st.env t) : s.ev (.tmp t) = st.ev (.tmp t) := by simp only [St.ev, h]
theorem zrh {st : St} {d : Option Tmp} {v : EV} : (st.put d v).L = st.L := by cases d <;> rfl
theorem zrg {st : St} {d : Option Tmp} {v : EV} : (st.put d v).H = st.H := by cases d <;> rfl

theorem zx0 {st : St} {di dj : Option Tmp} {v : EV} {e : Eff} (h : ∀ d, di = some d → dj ≠ some d) : Eqv ((st.put di v).app dj e) ((st.app dj e).put di v) := by
  refine ⟨fun k => ?_, fun k => ?_, ?_⟩
  · by_cases hi : di = some k
    · subst hi
      rw [zc5 (h k rfl)]
      simp [St.put, lk]
    · rw [zbl hi]
      cases dj with
      | none => show lk (st.put di v).env k = lk st.env k; rw [zbl hi]
      | some d =>
        have : lk (st.put di v).env k = lk st.env k := zbl hi
        cases hv : e.v <;> (simp only [St.app, hv, lk]; rw [this])
  · cases di <;> rfl
  · cases di <;> rfl
theorem zx1 {st : St} {di dj : Option Tmp} {v u : EV} (h : ∀ d, di = some d → dj ≠ some d) : Eqv ((st.put di v).put dj u) ((st.put dj u).put di v) := by
  refine ⟨fun k => ?_, fun k => by simp [zrh], by simp [zrg]⟩
  by_cases hi : di = some k
  · rw [zbl (h k hi)]; subst hi; simp [St.put, lk]
  · rw [zbl hi]
    cases dj with
    | none => show lk (st.put di v).env k = lk st.env k; rw [zbl hi]
    | some d =>
      have : lk (st.put di v).env k = lk st.env k := zbl hi
      simp only [St.put, lk]
      split
      · rfl
      · exact this

def St.putB (s : St) (d : Option Tmp) (v : EV) (l : Option (Nat × List AV)) : St := s.app d ⟨some v, l, s.H⟩
theorem zbt (s : St) (d : Option Tmp) (v : EV) : s.putB d v none = s.put d v := by cases d <;> rfl
theorem znl {s : St} {d : Option Tmp} {v : EV} {l : Option (Nat × List AV)} : (s.putB d v l).H = s.H := rfl
theorem z2c {s t : St} {d : Option Tmp} {v : EV} {l : Option (Nat × List AV)} (h : Eqv s t) : Eqv (s.putB d v l) (t.putB d v l) := by
  refine ⟨fun k => ?_, fun k => ?_, h.H⟩
  · cases d with
    | none => exact h.env k
    | some d => simp only [St.putB, St.app, lk]; rw [h.env]
  · cases l with
    | none => exact h.L k
    | some x => obtain ⟨k', cs⟩ := x; simp only [St.putB, St.app, lk]; rw [h.L]
theorem zgr {st : St} {di dj : Option Tmp} {v : EV} {l : Option (Nat × List AV)} {e : Eff} (h : ∀ d, di = some d → dj ≠ some d) (hl : ∀ p q, l = some p → e.l = some q → p.1 ≠ q.1) : Eqv ((st.putB di v l).app dj e) ((st.app dj e).putB di v l) := by
  refine ⟨fun k => ?_, fun k => ?_, rfl⟩
  · by_cases hi : di = some k
    · subst hi
      rw [zc5 (h k rfl)]
      simp [St.putB, St.app, lk]
    · have h1 : lk ((st.app dj e).putB di v l).env k = lk (st.app dj e).env k := zc5 hi
      have h2 : lk (st.putB di v l).env k = lk st.env k := zc5 hi
      rw [h1]
      cases dj with
      | none => exact h2
      | some d => cases hv : e.v <;> (simp only [St.app, hv, lk]; rw [show lk (St.putB st di v l).env k = lk st.env k from h2])
  · cases hle : e.l with
    | none => cases l <;> simp [St.putB, St.app, hle]
    | some q =>
      cases l with
      | none => simp [St.putB, St.app, hle]
      | some p =>
        have := hl p q rfl hle
        obtain ⟨k1, c1⟩ := p
        obtain ⟨k2, c2⟩ := q
        simp only [St.putB, St.app, hle, lk]
        by_cases h1 : k1 = k
        · have : k2 ≠ k := fun hh => this (by rw [h1, hh])
          simp [h1, this]
        · simp [h1]
theorem zgs {st : St} {di dj : Option Tmp} {v u : EV} {l : Option (Nat × List AV)} (h : ∀ d, di = some d → dj ≠ some d) : Eqv ((st.putB di v l).put dj u) ((st.put dj u).putB di v l) := by
  rw [← zbt (st.putB di v l), ← zbt st]
  exact zgr (e := ⟨some u, none, st.H⟩) h (fun p q _ hq => by simp at hq)

theorem zpv {st : St} {x : Operand} {k off : Nat} (h : st.ev x = .loc k off) : ∃ t, x = .tmp t := by
  cases x with
  | tmp t => exact ⟨t, rfl⟩
  | const _ => simp [St.ev] at h
  | func _ => simp [St.ev] at h
  | global _ => simp [St.ev] at h
theorem zhf {cfg : Cfg} {st : St} {o : Oper} {e : Eff} (h1 : ∀ k off, e.v = some (.loc k off) → znw cfg st.ev o k) : ∀ d, o.dst ≠ some d → zde st.ev d → zde (st.app o.dst e).ev d := by
  intro d hd hn t off hh
  by_cases ht : o.dst = some t
  · simp only [St.ev, ht, St.app] at hh
    cases hv : e.v with
    | none => rw [hv] at hh; simp [lk] at hh
    | some v =>
      rw [hv] at hh
      simp only [lk, if_true, Option.getD_some] at hh
      rcases h1 d off (by rw [hv, hh]) with ⟨_, _, h⟩ | ⟨x, _, off', hx⟩
      · exact hd h
      · obtain ⟨t', rfl⟩ := zpv hx
        exact hn t' off' hx
  · rw [zfv (zc5 ht)] at hh
    exact hn t off hh
theorem zf3 {st : St} {dd : Option Tmp} {d : Nat} (hn : zde st.ev d) : zde (st.put dd (.val (.tup []))).ev d := by
  intro t off hh
  by_cases ht : dd = some t
  · simp [St.ev, ht, St.put, lk] at hh
  · rw [zfv (zbl ht)] at hh
    exact hn t off hh
theorem znf {P : Program} {cfg : Cfg} {o : Oper} {K : St → Prop} {st : St} (h : opX P cfg o K st) : opX P cfg o (fun s => (∀ d, o.dst ≠ some d → zde st.ev d → zde s.ev d) ∧ K s) st := by
  unfold opX at h ⊢
  exact zvq (fun _ _ => rfl) (fun _ _ _ _ h => h) (fun _ _ _ _ _ => rfl) (fun e h1 h2 he => ⟨zhf h1, he⟩) h

theorem zt3 {P : Program} {cfg : Cfg} {ops : Array Oper} {oi oj : Oper} {v : EV} {l : Option (Nat × List AV)} {st : St} {K K' : St → Prop} (hbx : zet oj.op = false → cfg.esc = false → ∀ d, oj.dst = some d → zde st.ev d)
    (hlk : ∀ p, l = some p → zde st.ev p.1 ∧ oj.dst ≠ some p.1) (hap : oi.apart ops oj = true) (hx : zjt P cfg ops oj K (st.putB oi.dst v l))
    (hK : ∀ s u, (∀ t, oj.dst ≠ some t → lk s.env t = lk st.env t) → (∀ d, oj.dst ≠ some d → zde st.ev d → zde s.ev d) → Eqv u (s.putB oi.dst v l) → K u → K' s) : zjt P cfg ops oj K' st := by
  obtain ⟨h1, h2, h3⟩ := Oper.apart_spec hap
  have hev : ∀ t, t ∈ oj.looksAt ops → (st.putB oi.dst v l).ev (.tmp t) = st.ev (.tmp t) := fun t ht => zfv (zc5 fun hd => h1 t hd ht)
  have hevx : ∀ x ∈ oj.op.operands.toList, (st.putB oi.dst v l).ev x = st.ev x := by
    intro x hxm
    cases x with
    | tmp t => exact hev t (by simp only [Oper.looksAt, List.mem_append, List.mem_filterMap]; exact .inl ⟨_, hxm, rfl⟩)
    | const _ => rfl
    | func _ => rfl
    | global _ => rfl
  have hop : opX P cfg oj K (st.putB oi.dst v l) → opX P cfg oj K' st := by
    intro hx
    unfold opX at hx ⊢
    rw [znl] at hx
    refine zvq hevx (fun d he hd hb _ => .inr (hbx hb he d hd)) (fun x hxm k off hk => ?_) (fun e he1 he2 he => ?_) hx
    · cases l with
      | none => rfl
      | some p =>
        obtain ⟨k0, cs⟩ := p
        simp only [St.putB, St.app, lk]
        rw [if_neg]
        intro hh; subst hh
        rw [hevx x hxm] at hk
        obtain ⟨t, rfl⟩ := zpv hk
        exact (hlk _ rfl).1 t off hk
    · have lo : ∀ {k}, znw cfg (st.putB oi.dst v l).ev oj k → znw cfg st.ev oj k := by
        rintro k (h | ⟨x, hxm, off, hx⟩)
        · exact .inl h
        · exact .inr ⟨x, hxm, off, by rw [← hevx x hxm]; exact hx⟩
      refine hK _ _ (fun t ht => zc5 ht) (zhf fun k off hk => lo (he1 k off hk)) (zgr h2 fun p q hp hq hpq => ?_) he
      obtain ⟨hn, hd⟩ := hlk p hp
      obtain ⟨k1, c1⟩ := q
      rcases lo (he2 k1 c1 hq) with ⟨_, _, h⟩ | ⟨x, _, off, hx⟩
      · exact hd (by rw [hpq]; exact h)
      · obtain ⟨t, rfl⟩ := zpv hx
        exact hn t off (by rw [hpq]; exact hx)
  unfold zjt at hx ⊢
  split at hx
  · exact hop hx
  · rename_i j want hg
    split at hx
    · exact hx.elim
    rename_i t ht
    rw [hev t (by simp only [Oper.looksAt, List.mem_append, hg, ht]; simp)] at hx
    split at hx
    · split at hx
      · rename_i hq hu; simp only [hu, if_true]; exact hK _ _ (fun t ht => zbl ht) (fun d _ hn => zf3 hn) (zgs h2) hx
      · exact hx.elim
    rename_i b hb'
    (try simp only [hb'])
    split at hx
    · rename_i hbw; (try simp only [hbw, if_true]); exact hop hx
    · rename_i hbw; (try simp only [hbw, if_false]); exact hK _ _ (fun t ht => zbl ht) (fun d _ hn => zf3 hn) (zgs h2) hx

theorem z0q {P : Program} {cfg : Cfg} {ops : Array Oper} {o : Oper} {st : St} {K K' : St → Prop} (hx : zjt P cfg ops o K st) (hK : ∀ s, (∀ t, o.dst ≠ some t → lk s.env t = lk st.env t) → K s → K' s) : zjt P cfg ops o K' st := by
  have hop : opX P cfg o K st → opX P cfg o K' st := fun hx => zg4 (fun _ _ => rfl) (fun _ _ h => h) (fun e he => hK _ (fun t ht => zc5 ht) he) hx
  unfold zjt at hx ⊢
  split at hx
  · exact hop hx
  · split at hx
    · exact hx.elim
    rename_i h; (try simp only [h])
    split at hx
    · split at hx
      · rename_i hq hu; (try simp only [hu, if_true]); exact hK _ (fun t ht => zbl ht) hx
      · exact hx.elim
    rename_i h; (try simp only [h])
    split at hx
    · rename_i h; (try simp only [h, if_true]); exact hop hx
    · rename_i h; (try simp only [h, if_false]); exact hK _ (fun t ht => zbl ht) hx

def Closed (ops : Array Oper) (listed : Array Bool) : Prop := ∀ (j : Nat) oj, ops[j]? = some oj → listed.getD j false = true → ∀ e ∈ oj.after, Region.binds .any e = true → listed.getD e.on false = true
theorem zl4 {listed : Array Bool} {i k : Nat} (h : (listed.setIfInBounds i true).getD k false = true) : i = k ∨ listed.getD k false = true := by
  by_cases hik : i = k
  · exact .inl hik
  · rw [getD_set_ne false hik] at h; exact .inr h
theorem Closed.set {ops : Array Oper} {listed : Array Bool} (h : Closed ops listed) {i : Nat} (hi : i ∈ Region.ready .any ops listed) : Closed ops (listed.setIfInBounds i true) := by
  obtain ⟨_, oi, hoi, hall⟩ := mem_ready.1 hi
  intro j oj hj hl e he hb
  rcases zl4 hl with rfl | hl
  · rw [hoi] at hj; simp only [Option.some.injEq] at hj; subst hj
    exact getD_set_true (hall e he hb)
  · exact getD_set_true (h j oj hj hl e he hb)
def zv4 (ops : Array Oper) : Nat → Nat → Nat → Bool
  | 0, _, _ => false
  | n + 1, m, i => match ops[m]? with
    | some om => om.after.any fun e => Region.binds .any e && (e.on == i || zv4 ops n e.on i)
    | none => false
theorem zhe {ops : Array Oper} {listed : Array Bool} (hc : Closed ops listed) {i : Nat} : ∀ (n m : Nat), zv4 ops n m i = true → listed.getD m false = true → listed.getD i false = true
  | 0, _, h, _ => by simp [zv4] at h
  | n + 1, m, h, hm => by
    simp only [zv4] at h
    split at h
    · rename_i om ho
      obtain ⟨e, he, hb⟩ := Array.any_eq_true'.1 h
      simp only [Bool.and_eq_true, Bool.or_eq_true, beq_iff_eq] at hb
      have hon := hc m om ho hm e he hb.1
      rcases hb.2 with h | h
      · rw [← h]; exact hon
      · exact zhe hc n e.on h hon
    · exact absurd h (by simp)

def zlt (P : Program) (cfg : Cfg) (ops : Array Oper) (nY : NY) (ch : List Nat) (i : Nat) (o : Oper) (v : EV) (l : Option (Nat × List AV)) (listed : Array Bool) (st : St) : Prop :=
  ∀ (s : St) (listed' : Array Bool), Closed ops listed' → listed'.getD i true = false → (∀ k, listed.getD k false = true → listed'.getD k false = true) → RR nY ch listed' st s →
    (∀ t ∈ o.looksAt ops, s.ev (.tmp t) = st.ev (.tmp t)) → (∀ p, l = some p → zde s.ev p.1) → ∀ K, K (s.putB o.dst v l) → zjt P cfg ops o K s
def zep (cfg : Cfg) (ops : Array Oper) (listed : Array Bool) (st : St) : Prop :=
  cfg.esc = false → ∀ (j : Nat) oj, ops[j]? = some oj → zet oj.op = false → listed.getD j true = false → ∀ d, oj.dst = some d → zde st.ev d
def zi2 (cfg : Cfg) (ops : Array Oper) : Prop :=
  cfg.esc = false → ∀ (j k : Nat) oj ok, ops[j]? = some oj → ops[k]? = some ok → zet oj.op = false → j ≠ k → ∀ d, oj.dst = some d → ok.dst ≠ some d
theorem zep.step {cfg : Cfg} {ops : Array Oper} {listed : Array Bool} {st s : St} {i : Nat} {o : Oper} (h : zep cfg ops listed st) (hu : zi2 cfg ops) (ho : ops[i]? = some o) (hi : listed.getD i true = false)
    (hs : ∀ d, o.dst ≠ some d → zde st.ev d → zde s.ev d) : zep cfg ops (listed.setIfInBounds i true) s := by
  intro he j oj hj hb hl d hd
  by_cases hij : i = j
  · subst hij
    rcases Nat.lt_or_ge i listed.size with h' | h'
    · simp [h'] at hl
    · simp [Array.getElem?_eq_none h'] at hi
  · rw [getD_set_ne true hij] at hl
    exact hs d (hu he j i oj o hj ho hb (Ne.symm hij) d hd) (h he j oj hj hb hl d hd)

theorem zrl {ch : List Nat} {l l' : Array Bool} (h : ∀ k, l.getD k false = true → l'.getD k false = true) (hq : zdd ch l' = true) : zdd ch l = true := by
  simp only [zdd, List.all_eq_true, Bool.not_eq_true'] at *
  intro m hm
  have := hq m hm
  cases hl : l.getD m false with
  | false => rfl
  | true => rw [h m hl] at this; exact absurd this (by simp)
theorem zlc {ch : List Nat} {l : Array Bool} {i : Nat} (hi : i ∉ ch) (hq : zdd ch l = true) : zdd ch (l.setIfInBounds i true) = true := by
  simp only [zdd, List.all_eq_true, Bool.not_eq_true'] at *
  intro m hm
  rw [getD_set_ne false (fun h => hi (by rw [h]; exact hm))]
  exact hq m hm

theorem zv6 {s t : St} {d : Option Tmp} {e : Eff} (h : Eqv s t) : Eqv (s.app d e) (t.app d e) := by
  refine ⟨fun k => ?_, fun k => ?_, rfl⟩
  · cases d with
    | none => exact h.env k
    | some d => cases hv : e.v <;> (simp only [St.app, hv, lk]; rw [h.env])
  · cases hl : e.l with
    | none => simp only [St.app, hl]; exact h.L k
    | some x => obtain ⟨k', cs⟩ := x; simp only [St.app, hl, lk]; rw [h.L]
theorem zri {s t : St} {d : Option Tmp} {v : EV} (h : Eqv s t) : Eqv (s.put d v) (t.put d v) := by
  refine ⟨fun k => ?_, fun k => by rw [zrh, zrh]; exact h.L k, by rw [zrg, zrg]; exact h.H⟩
  cases d with
  | none => exact h.env k
  | some d => simp only [St.put, lk]; rw [h.env]
theorem zt2 {P : Program} {cfg : Cfg} {ops : Array Oper} {o : Oper} {s t : St} {K K' : St → Prop} (he : Eqv s t) (hx : zjt P cfg ops o K s) (hK : ∀ s t, Eqv s t → K s → K' t) : zjt P cfg ops o K' t := by
  have hop : opX P cfg o K s → opX P cfg o K' t := by
    intro hx
    unfold opX at hx ⊢
    rw [he.H, show lk s.L = lk t.L from funext he.L] at hx
    exact zg4 (fun x _ => by rw [he.ev]) (fun d _ hd => .inr (by rw [← he.ev]; exact zg3 hd)) (fun e h => hK _ _ (zv6 he) h) hx
  unfold zjt at hx ⊢
  rw [he.ev] at hx
  split at hx
  · exact hop hx
  · split at hx
    · exact hx.elim
    rename_i h; (try simp only [h])
    split at hx
    · split at hx
      · rename_i hq hu; (try simp only [hu, if_true]); exact hK _ _ (zri he) hx
      · exact hx.elim
    rename_i h; (try simp only [h])
    split at hx
    · rename_i h; (try simp only [h, if_true]); exact hop hx
    · rename_i h; (try simp only [h, if_false]); exact hK _ _ (zri he) hx
theorem RR.eqv {nY : NY} {ch : List Nat} {l : Array Bool} {s s' t t' : St} (h : RR nY ch l s t) (hs : Eqv s s') (ht : Eqv t t') : RR nY ch l s' t' :=
  ⟨fun k hk => by rw [← ht.L, ← hs.L]; exact h.1 k hk, fun id q hid => by rw [← ht.H, ← hs.H]; exact h.2 id q (by rw [hs.H]; exact hid)⟩
theorem zmr {P : Program} {cfg : Cfg} {ops : Array Oper} {nY : NY} {ch : List Nat} {K : St → Prop} (hK : ∀ s t, Eqv s t → K s → K t) :
    ∀ (n : Nat) (listed : Array Bool) (s t : St), Eqv s t → zkd P cfg ops nY ch K n listed s → zkd P cfg ops nY ch K n listed t
  | 0, listed, s, t, he, h => ⟨h.1, hK _ _ he h.2⟩
  | n + 1, listed, s, t, he, h => ⟨fun h0 => hK _ _ he (h.1 h0), fun i hi o ho => zt2 he (h.2 i hi o ho) fun s' t' he' hh => ⟨hh.1.eqv he he', zmr hK n _ _ _ he' hh.2⟩⟩

theorem zny {P : Program} {cfg : Cfg} {ops : Array Oper} {nY : NY} {ch : List Nat} {K : St → Prop} {i : Nat} {oi : Oper} {v : EV} {l : Option (Nat × List AV)} (hi : ops[i]? = some oi) (hu : zi2 cfg ops) (hch : i ∉ ch)
    (hln : ∀ p, l = some p → oi.dst = some p.1 ∧ zet oi.op = false ∧ cfg.esc = false ∧ p.1 ∈ nY.ks ∧ lk nY.kw p.1 = none) (hkw : ∀ k l, lk nY.kw k = some l → i ∉ l)
    (hKe : ∀ n listed s t, Eqv s t → zkd P cfg ops nY ch K n listed s → zkd P cfg ops nY ch K n listed t) :
    ∀ (fuel : Nat) (listed : Array Bool) (st : St), Closed ops listed → zep cfg ops listed st →
      (∀ j oj, ops[j]? = some oj → j ≠ i → listed.getD j true = false → (∀ e ∈ oj.after, Region.binds .any e = true → e.on ≠ i) → oi.apart ops oj = true) →
      i ∈ Region.ready .any ops listed → zlt P cfg ops nY ch i oi v l listed st →
      zkd P cfg ops nY ch K fuel (listed.setIfInBounds i true) (st.putB oi.dst v l) → zkd P cfg ops nY ch K (fuel + 1) listed st := by
  intro fuel
  have nl : ∀ {listed : Array Bool} {st : St}, zep cfg ops listed st → listed.getD i true = false → ∀ p, l = some p → zde st.ev p.1 := by
    intro listed st htm hl p hp
    obtain ⟨h1, h2, h3, _⟩ := hln p hp
    exact htm h3 i oi hi h2 hl _ h1
  have rrB : ∀ (st : St) (listed : Array Bool), RR nY ch listed st (st.putB oi.dst v l) := by
    intro st listed
    refine ⟨fun k hk => ?_, fun id _ _ => rfl⟩
    cases hl : l with
    | none => rfl
    | some p =>
      obtain ⟨k0, cs⟩ := p
      simp only [St.putB, St.app, lk]
      rw [if_neg]
      intro hh; subst hh
      obtain ⟨_, _, _, h4, h5⟩ := hln _ hl
      rcases hk with hk | ⟨l', h6, _⟩
      · exact hk h4
      · rw [h5] at h6; cases h6
  have self : ∀ (n : Nat) (listed : Array Bool) (st : St), Closed ops listed → zep cfg ops listed st → i ∈ Region.ready .any ops listed → zlt P cfg ops nY ch i oi v l listed st → zkd P cfg ops nY ch K n (listed.setIfInBounds i true) (st.putB oi.dst v l) →
      zjt P cfg ops oi (fun s => RR nY ch (listed.setIfInBounds i true) st s ∧ zkd P cfg ops nY ch K n (listed.setIfInBounds i true) s) st := by
    intro n listed st hc htm hr hy H
    exact hy st listed hc (mem_ready.1 hr).1 (fun _ h => h) (RR.refl st) (fun _ _ => rfl) (nl htm (mem_ready.1 hr).1) _ ⟨rrB _ _, H⟩
  induction fuel with
  | zero =>
    intro listed st hc htm hfree hr hy H
    refine ⟨fun h => (by rw [h] at hr; cases hr), fun j hj o ho => ?_⟩
    by_cases hji : j = i
    · subst hji
      rw [hi] at ho; simp only [Option.some.injEq] at ho; subst ho
      exact self 0 listed st hc htm hr hy H
    · have := ready_mono hj hji
      rw [H.1] at this
      cases this
  | succ fuel ih =>
    intro listed st hc htm hfree hr hy H
    refine ⟨fun h => (by rw [h] at hr; cases hr), fun j hj o ho => ?_⟩
    by_cases hji : j = i
    · subst hji
      rw [hi] at ho; simp only [Option.some.injEq] at ho; subst ho
      exact self _ listed st hc htm hr hy H
    · have h1 := H.2 j (ready_mono hj hji) o ho
      obtain ⟨hjun, oj, hoj, hall⟩ := mem_ready.1 hj
      rw [ho] at hoj; simp only [Option.some.injEq] at hoj; subst hoj
      have hnot : ∀ e ∈ o.after, Region.binds .any e = true → e.on ≠ i := fun e he hb heq => by
        have h1 := hall e he hb
        have h0 := (mem_ready.1 hr).1
        rw [heq] at h1
        rcases Nat.lt_or_ge i listed.size with h' | h'
        · simp [h'] at h0 h1; rw [h0] at h1; cases h1
        · simp [Array.getElem?_eq_none h'] at h1
      have hap := hfree j o ho hji hjun hnot
      have hsub : ∀ k, listed.getD k false = true → (listed.setIfInBounds j true).getD k false = true := fun k h => getD_set_true h
      refine zt3 (l := l) (fun hb he d hd => htm he j o ho hb hjun d hd) (fun p hp => ⟨nl htm (mem_ready.1 hr).1 p hp, ?_⟩) hap h1 ?_
      · obtain ⟨h2, h3, h4, _⟩ := hln p hp
        exact hu h4 i j oi o hi ho h3 (Ne.symm hji) _ h2
      rintro s u haf hno hu' ⟨hR, hA⟩
      have htm' : zep cfg ops (listed.setIfInBounds j true) s := htm.step hu ho hjun hno
      have hR' : RR nY ch (listed.setIfInBounds j true) st s := by
        refine ⟨fun k hk => ?_, fun id hq hid => ?_⟩
        · have hk' : nY.stays ((listed.setIfInBounds i true).setIfInBounds j true) k := hk.imp (fun h => h) fun ⟨l, h1, h2⟩ => ⟨l, h1, by rw [Array.setIfInBounds_comm _ _ (Ne.symm hji)]; exact zlc (hkw k l h1) h2⟩
          have := hR.1 k hk'
          rw [hu'.L, (rrB s _).1 k hk, (rrB st _).1 k hk] at this; exact this
        · have := hR.2 id (hq.imp (fun hq => by rw [Array.setIfInBounds_comm _ _ (Ne.symm hji)]; exact zlc hch hq) (fun h => h)) (by rw [znl]; exact hid)
          rw [hu'.H, znl, znl] at this; exact this
      refine ⟨hR', ih _ s (hc.set hj) htm' (fun k ok hk hki hun hno => ?_) (ready_mono hr (Ne.symm hji)) ?_ ?_⟩
      · refine hfree k ok hk hki ?_ hno
        by_cases hjk : j = k
        · subst hjk; exact hjun
        · rw [getD_set_ne true hjk] at hun; exact hun
      · intro s2 listed' hc' hun' hsub' hR2 hag hnl K2 hK2
        refine hy s2 listed' hc' hun' (fun k h => hsub' k (hsub k h)) (hR'.trans hR2 (fun l => zrl hsub')) (fun t ht => ?_) hnl K2 hK2
        rw [hag t ht]
        refine zfv (haf t fun hd => ?_)
        exact (Oper.apart_spec hap).2.2 t hd ht
      · rw [Array.setIfInBounds_comm _ _ hji]
        exact hKe _ _ _ _ hu' hA
end Go.Sx
