/- A part of the proofs of this seat: SxIb. No condition is set. -/
import Derived.Test.YtchhjighipjnnaaSxI
set_option linter.unusedVariables false
set_option linter.unusedSimpArgs false
namespace Go.Sx

/-! ### a return where blocks of old may lead to new ones -/
/-- the blocks that are kept: those of old, those named, each told as values are handed back -/
def FrW (n₀ : Nat) (keep : List Nat) (H H' : List (List AV)) : Prop :=
  H'.length = n₀ + keep.length ∧ ∀ id cs', H'[id]? = some cs' → mxL cs' ≤ H'.length ∧ ∃ k cs, H[k]? = some cs ∧ ((id < n₀ ∧ k = id) ∨ (n₀ ≤ id ∧ keep[id - n₀]? = some k)) ∧ cs'.length = cs.length ∧ Frs n₀ keep H cs cs'

theorem Frs_crep {w : World} {g : Gh} {n₀ : Nat} {keep : List Nat} {H : List (List AV)} (hw : WRep w g H) (hk : ∀ k ∈ keep, n₀ ≤ k) {l l' : List AV} {b o : Nat} (ha : Frs n₀ keep H l l') (hl : CRep w g l b o) : CRep w (frG g n₀ keep H) l' b o := by
  obtain ⟨d, ha⟩ := ha
  rw [CRep_iff] at hl ⊢
  intro i c h1
  have hlt : i < l.length := by rw [ha.1]; exact (List.getElem?_eq_some_iff.1 h1).1
  obtain ⟨x, j1, j2, j3⟩ := hl i l[i] (by simp [hlt])
  exact ⟨x, j1, j2, Fr_rep hw hk d l[i] c x (ha.2 i l[i] c (by simp [hlt]) h1) j3⟩

theorem fr_worldL {w₀ w : World} {g₀ g : Gh} {H₀ H H' : List (List AV)} {keep : List Nat} (hw₀ : WRep w₀ g₀ H₀) (hw : WRep w g H) (hs : Since w₀ g₀ H₀ w g H) (hnd : keep.Nodup)
    (hk : ∀ k ∈ keep, H₀.length ≤ k ∧ ∃ cs, H[k]? = some cs) (hF : FrW H₀.length keep H H') :
    WRep w (frG g H₀.length keep H) H' ∧ Since w₀ g₀ H₀ w (frG g H₀.length keep H) H' := by
  have hlen : H₀.length ≤ H.length := hs.len
  obtain ⟨hfl, hF⟩ := hF
  have hrho : ∀ id cs', H'[id]? = some cs' → ∃ k cs, H[k]? = some cs ∧ (frG g H₀.length keep H).ρ id cs'.length = g.ρ k cs.length ∧ ((id < H₀.length ∧ k = id) ∨ (H₀.length ≤ id ∧ keep[id - H₀.length]? = some k ∧ H₀.length ≤ k)) ∧ cs'.length = cs.length ∧ Frs H₀.length keep H cs cs' ∧ mxL cs' ≤ H'.length := by
    intro id cs' hc
    obtain ⟨hm, k, cs, h1, h2, h3, h4⟩ := hF id cs' hc
    rcases h2 with ⟨hid, rfl⟩ | ⟨hid, hkj⟩
    · exact ⟨k, cs, h1, by simp only [frG, if_pos hid, h3], .inl ⟨hid, rfl⟩, h3, h4, hm⟩
    · refine ⟨k, cs, h1, ?_, .inr ⟨hid, hkj, (hk k (List.mem_of_getElem? hkj)).1⟩, h3, h4, hm⟩
      simp only [frG]
      rw [if_neg (by omega), hkj]
      simp [h1, h3]
  have hnf : ∀ k cs b δ, H[k]? = some cs → g.ρ k cs.length = some (b, δ) → (k < H₀.length ∨ k ∈ keep) → ¬ (frG g H₀.length keep H).Fz b := by
    rintro k cs b δ hc hp hkk (hf | ⟨id, cs', δ', h1, h2, h3, h4⟩)
    · obtain ⟨b', δ', c, e, q1, q2, q3, q4, q5, q6⟩ := hw.blk k cs hc
      rw [hp] at q1; simp only [Option.some.injEq, Prod.mk.injEq] at q1; obtain ⟨rfl, rfl⟩ := q1
      exact q5 hf
    · have := hw.inj k id cs cs' b δ δ' hc h3 hp h4
      subst this
      rcases hkk with h | h
      · omega
      · exact h2 h
  refine ⟨⟨fun id cs' hc => ?_, fun i j cs₁ cs₂ b δ₁ δ₂ h1 h2 h3 h4 => ?_, fun b hb => ?_, fun id gen b δ hp => ?_, fun id gen p hp => ?_⟩, ?_⟩
  · obtain ⟨k, cs, h1, h2, h3, h4, h5, h6⟩ := hrho id cs' hc
    obtain ⟨b, δ, c, e, q1, q2, q3, q4, q5, q6⟩ := hw.blk k cs h1
    refine ⟨b, δ, c, e, by rw [h2]; exact q1, q2, by rw [h4]; exact q3, Frs_crep hw (fun k hkk => (hk k hkk).1) h5 q4, hnf k cs b δ h1 q1 ?_, h6⟩
    rcases h3 with ⟨h, rfl⟩ | ⟨_, h, _⟩
    · exact .inl h
    · exact .inr (List.mem_of_getElem? h)
  · obtain ⟨k, c1, p1, p2, p3, _⟩ := hrho i cs₁ h1
    obtain ⟨k', c2, r1, r2, r3, _⟩ := hrho j cs₂ h2
    rw [p2] at h3; rw [r2] at h4
    have hkk := hw.inj k k' c1 c2 b δ₁ δ₂ p1 r1 h3 h4
    subst hkk
    rcases p3 with ⟨a1, a2⟩ | ⟨a1, a2, a3⟩ <;> rcases r3 with ⟨b1, b2⟩ | ⟨b1, b2, b3⟩
    · omega
    · omega
    · omega
    · have hi := (List.getElem?_eq_some_iff.1 a2).1
      have hj := (List.getElem?_eq_some_iff.1 b2).1
      have hp := List.pairwise_iff_getElem.1 hnd
      obtain ⟨_, e1⟩ := List.getElem?_eq_some_iff.1 a2
      obtain ⟨_, e2⟩ := List.getElem?_eq_some_iff.1 b2
      rcases Nat.lt_trichotomy i j with h | h | h
      · exact absurd (e1.trans e2.symm) (hp _ _ hi hj (by omega))
      · exact h
      · exact absurd (e2.trans e1.symm) (hp _ _ hj hi (by omega))
  · rcases hb with hb | ⟨id, cs, δ, _, _, h3, h4⟩
    · exact hw.fzlt b hb
    · exact hw.rholt _ _ _ _ h4
  · simp only [frG] at hp
    split at hp
    · exact hw.rholt _ _ _ _ hp
    · split at hp
      · split at hp
        · exact hw.rholt _ _ _ _ hp
        · simp at hp
      · simp at hp
  · simp only [frG] at hp
    have key : ∀ k cs, H[k]? = some cs → ((id < H₀.length ∧ k = id) ∨ (H₀.length ≤ id ∧ keep[id - H₀.length]? = some k)) → ∃ cs', H'[id]? = some cs' ∧ cs'.length = cs.length := by
      intro k cs hc hkk
      have hlt : id < H'.length := by
        rw [hfl]
        rcases hkk with ⟨h, _⟩ | ⟨h, hj⟩
        · omega
        · have := (List.getElem?_eq_some_iff.1 hj).1; omega
      obtain ⟨_, k', cs₁, h1, h2, h3, _⟩ := hF id H'[id] (by simp [hlt])
      have : k' = k := by
        rcases hkk with ⟨h, rfl⟩ | ⟨h, hj⟩ <;> rcases h2 with ⟨h', rfl⟩ | ⟨h', hj'⟩
        · rfl
        · omega
        · omega
        · rw [hj] at hj'; simpa using hj'.symm
      subst this
      rw [hc] at h1; simp only [Option.some.injEq] at h1; subst h1
      exact ⟨H'[id], by simp [hlt], h3⟩
    split at hp
    · rename_i hid
      obtain ⟨cs, h1, h2⟩ := hw.rhoid _ _ _ hp
      obtain ⟨cs', h3, h4⟩ := key id cs h1 (.inl ⟨hid, rfl⟩)
      exact ⟨cs', h3, by omega⟩
    · rename_i hid
      split at hp
      · rename_i k hkj
        split at hp
        · rename_i hg
          obtain ⟨_, cs, h1⟩ := hk k (List.mem_of_getElem? hkj)
          rw [h1] at hg; simp only [Option.map_some, Option.some.injEq] at hg
          obtain ⟨cs', h3, h4⟩ := key k cs h1 (.inr ⟨by omega, hkj⟩)
          exact ⟨cs', h3, by omega⟩
        · simp at hp
      · simp at hp
  · refine ⟨hs.sz, hs.keep, hs.bszk, hs.fro, fun b hb => .inl (hs.fz b hb), fun b hb hlt => ?_, fun id gen p hp => ?_, fun id cs b δ hlt hc hp => ?_, by rw [hfl]; omega, hs.same⟩
    · rcases hb with hb | ⟨id, cs, δ, h1, _, h3, h4⟩
      · exact hs.fznew b hb hlt
      · obtain ⟨cs₀, h5, _⟩ := hs.hbi id cs b δ hlt h3 h4
        have := (List.getElem?_eq_some_iff.1 h5).1
        omega
    · have h1 := hs.rho id gen p hp
      have hid : id < H₀.length := hw₀.ids _ _ _ hp
      simp only [frG, if_pos hid]; exact h1
    · obtain ⟨k, c1, h1, h2, h3, h4, _⟩ := hrho id cs hc
      rw [h2] at hp
      obtain ⟨cs₀, h5, h6⟩ := hs.hbi k c1 b δ hlt h1 hp
      have hkl := (List.getElem?_eq_some_iff.1 h5).1
      rcases h3 with ⟨_, rfl⟩ | ⟨_, _, h⟩
      · exact ⟨cs₀, h5, h6⟩
      · omega

/-- THE END OF A BODY, where blocks of old may lead to new ones -/
def RetL (P : Program) (fn : Func) (H₀ : List (List AV)) (r : AV) (H' : List (List AV)) : XE → St → Prop := fun e st =>
  (match e with | .exit _ => False | _ => True) ∧ ∃ vs keep, (fn.results.toList.map (resV P st)).mapM id = some vs ∧ keep.Nodup ∧
    (∀ k ∈ keep, H₀.length ≤ k ∧ ∃ cs, st.H[k]? = some cs) ∧ FrW H₀.length keep st.H H' ∧ Fr H₀.length keep st.H (resOne vs) r

theorem Spec.introL {P : Program} {f : Nat} {fn : Func} {body : Code} {args : List AV} {H H' : List (List AV)} {r : AV} (hf : P.funcs[f]? = some fn) (hb : fn.body = some body)
    (hd : dstsOk fn.ntmps body = true) (hn : args.length ≤ fn.ntmps) (esc : Bool) (fz : List Nat) {draw : Array Oper → (St → Prop) → St → Prop} (hdr : ∀ C : Cx, C.P = P → C.cfg = ⟨esc, 0, fz⟩ → DrawOk C draw)
    (h : Ex P ⟨esc, 0, fz⟩ draw body (RetL P fn H r H') ⟨argE 0 args, [], H⟩) : Spec P f args H r H' := by
  intro w g cargs hw hl
  have hsz : cargs.size = args.length := by have := LRep_length hl; simpa using this
  refine calls_of_wp hf hb ?_
  let C : Cx := ⟨P, ⟨esc, 0, fz⟩, w, g, H, fn.ntmps⟩
  have hs : SRep C ⟨argE 0 args, [], H⟩ { tmps := cargs ++ Array.replicate (fn.ntmps - cargs.size) undef, defers := [] } w := by
    refine ⟨g, fun _ => 0, hw, Since.refl hw, ⟨fun key cs hc => by simp [lk] at hc, fun k k' h1 h2 _ => by simp [lk] at h1⟩, fun t e he => ?_, rfl, ?_, Nat.zero_le _, fun id cs hid _ => absurd hid (Nat.not_lt_zero _)⟩
    · obtain ⟨_, x, h1, h2⟩ := argE_get (lam := fun _ => 0) hl he
      refine ⟨x, ?_, h2⟩
      rw [Nat.sub_zero] at h1
      have hlt : t < cargs.size := by have := (List.getElem?_eq_some_iff.1 h1).1; simpa using this
      rw [Array.getElem?_append_left hlt]; simpa using h1
    · simp [C]; omega
  refine wp_mono (ex_sound (C := C) (hdr C rfl rfl) body _ _ _ w hd h hs) fun e a w' he => ?_
  have key : ∀ e' st, SRep C st a w' → RetL P fn H r H' e' st → a.defers = [] ∧ ∃ v, (results fn a.tmps).run P w' = .ok v w' ∧
      ∃ v₁ g', (Ending.returned v) = .returned v₁ ∧ WRep w' g' H' ∧ Since w g H w' g' H' ∧ VRep w' g' r v₁ := by
    rintro e' st ⟨g', lam, hs'⟩ ⟨_, vs, keep, h1, h2, h3, h4, h5⟩
    obtain ⟨xs, j1, j2⟩ := res_run hs' fn.results.toList vs h1
    dsimp only [C] at j1
    obtain ⟨k1, k2⟩ := fr_worldL hw hs'.wr hs'.si h2 h3 h4
    refine ⟨hs'.defs, ?_⟩
    have hrun : (fn.results.mapM (resF a)).run P w' = .ok xs.toArray w' := by
      rw [Array.mapM_eq_mapM_toList, map_eq_pure_bind, Sem.run_bind, j1]
      simp
    obtain ⟨d, h5⟩ := h5
    have hxl := LRep_length j2
    have hv : VRep w' g' (resOne vs) (if h : xs.toArray.size = 1 then xs.toArray[0] else .tuple xs.toArray) := by
      match vs, xs, j2, hxl with
      | [], [], j2, _ => simp only [resOne]; simp [VRep, LRep]
      | [v], [x], j2, _ =>
        simp only [LRep] at j2
        obtain ⟨y, rest, hh, j3, j4⟩ := j2
        simp only [List.cons.injEq] at hh; obtain ⟨rfl, rfl⟩ := hh
        simpa [resOne] using j3
      | v :: v' :: vs, x :: x' :: xs, j2, _ =>
        have : ¬ ((x :: x' :: xs).toArray.size = 1) := by simp
        rw [dif_neg this]
        simp only [resOne, VRep]
        exact ⟨_, rfl, by simpa using j2⟩
      | [], _ :: _, _, h => simp at h
      | [_], [], _, h => simp at h
      | [_], _ :: _ :: _, _, h => simp at h
      | _ :: _ :: _, [], _, h => simp at h
      | _ :: _ :: _, [_], _, h => simp at h
    refine ⟨_, ?_, _, frG g' H.length keep st.H, rfl, k1, k2, Fr_rep hs'.wr (fun k hk => (h3 k hk).1) d _ r _ h5 hv⟩
    simp only [results, Sem.run_bind]
    exact congrArg (fun q => Result.andThen q (fun vs w'' => (Sem.run P (Pure.pure (if h : vs.size = 1 then vs[0] else Value.tuple vs)) w''))) hrun
  cases e <;> simp only [Post] at he
  · obtain ⟨st, h1, h2⟩ := he; exact key _ st h1 h2
  · obtain ⟨st, h1, h2⟩ := he; exact h2.1.elim
  · obtain ⟨st, h1, h2⟩ := he; exact key _ st h1 h2
end Go.Sx
