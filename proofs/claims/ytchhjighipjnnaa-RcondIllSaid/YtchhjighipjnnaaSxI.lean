/- A part of the proofs of this seat: SxI. No condition is set. -/
import Derived.Test.YtchhjighipjnnaaSxH
set_option linter.unusedVariables false
set_option linter.unusedSimpArgs false
namespace Go.Sx

theorem argE_get {w : World} {g : Gh} {lam : Nat → Nat} : ∀ {i : Nat} {args : List AV} {vs : List Value} {t : Nat} {e : EV}, LRep w g args vs → lk (argE i args) t = some e →
    i ≤ t ∧ ∃ x, vs[t - i]? = some x ∧ ERep w g lam e x
  | i, [], vs, t, e, _, h => by simp [argE, lk] at h
  | i, v :: args, vs, t, e, hl, h => by
    simp only [LRep] at hl
    obtain ⟨x, rest, rfl, h1, h2⟩ := hl
    simp only [argE, lk] at h
    split at h
    · rename_i hh; subst hh
      simp only [Option.some.injEq] at h; subst h
      exact ⟨Nat.le_refl _, x, by simp, h1⟩
    · obtain ⟨h3, y, h4, h5⟩ := argE_get (lam := lam) h2 h
      refine ⟨by omega, y, ?_, h5⟩
      rw [show t - i = (t - (i + 1)) + 1 from by omega]
      simpa using h4

theorem Spec.intro {P : Program} {f : Nat} {fn : Func} {body : Code} {args : List AV} {H H' : List (List AV)} {r : AV} (hf : P.funcs[f]? = some fn) (hb : fn.body = some body)
    (hd : dstsOk fn.ntmps body = true) (hn : args.length ≤ fn.ntmps) (esc : Bool) (fz : List Nat) {draw : Array Oper → (St → Prop) → St → Prop} (hdr : ∀ C : Cx, C.P = P → C.cfg = ⟨esc, H.length, fz⟩ → DrawOk C draw)
    (h : Ex P ⟨esc, H.length, fz⟩ draw body (RetQ P fn H r H') ⟨argE 0 args, [], H⟩) : Spec P f args H r H' := by
  intro w g cargs hw hl
  have hsz : cargs.size = args.length := by have := LRep_length hl; simpa using this
  refine calls_of_wp hf hb ?_
  let C : Cx := ⟨P, ⟨esc, H.length, fz⟩, w, g, H, fn.ntmps⟩
  have hs : SRep C ⟨argE 0 args, [], H⟩ { tmps := cargs ++ Array.replicate (fn.ntmps - cargs.size) undef, defers := [] } w := by
    refine ⟨g, fun _ => 0, hw, Since.refl hw, ⟨fun key cs hc => by simp [lk] at hc, fun k k' h1 h2 _ => by simp [lk] at h1⟩, fun t e he => ?_, rfl, ?_, Nat.le_refl _, fun id cs _ hc => ?_⟩
    · obtain ⟨_, x, h1, h2⟩ := argE_get (lam := fun _ => 0) hl he
      refine ⟨x, ?_, h2⟩
      rw [Nat.sub_zero] at h1
      have hlt : t < cargs.size := by have := (List.getElem?_eq_some_iff.1 h1).1; simpa using this
      rw [Array.getElem?_append_left hlt]; simpa using h1
    · simp [C]; omega
    · obtain ⟨_, _, _, _, _, _, _, _, _, h⟩ := hw.blk id cs hc; exact h
  refine wp_mono (ex_sound (C := C) (hdr C rfl rfl) body _ _ _ w hd h hs) fun e a w' he => ?_
  have key : ∀ e' st, SRep C st a w' → RetQ P fn H r H' e' st → a.defers = [] ∧ ∃ v, (results fn a.tmps).run P w' = .ok v w' ∧
      ∃ v₁ g', (Ending.returned v) = .returned v₁ ∧ WRep w' g' H' ∧ Since w g H w' g' H' ∧ VRep w' g' r v₁ := by
    rintro e' st ⟨g', lam, hs'⟩ ⟨_, vs, keep, h1, h2, h3, h4, h5⟩
    obtain ⟨xs, j1, j2⟩ := res_run hs' fn.results.toList vs h1
    dsimp only [C] at j1
    obtain ⟨k1, k2⟩ := fr_world hw hs'.wr hs'.si hs'.om h2 h3
    refine ⟨hs'.defs, ?_⟩
    have hrun : (fn.results.mapM (resF a)).run P w' = .ok xs.toArray w' := by
      rw [Array.mapM_eq_mapM_toList, map_eq_pure_bind, Sem.run_bind, j1]
      simp
    obtain ⟨d, h5⟩ := h5
    have hxl := LRep_length j2
    have hv : VRep w' g' (resOne vs) (if h : xs.toArray.size = 1 then xs.toArray[0] else .tuple xs.toArray) := by
      match vs, xs, j2, hxl with
      | [], [], j2, _ => simp only [resOne]; simp [VRep, LRep]
      | [v], [x], j2, _ =>
        simp only [LRep] at j2
        obtain ⟨y, rest, hh, j3, j4⟩ := j2
        simp only [List.cons.injEq] at hh; obtain ⟨rfl, rfl⟩ := hh
        simpa [resOne] using j3
      | v :: v' :: vs, x :: x' :: xs, j2, _ =>
        have : ¬ ((x :: x' :: xs).toArray.size = 1) := by simp
        rw [dif_neg this]
        simp only [resOne, VRep]
        exact ⟨_, rfl, by simpa using j2⟩
      | [], _ :: _, _, h => simp at h
      | [_], [], _, h => simp at h
      | [_], _ :: _ :: _, _, h => simp at h
      | _ :: _ :: _, [], _, h => simp at h
      | _ :: _ :: _, [_], _, h => simp at h
    refine ⟨_, ?_, _, frG g' H.length keep st.H, rfl, by rw [← h4]; exact k1, by rw [← h4]; exact k2, Fr_rep hs'.wr (fun k hk => (h3 k hk).1) d _ r _ h5 hv⟩
    simp only [results, Sem.run_bind]
    exact congrArg (fun q => Result.andThen q (fun vs w'' => (Sem.run P (Pure.pure (if h : vs.size = 1 then vs[0] else Value.tuple vs)) w''))) hrun
  cases e <;> simp only [Post] at he
  · obtain ⟨st, h1, h2⟩ := he; exact key _ st h1 h2
  · obtain ⟨st, h1, h2⟩ := he; exact h2.1.elim
  · obtain ⟨st, h1, h2⟩ := he; exact key _ st h1 h2

theorem drawNo (C : Cx) : DrawOk C (fun _ _ _ => False) := fun _ _ _ _ _ _ _ _ h => h.elim

theorem CSpec.mk {P : Program} {f : Nat} {args : List AV} {H H' : List (List AV)} {r : AV} (he : Enters P f) (h : Spec P f args H r H') : CSpec P f args H r H' := .inl ⟨he, h⟩
end Go.Sx
