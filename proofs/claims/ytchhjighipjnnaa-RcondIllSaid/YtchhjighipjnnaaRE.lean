/- A part of the proofs of this seat: RE. No condition is set. -/
import Derived.Test.YtchhjighipjnnaaRD
import Derived.Test.YtchhjighipjnnaaSxIb
set_option linter.unusedVariables false
set_option linter.unusedSimpArgs false
namespace Go.Sx

theorem enters_of {P : Program} {f : Nat} {fn : Func} (hf : P.funcs[f]? = some fn) (hb : fn.body.isSome = true) (hn : (fn.name == "runtime.NumGoroutine") = false) : Enters P f := by
  intro args w
  obtain ⟨c, hc⟩ := Option.isSome_iff_exists.1 hb
  have h1 : fn.name ≠ "runtime.NumGoroutine" := by simpa using hn
  simp [callFunc, hf, h1, hc]

def idxR : List Nat → Nat → Nat → Option Nat
  | [], _, _ => none
  | k :: r, id, j => if k = id then some j else idxR r id (j + 1)
theorem idxR_some {id : Nat} : ∀ {l : List Nat} {j m : Nat}, idxR l id j = some m → ∃ i, m = j + i ∧ l[i]? = some id
  | [], j, m, h => by simp [idxR] at h
  | k :: r, j, m, h => by
    unfold idxR at h
    split at h
    · rename_i hk; cases h; exact ⟨0, rfl, by simp [hk]⟩
    · obtain ⟨i, h1, h2⟩ := idxR_some h
      exact ⟨i + 1, by omega, by simpa using h2⟩
theorem idxR_none {id : Nat} : ∀ {l : List Nat} {j : Nat}, idxR l id j = none → id ∉ l
  | [], j, h => by simp
  | k :: r, j, h => by
    unfold idxR at h
    split at h
    · cases h
    · rename_i hk
      simp only [List.mem_cons, not_or]
      exact ⟨fun hh => hk hh.symm, idxR_none h⟩
def mapO (f : AV → Option AV) : List AV → Option (List AV)
  | [] => some []
  | a :: r => match f a with
    | none => none
    | some b => match mapO f r with
      | none => none
      | some r' => some (b :: r')
theorem mapO_frs {n₀ : Nat} {keep : List Nat} {H : List (List AV)} {f : AV → Option AV} (hf : ∀ v v', f v = some v' → Fr n₀ keep H v v') : ∀ {l l' : List AV}, mapO f l = some l' → Frs n₀ keep H l l'
  | [], l', h => by simp only [mapO, Option.some.injEq] at h; subst h; exact Frs.nil
  | a :: r, l', h => by
    unfold mapO at h
    split at h
    · cases h
    · rename_i b hb
      split at h
      · cases h
      · rename_i r' hr
        cases h
        exact Frs.cons (hf _ _ hb) (mapO_frs hf hr)
def frV (n₀ : Nat) (keep : List Nat) (H : List (List AV)) : Nat → AV → Option AV
  | 0, _ => none
  | d + 1, v =>
    if mx v ≤ n₀ then some v else
    match v with
    | .slm id gen off len sz =>
      match H[id]? with
      | none => none
      | some cs =>
        if cs.length = gen then
          match idxR keep id 0 with
          | some j => some (.slm (n₀ + j) gen off len sz)
          | none => if n₀ ≤ id then (match gc cs off (len * sz) with
            | none => none
            | some l => (mapO (frV n₀ keep H d) l).map (.sl none len)) else none
        else none
    | .eptr (.slm id gen off len sz) o =>
      match H[id]?, idxR keep id 0 with
      | some cs, some j => if cs.length = gen then some (.eptr (.slm (n₀ + j) gen off len sz) o) else none
      | _, _ => none
    | .agg l => (mapO (frV n₀ keep H d) l).map .agg
    | .tup l => (mapO (frV n₀ keep H d) l).map .tup
    | _ => none
theorem frV_ok {n₀ : Nat} {keep : List Nat} {H : List (List AV)} : ∀ {d : Nat} {v v' : AV}, frV n₀ keep H d v = some v' → Fr n₀ keep H v v'
  | 0, v, v', h => by simp [frV] at h
  | d + 1, v, v', h => by
    unfold frV at h
    split at h
    · rename_i hm; cases h; exact Fr.old hm
    split at h
    · split at h
      · cases h
      · rename_i cs hc
        split at h
        · rename_i hg
          split at h
          · rename_i j hj
            cases h
            obtain ⟨i, h1, h2⟩ := idxR_some hj
            rw [h1, Nat.zero_add]
            exact Fr.kp h2 hc hg
          · rename_i hj
            split at h
            · rename_i hid
              split at h
              · cases h
              · rename_i l hl
                simp only [Option.map_eq_some_iff] at h
                obtain ⟨l', h1, rfl⟩ := h
                exact Fr.fz hid (idxR_none hj) hc hg hl (mapO_frs (fun _ _ hh => frV_ok hh) h1)
            · cases h
        · cases h
    · split at h
      · rename_i cs j hc hj
        split at h
        · rename_i hg
          cases h
          obtain ⟨i, h1, h2⟩ := idxR_some hj
          rw [h1, Nat.zero_add]
          exact Fr.kpp h2 hc hg
        · cases h
      · cases h
    · simp only [Option.map_eq_some_iff] at h
      obtain ⟨l', h1, rfl⟩ := h
      exact Fr.agg (mapO_frs (fun _ _ hh => frV_ok hh) h1)
    · simp only [Option.map_eq_some_iff] at h
      obtain ⟨l', h1, rfl⟩ := h
      exact Fr.tup (mapO_frs (fun _ _ hh => frV_ok hh) h1)
    · cases h
mutual
/-- what a value points to: with 'sl' its slices, too -/
def refsV (sl : Bool) : AV → List Nat → List Nat
  | .slm id _ _ _ _, ks => if sl then (if ks.contains id then ks else ks ++ [id]) else ks
  | .eptr s _, ks => match s with
    | .slm id _ _ _ _ => if ks.contains id then ks else ks ++ [id]
    | _ => ks
  | .agg l, ks => refsL sl l ks
  | .tup l, ks => refsL sl l ks
  | _, ks => ks
def refsL (sl : Bool) : List AV → List Nat → List Nat
  | [], ks => ks
  | v :: r, ks => refsL sl r (refsV sl v ks)
end
/-- the new blocks that are led to -/
def closeR (n₀ : Nat) (H : List (List AV)) : Nat → List Nat → List Nat → List Nat
  | 0, _, acc => acc
  | _ + 1, [], acc => acc
  | n + 1, k :: todo, acc => if k < n₀ || acc.contains k then closeR n₀ H n todo acc else closeR n₀ H n (refsL true ((H[k]?).getD []) [] ++ todo) (acc ++ [k])
def oldRefs (n₀ : Nat) : Nat → List (List AV) → List Nat → List Nat
  | 0, _, ks => ks
  | _ + 1, [], ks => ks
  | n + 1, cs :: r, ks => oldRefs n₀ n r (if mxL cs ≤ n₀ then ks else refsL true cs ks)
def frB (n₀ : Nat) (keep : List Nat) (H : List (List AV)) (cs : List AV) : Option (List AV) :=
  if mxL cs ≤ n₀ then some cs else mapO (frV n₀ keep H 40) cs
def mapB (f : List AV → Option (List AV)) : List (List AV) → Option (List (List AV))
  | [] => some []
  | a :: r => match f a with
    | none => none
    | some b => match mapB f r with
      | none => none
      | some r' => some (b :: r')
theorem mapB_ok {f : List AV → Option (List AV)} : ∀ {l l' : List (List AV)}, mapB f l = some l' → l'.length = l.length ∧ ∀ (i : Nat) c', l'[i]? = some c' → ∃ c, l[i]? = some c ∧ f c = some c'
  | [], l', h => by simp only [mapB, Option.some.injEq] at h; subst h; exact ⟨rfl, fun i c' h => by simp at h⟩
  | a :: r, l', h => by
    unfold mapB at h
    split at h
    · cases h
    · rename_i b hb
      split at h
      · cases h
      · rename_i r' hr
        cases h
        obtain ⟨h1, h2⟩ := mapB_ok hr
        refine ⟨by simp [h1], fun i c' hc => ?_⟩
        cases i with
        | zero => simp at hc; subst hc; exact ⟨a, by simp, hb⟩
        | succ i => simpa using h2 i c' (by simpa using hc)
theorem frB_ok {n₀ : Nat} {keep : List Nat} {H : List (List AV)} {cs cs' : List AV} (h : frB n₀ keep H cs = some cs') : cs'.length = cs.length ∧ Frs n₀ keep H cs cs' := by
  unfold frB at h
  have key : Frs n₀ keep H cs cs' := by
    split at h
    · rename_i hm; cases h; exact Frs.old hm
    · exact mapO_frs (fun _ _ hh => frV_ok hh) h
  exact ⟨by obtain ⟨d, h⟩ := key; exact h.1.symm, key⟩
def nodupR : List Nat → Bool
  | [] => true
  | a :: r => !r.contains a && nodupR r
theorem nodupR_ok : ∀ {l : List Nat}, nodupR l = true → l.Nodup
  | [], _ => List.nodup_nil
  | a :: r, h => by
    simp only [nodupR, Bool.and_eq_true, Bool.not_eq_true'] at h
    exact List.nodup_cons.2 ⟨by simpa using h.1, nodupR_ok h.2⟩
def retR (P : Program) (sl : Bool) (fn : Func) (n₀ : Nat) (st : St) : Option (AV × List (List AV)) :=
  match (fn.results.toList.map (resV P st)).mapM id with
  | none => none
  | some vs =>
    fL vs fun vs => fNs (closeR n₀ st.H 10000 (oldRefs n₀ n₀ st.H (refsL sl vs [])) []) fun keep =>
    if nodupR keep && keep.all (fun k => decide (n₀ ≤ k) && decide (k < st.H.length)) && decide (n₀ ≤ st.H.length) then
      match frV n₀ keep st.H 40 (resOne vs), mapB (frB n₀ keep st.H) (st.H.take n₀), mapB (frB n₀ keep st.H) (keep.map fun k => (st.H[k]?).getD []) with
      | some r, some A, some B => fV r fun r => fH (A ++ B) fun H' => fN H'.length fun n => if H'.all (fun cs => decide (mxL cs ≤ n)) then some (r, H') else none
      | _, _, _ => none
    else none
theorem retR_ok {P : Program} {sl : Bool} {fn : Func} {H₀ : List (List AV)} {st : St} {r : AV} {H' : List (List AV)} {e : XE} (he : match e with | .exit _ => False | _ => True) (h : retR P sl fn H₀.length st = some (r, H')) : RetL P fn H₀ r H' e st := by
  unfold retR at h
  split at h
  · cases h
  · rename_i vs hv
    rw [fL_eq, fNs_eq] at h
    generalize closeR _ _ _ _ _ = keep at h
    split at h
    · rename_i hk
      simp only [Bool.and_eq_true, List.all_eq_true, decide_eq_true_eq] at hk
      obtain ⟨⟨hk1, hk2⟩, hk3⟩ := hk
      split at h
      · rename_i r' A B hr hA hB
        rw [fV_eq, fH_eq, fN_eq] at h
        split at h
        · rename_i hmx
          simp only [Option.some.injEq, Prod.mk.injEq] at h
          obtain ⟨rfl, rfl⟩ := h
          obtain ⟨a1, a2⟩ := mapB_ok hA
          obtain ⟨b1, b2⟩ := mapB_ok hB
          have hal : A.length = H₀.length := by rw [a1, List.length_take]; omega
          refine ⟨he, vs, keep, hv, nodupR_ok hk1, fun k hkk => ?_, ⟨by simp [hal, b1], fun id cs' hc => ⟨?_, ?_⟩⟩, frV_ok hr⟩
          · obtain ⟨h1, h2⟩ := hk2 k hkk
            exact ⟨h1, st.H[k], by simp [h2]⟩
          · simp only [List.all_eq_true, decide_eq_true_eq] at hmx
            exact hmx cs' (List.mem_of_getElem? hc)
          · by_cases hid : id < H₀.length
            · rw [List.getElem?_append_left (by omega)] at hc
              obtain ⟨cs, h1, h2⟩ := a2 id cs' hc
              rw [List.getElem?_take, if_pos hid] at h1
              exact ⟨id, cs, h1, .inl ⟨hid, rfl⟩, frB_ok h2⟩
            · rw [List.getElem?_append_right (by omega), hal] at hc
              obtain ⟨cs, h1, h2⟩ := b2 _ cs' hc
              rw [List.getElem?_map, Option.map_eq_some_iff] at h1
              obtain ⟨k, h3, h4⟩ := h1
              have hlt := (hk2 k (List.mem_of_getElem? h3)).2
              refine ⟨k, cs, ?_, .inr ⟨by omega, h3⟩, frB_ok h2⟩
              rw [List.getElem?_eq_getElem hlt] at h4 ⊢
              simpa using h4
        · cases h
      · cases h
    · cases h

/-- A CALL BY THE KERNEL: n calls deep, lf rounds a loop -/
def runF (P : Program) (T : RunT) (lf : Nat) : Nat → Nat → List AV → List (List AV) → Option (AV × List (List AV))
  | 0, _, _, _ => none
  | n + 1, f, args, H =>
    match T.intr f args with
    | some r => some (r, H)
    | none =>
      match P.funcs[f]? with
      | none => none
      | some fn =>
        match fn.body with
        | none => none
        | some body =>
          if dstsOk fn.ntmps body && decide (args.length ≤ fn.ntmps) && !(fn.name == "runtime.NumGoroutine") then
            fN H.length fun n₀ =>
            match runC P ⟨T.esc f, 0, T.fz f⟩ (runF P T lf n) (T.ord f) lf body ⟨argE 0 args, [], H⟩ with
            | some (.exit _, _) => none
            | some (_, st) => retR P (T.kp f) fn n₀ st
            | none => none
          else none

theorem runF_ok {P : Program} {T : RunT} {lf : Nat} (hm : P.follows .mixedOrders = true) (hi : ∀ f args r H, T.intr f args = some r → CSpec P f args H r H) :
    ∀ (n f : Nat) (args : List AV) (H : List (List AV)) (r : AV) (H' : List (List AV)), runF P T lf n f args H = some (r, H') → CSpec P f args H r H' := by
  intro n
  induction n with
  | zero => intro f args H r H' h; simp [runF] at h
  | succ n ih =>
    intro f args H r H' h
    unfold runF at h
    split at h
    · rename_i r' hr; cases h; exact hi _ _ _ _ hr
    split at h
    · cases h
    rename_i fn hf
    split at h
    · cases h
    rename_i body hb
    split at h
    · rename_i hc
      simp only [Bool.and_eq_true, decide_eq_true_eq, Bool.not_eq_true'] at hc
      rw [fN_eq] at h
      refine .inl ⟨enters_of hf (by rw [hb]; rfl) hc.2, Spec.introL hf hb hc.1.1 hc.1.2 (T.esc f) (T.fz f) (draw := drawX P ⟨T.esc f, 0, T.fz f⟩) (fun C h1 h2 => ?_) ?_⟩
      · subst h1; rw [← h2]; exact drawOk hm
      · split at h
        · cases h
        · rename_i e st hne hr
          refine runC_ok (call := runF P T lf n) ih body _ _ _ _ hr (retR_ok ?_ h)
          cases e with
          | exit i => exact (hne i rfl).elim
          | normal => trivial
          | ret => trivial
        · cases h
    · cases h

/-! ### what a call makes without blocks it makes beside any -/
def gh0 (g : Gh) : Gh := ⟨fun _ _ => none, g.Fz⟩
def gh1 (g g' : Gh) : Gh := ⟨g.ρ, g'.Fz⟩
theorem ext00 (w : World) (g g' : Gh) (h : g.Fz = g'.Fz) : ExtN 0 w g w g' := ⟨fun b hb => h ▸ hb, fun _ _ => rfl, fun id _ _ hid => by omega, fun _ _ h => h⟩
theorem Spec.frame {P : Program} {f : Nat} {args : List AV} {r : AV} (h : Spec P f args [] r []) (ha : mxL args = 0) (hr : mx r = 0) (H : List (List AV)) : Spec P f args H r H := by
  intro w g cargs hw hl
  have hw0 : WRep w (gh0 g) [] := {
    blk := fun id cs hc => by simp at hc
    inj := fun id id' cs cs' b δ δ' hc => by simp at hc
    fzlt := hw.fzlt
    rholt := fun id gen b δ hh => by simp [gh0] at hh
    rhoid := fun id gen p hh => by simp [gh0] at hh }
  have hl0 : LRep w (gh0 g) args cargs.toList := LRep.extN (ext00 w g (gh0 g) rfl) _ _ (by omega) hl
  refine (h w (gh0 g) cargs hw0 hl0).mono fun e w' ⟨v, g', he, hw', hs, hv⟩ => ?_
  have keep : ∀ b, b < w.heap.size → w'.heap[b]? = w.heap[b]? := fun b hb => hs.keep b hb (by rintro ⟨id, cs, δ, hc, _⟩; simp at hc)
  have ex : Ext w g w' (gh1 g g') := ⟨hs.fz, fun b hb => keep b (hw.fzlt b hb), fun _ _ _ h => h, hs.bszk⟩
  refine ⟨v, gh1 g g', he, ?_, ?_, VRep.extN (ext00 w' g' (gh1 g g') rfl) _ _ (by omega) hv⟩
  · exact {
      blk := fun id cs hc => by
        obtain ⟨b, δ, c, e, h1, h2, h3, h4, h5, h6⟩ := hw.blk id cs hc
        have hb := hw.rholt _ _ _ _ h1
        refine ⟨b, δ, c, e, h1, by rw [keep b hb]; exact h2, h3, CRep.ext ex (keep b hb) h4, fun hf => h5 (hs.fznew b hf hb), h6⟩
      inj := hw.inj
      fzlt := hw'.fzlt
      rholt := fun id gen b δ hh => Nat.lt_of_lt_of_le (hw.rholt _ _ _ _ hh) hs.sz
      rhoid := hw.rhoid }
  · exact {
      sz := hs.sz
      keep := fun b hb _ => keep b hb
      bszk := hs.bszk
      fro := hs.fro
      fz := hs.fz
      fznew := hs.fznew
      rho := fun _ _ _ h => h
      hbi := fun id cs b δ _ hc hh => ⟨cs, hc, hh⟩
      len := Nat.le_refl _
      same := hs.same }
theorem CSpec.frame {P : Program} {f : Nat} {args : List AV} {r : AV} (h : CSpec P f args [] r []) (ha : mxL args = 0) (hr : mx r = 0) (H : List (List AV)) : CSpec P f args H r H := by
  rcases h with ⟨h1, h2⟩ | ⟨_, h2⟩
  · exact .inl ⟨h1, h2.frame ha hr H⟩
  · refine .inr ⟨rfl, fun w g cargs hl => ?_⟩
    obtain ⟨v, h3, h4⟩ := h2 w (gh0 g) cargs (LRep.extN (ext00 w g (gh0 g) rfl) _ _ (by omega) hl)
    exact ⟨v, h3, VRep.extN (ext00 w (gh0 g) g rfl) _ _ (by omega) h4⟩
/-- a call by the kernel, beside any blocks -/
theorem runF_c {P : Program} {T : RunT} (hm : P.follows .mixedOrders = true) (hi : ∀ f args r H, T.intr f args = some r → CSpec P f args H r H) (lf n f : Nat) (args : List AV) (r : AV) (ha : mxL args = 0) (hr : mx r = 0)
    (h : runF P T lf n f args [] = some (r, [])) (H : List (List AV)) : CSpec P f args H r H := (runF_ok hm hi _ _ _ _ _ _ h).frame ha hr H
end Go.Sx
