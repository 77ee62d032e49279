/- A part of the proofs of this seat: YL. No condition is set. -/
import Derived.Test.YthjjpbcmimpjbaaGreatYD
set_option linter.unusedVariables false
set_option linter.unusedSimpArgs false
namespace Go.Sx
/-! ### regions where more than one operation may come next: each is tried -/
mutual
inductive DTr where
  | lin (fl : List (Nat × DFl))
  | alt (fl : List (Nat × DFl)) (bs : DBr)
inductive DBr where
  | nil
  | cons (i : Nat) (q : Bool) (t : DTr) (r : DBr)
end
mutual
def DTr.size : DTr → Nat
  | .lin fl => fl.length
  | .alt fl bs => DBr.size bs + fl.length
def DBr.size : DBr → Nat
  | .nil => 0
  | .cons _ _ t _ => t.size + 1
end
def DBr.heads : DBr → List Nat
  | .nil => []
  | .cons i _ _ r => i :: r.heads
section
variable (P : Program) (cfg : Cfg) (ops : Array Oper) (nY : NY)
mutual
def exT : DTr → (St → Prop) → St → Prop
  | .lin fl, Q, st => exD P cfg ops nY none fl Q st
  | .alt fl bs, Q, st => exD P cfg ops nY none fl (fun s => exB bs Q s) st
def exB : DBr → (St → Prop) → St → Prop
  | .nil, _, _ => True
  | .cons i q t r, Q, st => exD P cfg ops nY none [(i, .mn q)] (fun s => exT t Q s) st ∧ exB r Q st
end
end
section
variable (esc : Bool) (fz : List Nat) (kw : List (Nat × List Nat)) (ops : Array Oper) (ch : List Nat)
/-- of the branches: are all that may come next among them, and are they alike in length? -/
def zsf (bs : DBr) (listed : Array Bool) : Bool := !(Region.ready .any ops listed).isEmpty && (Region.ready .any ops listed).all fun i => bs.heads.contains i
mutual
def z2e : DTr → Array Bool → Bool
  | .lin fl, listed => z8w esc fz kw ops ch fl listed
  | .alt fl bs, listed => zpv esc fz kw ops ch (fun l => zsf ops bs l && z7s bs.size bs l) fl listed
def z7s : Nat → DBr → Array Bool → Bool
  | _, .nil, _ => true
  | n, .cons i q t r, listed => (t.size + 1 == n) && (Region.ready .any ops listed).contains i && (q || !zdd ch (listed.setIfInBounds i true)) && z2e t (listed.setIfInBounds i true) && z7s n r listed
end
end
section
variable {P : Program} {cfg : Cfg} {ops : Array Oper} {nY : NY} {ch : List Nat} {Q : St → Prop}
theorem zq4 {m : Nat} (hu : zgm cfg ops) {i : Nat} {q : Bool} {K : St → Prop} {listed : Array Bool} {st : St} (hr : i ∈ Region.ready .any ops listed) (hq3 : (q || !zdd ch (listed.setIfInBounds i true)) = true) (hcl : Closed ops listed) (htm : zd5 cfg ops listed st)
    (hx : exD P cfg ops nY none [(i, .mn q)] K st) (hK : ∀ s, Closed ops (listed.setIfInBounds i true) → zd5 cfg ops (listed.setIfInBounds i true) s → K s → zjl P cfg ops nY ch (clQ Q) m (listed.setIfInBounds i true) s) (o : Oper) (ho : ops[i]? = some o) :
    zjt P cfg ops o (fun s => RR nY ch (listed.setIfInBounds i true) st s ∧ zjl P cfg ops nY ch (clQ Q) m (listed.setIfInBounds i true) s) st := by
  have h1 := zr2 ho (kn := none) trivial hx
  have hcl' := hcl.set hr
  have hun := (mem_ready.1 hr).1
  simp only [Bool.or_eq_true, Bool.not_eq_true'] at hq3
  have go : ∀ s, (∀ d, o.dst ≠ some d → zde st.ev d → zde s.ev d) → ckX (.mn q) nY o st s → (∃ kn', KnA ops kn' s ∧ exD P cfg ops nY kn' [] K s) → RR nY ch (listed.setIfInBounds i true) st s ∧ zjl P cfg ops nY ch (clQ Q) m (listed.setIfInBounds i true) s := by
    rintro s hno ⟨h4, h5⟩ ⟨kn', h6, h7⟩
    refine ⟨⟨fun k hk => h4 k (hk.imp (fun h => h) fun ⟨l, h, _⟩ => by rw [h]; rfl), fun id hq => h5 id (hq.imp (fun hq => ?_) (fun h => h))⟩, hK s hcl' (htm.step hu ho hun hno) h7⟩
    rcases hq3 with h3 | h3
    · exact h3
    · rw [hq] at h3; cases h3
  rcases h1 with ⟨hw, h1⟩ | ⟨hw, h1⟩
  · exact zi7 hw (zf8 (zk3 h1) fun s ⟨hno, h4, h5⟩ => go s hno h4 h5)
  · exact zos hw (go _ (fun d _ hn => zfz hn) ⟨fun k _ => by rw [zqi], fun id _ _ => by rw [zqh]⟩ h1)

mutual
theorem zlu (hu : zgm cfg ops) (hks : ∀ k l, lk nY.kw k = some l → ¬ k ∉ nY.ks) : ∀ (t : DTr) (listed : Array Bool) (st : St), z2e cfg.esc cfg.fz nY.kw ops ch t listed = true → Closed ops listed → zd5 cfg ops listed st → exT P cfg ops nY t Q st →
    zjl P cfg ops nY ch (clQ Q) t.size listed st
  | .lin fl, listed, st, hc, hcl, htm, hx => by
    simp only [z2e] at hc
    simp only [exT] at hx
    simp only [DTr.size]
    exact zlt hu hks fl none listed st hc hcl htm trivial hx
  | .alt fl bs, listed, st, hc, hcl, htm, hx => by
    simp only [z2e] at hc
    simp only [exT] at hx
    simp only [DTr.size]
    refine ze7 (m := bs.size) hu hks (fun l s hcl' htm' hf hq => ?_) fl none listed st hc hcl htm trivial hx
    simp only [Bool.and_eq_true] at hf
    have hb := zls hu hks bs bs.size l s hf.2 hcl' htm' hq
    simp only [zsf, Bool.and_eq_true, Bool.not_eq_true', List.all_eq_true] at hf
    obtain ⟨⟨h1, h2⟩, _⟩ := hf
    cases bs with
    | nil =>
      cases hr : Region.ready .any ops l with
      | nil => rw [hr] at h1; simp at h1
      | cons i r => have := h2 i (by rw [hr]; simp); simp [DBr.heads] at this
    | cons i q t r =>
      simp only [DBr.size]
      refine ⟨fun h0 => (by rw [h0] at h1; simp at h1), fun j hj o ho => ?_⟩
      have := hb j hj (by have := h2 j hj; simpa using this) o ho
      simpa [DBr.size] using this
theorem zls (hu : zgm cfg ops) (hks : ∀ k l, lk nY.kw k = some l → ¬ k ∉ nY.ks) : ∀ (bs : DBr) (n : Nat) (listed : Array Bool) (st : St), z7s cfg.esc cfg.fz nY.kw ops ch n bs listed = true → Closed ops listed → zd5 cfg ops listed st → exB P cfg ops nY bs Q st →
    ∀ i ∈ Region.ready .any ops listed, i ∈ bs.heads → ∀ o, ops[i]? = some o → zjt P cfg ops o (fun s => RR nY ch (listed.setIfInBounds i true) st s ∧ zjl P cfg ops nY ch (clQ Q) (n - 1) (listed.setIfInBounds i true) s) st
  | .nil, n, listed, st, hc, hcl, htm, hx, i, hi, hh, o, ho => by simp [DBr.heads] at hh
  | .cons k q t r, n, listed, st, hc, hcl, htm, hx, i, hi, hh, o, ho => by
    simp only [z7s, Bool.and_eq_true, beq_iff_eq] at hc
    obtain ⟨⟨⟨⟨h1, h2⟩, h3⟩, h4⟩, h5⟩ := hc
    simp only [exB] at hx
    by_cases hik : i = k
    · subst hik
      refine zq4 hu hi h3 hcl htm hx.1 (fun s hcl' htm' hs => ?_) o ho
      have := zlu hu hks t _ s h4 hcl' htm' hs
      rwa [show n - 1 = t.size from by omega]
    · exact zls hu hks r n listed st h5 hcl htm hx.2 i hi (by simp only [DBr.heads, List.mem_cons] at hh; exact hh.resolve_left hik) o ho
end
end
/-- a region that draws its order, by a tree -/
def zvc (P : Program) (cfg : Cfg) (ops : Array Oper) (K : St → Prop) (st : St) : Prop :=
  ∃ nY ch t, (cfg.esc || ops.toList.all (fun o => zfd o.op) || zqo ops ops.toList.zipIdx) = true ∧ z2e cfg.esc cfg.fz nY.kw ops ch t (Array.replicate ops.size false) = true ∧ t.size = ops.size ∧
    nY.kw.all (fun p => nY.ks.contains p.1) = true ∧ zfq cfg.esc st.env ops.toList = true ∧ exT P cfg ops nY t K st
theorem zvd {C : Cx} (hm : C.P.follows .mixedOrders = true) : zgd C (zvc C.P C.cfg) := by
  rintro ops K st a w id Q hN ⟨nY, ch, t, h1, h2, h3, hkk, hbf, hx⟩ ⟨g, lam, hs⟩ hK
  simp only [Bool.or_eq_true] at h1
  refine wp_region_any hm ?_
  rw [← h3]
  refine zhd (nY := nY) (ch := ch) (K := clQ K) hN (fun s a w ⟨s0, h4, h5⟩ h6 => hK s0 a w h5 (h6.eqv h4.symm)) _ _ st a _ ?_ ⟨g, lam, hs.drew _⟩
  have hget : ∀ {j : Nat} {oj : Oper}, ops[j]? = some oj → oj ∈ ops.toList := fun h => by rw [Array.mem_toList_iff]; exact Array.mem_of_getElem? h
  have hks : ∀ k l, lk nY.kw k = some l → ¬ k ∉ nY.ks := by
    intro k l h
    have : ∀ kw : List (Nat × List Nat), kw.all (fun p => nY.ks.contains p.1) = true → lk kw k = some l → ¬ k ∉ nY.ks := by
      intro kw
      induction kw with
      | nil => intro _ h; simp [lk] at h
      | cons p r ih =>
        intro h1 h2
        simp only [List.all_cons, Bool.and_eq_true] at h1
        obtain ⟨k', l'⟩ := p
        simp only [lk] at h2
        split at h2
        · rename_i hk; subst hk; have := h1.1; simp at this; simpa using this
        · exact ih h1.2 h2
    exact this _ hkk h
  refine zlu (fun he j k oj ok hj hk hb hjk d hd => ?_) hks t _ st (by rw [h3]; exact h2) (fun j oj _ hl => ?_) (fun he j oj hj hb _ d hd => zhe hbf he oj (hget hj) hb d hd) hx
  · rcases h1 with (h1 | h1) | h1
    · rw [he] at h1; cases h1
    · rw [List.all_eq_true] at h1
      rw [h1 oj (hget hj)] at hb; cases hb
    · exact zlf h1 oj j (by rw [List.mem_zipIdx_iff_getElem?]; simpa using hj) hb k ok hk hjk d hd
  · have : (Array.replicate t.size false).getD j false = false := by
      rcases Nat.lt_or_ge j t.size with h | h
      · simp [h]
      · simp [h]
    rw [this] at hl; cases hl
end Go.Sx
