/- A part of the proofs of this seat: YJ. No condition is set. -/
import Derived.Test.YthjjpbcmimpjbaaGreatYB
import Derived.Test.YthjjpbcmimpjbaaGreatYE
import Derived.Test.YthjjpbcmimpjbaaGreatYF
import Derived.Test.YthjjpbcmimpjbaaGreatYG
import Derived.Test.YthjjpbcmimpjbaaGreatYI
set_option maxHeartbeats 48000000
set_option linter.unusedVariables false
set_option linter.unusedSimpArgs false
set_option maxRecDepth 20000
namespace Go.Sx
def iF (n : Int) : Nat := cn (FloatKind.f64.nearest n)
def sgF (x : Nat) : Nat := if (flt (cn 0) x || feq x (cn 0)) = true then 4607182418800017408 else 13830554455654793216
def sgL (x : List Nat) : List Nat := x.map sgF
@[simp] theorem znm (x : List Nat) : (sgL x).length = x.length := by simp [sgL]
structure MS where
  n : Nat
  st : Nat
  est : Nat
  v : List Nat
  s : List Nat
  j : Nat
  ct : Nat
def LV (l : List Nat) : AV := if l = [] then .slnil else .sl none l.length (fl l)
theorem z2p (H : List (List AV)) (l : List Nat) : FL H (LV l) l := by
  unfold LV; split
  · rename_i h; subst h; exact FL.nil H
  · exact FL.fz H none l
theorem zcc (l : List Nat) : mx (LV l) = 0 := by
  unfold LV; split
  · rfl
  · simp only [mx, zak]
theorem zpj {l : List Nat} (h : 0 < l.length) : LV l = .sl none l.length (fl l) := by
  unfold LV; rw [if_neg (by intro e; subst e; simp at h)]
def mCe (M : MS) : List AV := [.int .i64 (M.n : Int), .int .i64 (M.st : Int), .flt M.est, LV M.v, LV M.s, .int .i64 (M.j : Int), .int .i64 (M.ct : Int)]
@[simp] theorem z94 (M : MS) : (mCe M).length = 7 := rfl
theorem zs4 (M : MS) : mxL (mCe M) = 0 := by simp [mCe, mxL, mx, zcc]
def yB (n : Nat) : Nat → Nat := fun _ => fdiv 4607182418800017408 (iF (n : Int))
def yU (j : Nat) : Nat → Nat := fun i => if i = j then 4607182418800017408 else 0
def yL (n : Nat) : Nat → Nat := fun i => if i % 2 = 1 then z7z (zjr 4607182418800017408 (fdiv (iF (i : Int)) (iF ((n : Int) - 1)))) else zjr 4607182418800017408 (fdiv (iF (i : Int)) (iF ((n : Int) - 1)))
def bet (M : MS) (t : Nat) (x : List Nat) : MS := if flt M.est t = true then { M with est := t, v := x } else M
def t5 (n t : Nat) : Nat := zeu 4611686018427387904 (fdiv t (iF (3 * (n : Int))))
def nxt (M : MS) (x : List Nat) : MS × List Nat × Int :=
  match M.st with
  | 0 => ({ M with st := 1 }, rml (yB M.n) M.n, 1)
  | 1 => if 1 < M.n then ({ M with est := zbe x, v := x, s := sgL x, st := 2 }, sgL x, 2) else ({ M with est := zbe x, v := x, st := 6 }, [], 0)
  | 2 => ({ M with j := moN x x.length, ct := 2, st := 3 }, rml (yU (moN x x.length)) M.n, 1)
  | 3 => if sgL x = M.s ∨ (flt (zbe x) M.est || feq (zbe x) M.est) = true then ({ bet M (zbe x) x with st := 5 }, rml (yL M.n) M.n, 1)
    else ({ bet M (zbe x) x with s := sgL x, st := 4 }, sgL x, 2)
  | 4 => if feq (zbm (x.getD M.j 0)) (zbm (x.getD (moN x x.length) 0)) = false ∧ M.ct < 5 then ({ M with j := moN x x.length, ct := M.ct + 1, st := 3 }, rml (yU (moN x x.length)) M.n, 1)
    else ({ M with j := moN x x.length, st := 5 }, rml (yL M.n) M.n, 1)
  | 5 => ({ bet M (t5 M.n (zbe x)) x with st := 6 }, [], 0)
  | _ => (M, [], 0)
structure MOk (M : MS) : Prop where
  n1 : 1 ≤ M.n
  n64 : M.n ≤ 64
  j : M.j < M.n
  ct : M.ct ≤ 5
  s : ∀ y ∈ M.s, y = 4607182418800017408 ∨ y = 13830554455654793216
  v : M.v.length ≤ M.n
  sl : M.s.length ≤ M.n
theorem z1h (x : Nat) : sgF x = 4607182418800017408 ∨ sgF x = 13830554455654793216 := by unfold sgF; split <;> simp
theorem znn {x : List Nat} : ∀ y ∈ sgL x, y = 4607182418800017408 ∨ y = 13830554455654793216 := by
  intro y hy
  obtain ⟨z, _, rfl⟩ := List.mem_map.1 hy
  exact z1h z
theorem zza (M : MS) (t : Nat) (x : List Nat) : (bet M t x).n = M.n ∧ (bet M t x).j = M.j ∧ (bet M t x).ct = M.ct ∧ (bet M t x).s = M.s ∧ (bet M t x).st = M.st := by
  unfold bet; split <;> simp
theorem z8v {M : MS} {t : Nat} {x : List Nat} (hv : M.v.length ≤ M.n) (hx : x.length = M.n) : (bet M t x).v.length ≤ M.n := by
  unfold bet; split
  · simp [hx]
  · exact hv
def mu (M : MS) : Nat :=
  match M.st with
  | 0 => 20
  | 1 => 19
  | 2 => 18
  | 3 => 2 * (5 - M.ct) + 4
  | 4 => 2 * (5 - M.ct) + 3
  | 5 => 1
  | _ => 0
theorem zx9 {M : MS} {x : List Nat} (h : MOk M) (hx : M.st = 0 ∨ x.length = M.n) (h5 : M.st ≤ 5) (hs0 : M.st ≤ 1 → M.s = [] ∧ M.v = []) :
    (nxt M x).1.n = M.n ∧ (((nxt M x).2.2 = 0 ∧ (nxt M x).1.st = 6) ∨ (((nxt M x).2.2 = 1 ∨ (nxt M x).2.2 = 2) ∧ (nxt M x).2.1.length = M.n ∧ MOk (nxt M x).1 ∧ (nxt M x).1.st ≤ 5 ∧ 1 ≤ (nxt M x).1.st ∧ mu (nxt M x).1 < mu M ∧ ((nxt M x).1.st ≤ 1 → (nxt M x).1.s = [] ∧ (nxt M x).1.v = []))) := by
  obtain ⟨a1, a2, a3, a4, a5, a7, a8⟩ := h
  have hml : ∀ x : List Nat, 0 < x.length → moN x x.length < x.length := fun x h => zg4 x _ h
  have hc : M.st = 0 ∨ M.st = 1 ∨ M.st = 2 ∨ M.st = 3 ∨ M.st = 4 ∨ M.st = 5 := by omega
  rcases hc with e | e | e | e | e | e
  · obtain ⟨b1, b2⟩ := hs0 (by omega)
    simp only [nxt, e]
    exact ⟨by simp, .inr ⟨.inl (by simp), by simp, ⟨a1, a2, a3, a4, a5, a7, a8⟩, by simp, by simp, by simp [mu, e], fun _ => ⟨b1, b2⟩⟩⟩
  · have hx' : x.length = M.n := by omega
    simp only [nxt, e]
    split
    · exact ⟨by simp, .inr ⟨.inr (by simp), by simp [hx'], ⟨a1, a2, a3, a4, znn, by simp [hx'], by simp [hx']⟩, by simp, by simp, by simp [mu, e], by simp⟩⟩
    · exact ⟨by simp, .inl ⟨by simp, by simp⟩⟩
  · have hx' : x.length = M.n := by omega
    have := hml x (by omega)
    simp only [nxt, e]
    exact ⟨by simp, .inr ⟨.inl (by simp), by simp, ⟨a1, a2, by simp; omega, by simp, a5, a7, a8⟩, by simp, by simp, by simp [mu, e], by simp⟩⟩
  · have hx' : x.length = M.n := by omega
    obtain ⟨c1, c2, c3, c4, c5⟩ := zza M (zbe x) x
    have c6 := z8v (t := zbe x) a7 hx'
    simp only [nxt, e]
    split
    · exact ⟨c1, .inr ⟨.inl (by simp), by simp, ⟨by simpa [c1] using a1, by simpa [c1] using a2, by simpa [c1, c2] using a3, by simpa [c3] using a4, by simpa [c4] using a5, by simpa [c1] using c6, by simpa [c1, c4] using a8⟩, by simp, by simp, by simp [mu, e], by simp⟩⟩
    · exact ⟨c1, .inr ⟨.inr (by simp), by simp [hx'], ⟨by simpa [c1] using a1, by simpa [c1] using a2, by simpa [c1, c2] using a3, by simpa [c3] using a4, znn, by simpa [c1] using c6, by simp [c1, hx']⟩, by simp, by simp, by simp [mu, e, c3], by simp⟩⟩
  · have hx' : x.length = M.n := by omega
    have := hml x (by omega)
    simp only [nxt, e]
    split
    · rename_i h9
      exact ⟨by simp, .inr ⟨.inl (by simp), by simp, ⟨a1, a2, by simp; omega, by simp; omega, a5, a7, a8⟩, by simp, by simp, by simp [mu, e]; omega, by simp⟩⟩
    · exact ⟨by simp, .inr ⟨.inl (by simp), by simp, ⟨a1, a2, by simp; omega, a4, a5, a7, a8⟩, by simp, by simp, by simp [mu, e], by simp⟩⟩
  · obtain ⟨c1, c2, c3, c4, c5⟩ := zza M (t5 M.n (zbe x)) x
    simp only [nxt, e]
    exact ⟨c1, .inl ⟨by simp, by simp⟩⟩
section
variable (f1 f2 : List Nat → List Nat) (M : MS)
def prM (r : MS × List Nat × Int) : List Nat := if r.2.2 = 2 then f2 r.2.1 else f1 r.2.1
def runM : Nat → MS × List Nat × Int
  | 0 => nxt M []
  | k + 1 => nxt (runM k).1 (prM f1 f2 (runM k))
end
theorem run_end {f1 f2 : List Nat → List Nat} {M : MS} (h : MOk M) (h0 : M.st = 0) (hs : M.s = [] ∧ M.v = []) (hf1 : ∀ y, y.length = M.n → (f1 y).length = M.n) (hf2 : ∀ y, y.length = M.n → (f2 y).length = M.n) :
    ∃ N, (runM f1 f2 M N).2.2 = 0 ∧ (runM f1 f2 M N).1.n = M.n ∧ ∀ k, k < N → ((runM f1 f2 M k).2.2 = 1 ∨ (runM f1 f2 M k).2.2 = 2) ∧ (runM f1 f2 M k).2.1.length = M.n ∧ (runM f1 f2 M k).1.n = M.n ∧ MOk (runM f1 f2 M k).1 ∧ (runM f1 f2 M k).1.st ≤ 5 ∧ 1 ≤ (runM f1 f2 M k).1.st ∧ ((runM f1 f2 M k).1.st ≤ 1 → (runM f1 f2 M k).1.s = [] ∧ (runM f1 f2 M k).1.v = []) := by
  have key : ∀ d k, mu (runM f1 f2 M k).1 ≤ d → ((runM f1 f2 M k).2.2 = 1 ∨ (runM f1 f2 M k).2.2 = 2) → (runM f1 f2 M k).2.1.length = M.n → (runM f1 f2 M k).1.n = M.n → MOk (runM f1 f2 M k).1 → (runM f1 f2 M k).1.st ≤ 5 → 1 ≤ (runM f1 f2 M k).1.st → ((runM f1 f2 M k).1.st ≤ 1 → (runM f1 f2 M k).1.s = [] ∧ (runM f1 f2 M k).1.v = []) →
      ∃ N, k < N ∧ (runM f1 f2 M N).2.2 = 0 ∧ (runM f1 f2 M N).1.n = M.n ∧ ∀ i, k ≤ i → i < N → ((runM f1 f2 M i).2.2 = 1 ∨ (runM f1 f2 M i).2.2 = 2) ∧ (runM f1 f2 M i).2.1.length = M.n ∧ (runM f1 f2 M i).1.n = M.n ∧ MOk (runM f1 f2 M i).1 ∧ (runM f1 f2 M i).1.st ≤ 5 ∧ 1 ≤ (runM f1 f2 M i).1.st ∧ ((runM f1 f2 M i).1.st ≤ 1 → (runM f1 f2 M i).1.s = [] ∧ (runM f1 f2 M i).1.v = []) := by
    intro d
    induction d with
    | zero =>
      intro k hmu hk hl hn hok h5 h1 hz
      exfalso
      unfold mu at hmu
      have hc : (runM f1 f2 M k).1.st = 1 ∨ (runM f1 f2 M k).1.st = 2 ∨ (runM f1 f2 M k).1.st = 3 ∨ (runM f1 f2 M k).1.st = 4 ∨ (runM f1 f2 M k).1.st = 5 := by omega
      rcases hc with e | e | e | e | e <;> rw [e] at hmu <;> simp at hmu
    | succ d ih =>
      intro k hmu hk hl hn hok h5 h1 hz
      have hpl : (prM f1 f2 (runM f1 f2 M k)).length = M.n := by
        unfold prM; split
        · exact hf2 _ hl
        · exact hf1 _ hl
      obtain ⟨g1, g2⟩ := zx9 (x := prM f1 f2 (runM f1 f2 M k)) hok (.inr (by rw [hpl, hn])) h5 hz
      have er : runM f1 f2 M (k + 1) = nxt (runM f1 f2 M k).1 (prM f1 f2 (runM f1 f2 M k)) := rfl
      rw [← er, hn] at g1 g2
      have here : ∀ i, k ≤ i → i < k + 1 → i = k := fun i a b => by omega
      rcases g2 with ⟨g3, g4⟩ | ⟨g3, g4, g5, g6, g7, g8, g9⟩
      · exact ⟨k + 1, by omega, g3, g1, fun i a b => by rw [here i a b]; exact ⟨hk, hl, hn, hok, h5, h1, hz⟩⟩
      · obtain ⟨N, n1, n2, n3, n4⟩ := ih (k + 1) (by omega) g3 g4 g1 g5 g6 g7 g9
        refine ⟨N, by omega, n2, n3, fun i a b => ?_⟩
        by_cases hi : i = k
        · rw [hi]; exact ⟨hk, hl, hn, hok, h5, h1, hz⟩
        · exact n4 i (by omega) b
  obtain ⟨g1, g2⟩ := zx9 (x := []) h (.inl h0) (by omega) (fun _ => hs)
  have er : runM f1 f2 M 0 = nxt M [] := rfl
  rw [← er] at g1 g2
  rcases g2 with ⟨g3, g4⟩ | ⟨g3, g4, g5, g6, g7, g8, g9⟩
  · exact ⟨0, g3, g1, fun k hk => absurd hk (by omega)⟩
  · obtain ⟨N, n1, n2, n3, n4⟩ := key _ 0 (Nat.le_refl _) g3 g4 g1 g5 g6 g7 g9
    exact ⟨N, n2, n3, fun k hk => n4 k (by omega) hk⟩
theorem z5h {M : MS} {x : List Nat} (hst : 1 ≤ M.st ∧ M.st ≤ 5) (hx : x.length = M.n) (hv : 2 ≤ M.st → M.v.length = M.n) : (nxt M x).1.v.length = M.n := by
  have hb : ∀ t, 2 ≤ M.st → (bet M t x).v.length = M.n := fun t h => by
    unfold bet; split
    · exact hx
    · exact hv h
  rcases (by omega : M.st = 1 ∨ M.st = 2 ∨ M.st = 3 ∨ M.st = 4 ∨ M.st = 5) with e | e | e | e | e <;> simp only [nxt, e]
  · split <;> exact hx
  · exact hv (by omega)
  · split <;> exact hb _ (by omega)
  · split <;> exact hv (by omega)
  · exact hb _ (by omega)
theorem qal {f1 f2 : List Nat → List Nat} {M : MS} {N : Nat} (h0 : M.st = 0) (hf1 : ∀ y, y.length = M.n → (f1 y).length = M.n) (hf2 : ∀ y, y.length = M.n → (f2 y).length = M.n)
    (h : ∀ k, k < N → (runM f1 f2 M k).2.1.length = M.n ∧ (runM f1 f2 M k).1.n = M.n ∧ (runM f1 f2 M k).1.st ≤ 5 ∧ 1 ≤ (runM f1 f2 M k).1.st) : ∀ k, k < N → (runM f1 f2 M (k + 1)).1.v.length = M.n := by
  have key : ∀ k, k < N → (2 ≤ (runM f1 f2 M k).1.st → (runM f1 f2 M k).1.v.length = M.n) ∧ (runM f1 f2 M (k + 1)).1.v.length = M.n := by
    intro k
    induction k with
    | zero =>
      intro hk
      obtain ⟨a1, a2, a3, a4⟩ := h 0 hk
      have e : (runM f1 f2 M 0).1.st = 1 := by simp [runM, nxt, h0]
      refine ⟨fun h2 => by omega, ?_⟩
      have hp : (prM f1 f2 (runM f1 f2 M 0)).length = M.n := by unfold prM; split; exact hf2 _ a1; exact hf1 _ a1
      have := z5h (M := (runM f1 f2 M 0).1) (x := prM f1 f2 (runM f1 f2 M 0)) ⟨a4, a3⟩ (by rw [hp, a2]) (fun h2 => by omega)
      rw [a2] at this; exact this
    | succ k ih =>
      intro hk
      obtain ⟨_, i2⟩ := ih (by omega)
      obtain ⟨a1, a2, a3, a4⟩ := h (k + 1) hk
      refine ⟨fun _ => i2, ?_⟩
      have hp : (prM f1 f2 (runM f1 f2 M (k + 1))).length = M.n := by unfold prM; split; exact hf2 _ a1; exact hf1 _ a1
      have := z5h (M := (runM f1 f2 M (k + 1)).1) (x := prM f1 f2 (runM f1 f2 M (k + 1))) ⟨a4, a3⟩ (by rw [hp, a2]) (fun _ => by rw [i2, a2])
      rw [a2] at this; exact this
  exact fun k hk => (key k hk).2
def mDc (n st : Int) (est : Nat) (V S : AV) (j ct : Int) : List AV := [.int .i64 n, .int .i64 st, .flt est, V, S, .int .i64 j, .int .i64 ct]
theorem zm5 (M : MS) : mCe M = mDc (M.n : Int) (M.st : Int) M.est (LV M.v) (LV M.s) (M.j : Int) (M.ct : Int) := rfl
theorem zfk {n st : Int} {est : Nat} {V S : AV} {j ct : Int} (hV : mx V = 0) (hS : mx S = 0) : mxL (mDc n st est V S j ct) = 0 := by simp [mDc, mxL, mx, hV, hS]
abbrev mP (mid : Nat) : AV := .eptr (.slm mid 7 0 1 7) 0
section
variable {P : Program} {cfg : Cfg} {e : List (Nat × EV)} {L : List (Nat × List AV)} {H N : List (List AV)} {K : St → Prop} {ty : TypeId} {pos : String} {aft : Array Edge} {gd : Option (Nat × Bool)} {dd : Nat}
theorem zvw {t : TypeId} {mid off : Nat} {cs : List AV} {c : AV} [i : TyI P t 1 false] (hb : mid < H.length) (hg : cs.length = 7) (hl : cs[off]? = some c) (hk : K ⟨(dd, .val c) :: e, L, H.set mid cs ++ N⟩) :
    zbu P t dd K ⟨e, L, H.set mid cs ++ N⟩ (.val (.eptr (.slm mid 7 0 1 7) off)) :=
  zj3 (zft hb) hg (by rw [Nat.zero_add]; exact hl) hk
theorem zms {t : TypeId} {x v : Operand} {mid off : Nat} {a : Bool} {cs cs' : List AV} {c : AV} {ev : EV} [ti : TyI P t 1 a] (hx : St.ev ⟨e, L, H.set mid cs ++ N⟩ x = .val (.eptr (.slm mid 7 0 1 7) off)) (hv : St.ev ⟨e, L, H.set mid cs ++ N⟩ v = ev) (hvs : ev.asV.bind AV.cells = some [c])
    (hb : mid < H.length) (hg : cs.length = 7) (ho : off < 7) (hm : mx c = 0) (hcs : cs.set off c = cs') (h : K ⟨e, L, H.set mid cs' ++ N⟩) :
    opX P cfg ⟨none, .store t x v, ty, pos, aft, gd⟩ K ⟨e, L, H.set mid cs ++ N⟩ := by
  subst hcs
  refine zq8 hx hv hvs rfl (zdw (zft hb)) hg (by simp; omega) (.inr (by simp [mxL, hm])) rfl ?_
  rw [Nat.zero_add, zo8, zdl (by simpa using hb), List.set_set]; exact h
end
section
variable {H N : List (List AV)} {mid : Nat} {c c' : List AV} {v : AV}
theorem zeo (hb : mid < H.length) (B : List (List AV)) (y : List AV) : (H ++ B).set mid c ++ [y] = H.set mid c ++ (B ++ [y]) := by rw [zdl hb, List.append_assoc]
theorem zbf (hb : mid < H.length) (B : List (List AV)) : (H ++ B).set mid c = H.set mid c ++ B := zdl hb
theorem zu8 (hb : mid < H.length) : ((H ++ [[v]]).set mid c ++ N)[H.length + 0]? = some [v] := by
  rw [zdl hb, List.append_assoc]; exact za9 (by simp) rfl
theorem zv0 (hb : mid < H.length) (B : List (List AV)) : ((H ++ B).set mid c ++ N)[mid]? = some c := zdw (zft (by simp; omega))
theorem zbk.mdl {n : Nat} {N' : List (List AV)} (hn : n ≤ H.length) (hm : mxL c' = 0) : zbk n (H.set mid c ++ N) (H.set mid c' ++ N') := by
  have h := zbk.set (A := H.set mid c) (N := N) (N' := N') (n := n) (i := mid) (cs := c') (by simpa using hn) (by rw [hm]; exact Nat.zero_le _)
  rwa [List.set_set] at h
end
theorem z92 {e e' : List (Nat × EV)} {L : List (Nat × List AV)} {H N : List (List AV)} {K : St → Prop} {nY : NY} {o : Oper} {mid : Nat} {c c' : List AV} (hb : mid < H.length) (hW : ∀ id, nY.W id = true → id ≠ mid) (h : K ⟨e', L, H.set mid c' ++ N⟩) : ckK (.mn false) nY o ⟨e, L, H.set mid c ++ N⟩ K ⟨e', L, H.set mid c' ++ N⟩ := by
  refine ⟨⟨fun _ _ => rfl, fun id hw _ => ?_⟩, h⟩
  have hne : id ≠ mid := hW id (by rcases hw with hw | hw; exact absurd hw (by simp); exact hw)
  rcases Nat.lt_or_ge id H.length with h1 | h1
  · rw [List.getElem?_append_left (by simpa using h1), List.getElem?_append_left (by simpa using h1), List.getElem?_set_ne (by omega), List.getElem?_set_ne (by omega)]
  · rw [List.getElem?_append_right (by simpa using h1), List.getElem?_append_right (by simpa using h1)]; simp
theorem zur : cn 4607182418800017408 = 4607182418800017408 := by decide
theorem zzh : cn 4611686018427387904 = 4611686018427387904 := by decide
theorem zmu : cn 13830554455654793216 = 13830554455654793216 := by decide
def wrF (g : Nat → Nat) (k : Nat) : Nat → Nat := fun i => if i < k then g i else 0
theorem z2a (g : Nat → Nat) (n : Nat) : List.replicate n 0 = rml (wrF g 0) n := by
  apply List.ext_getElem
  · simp
  · intro i h1 h2; simp [rml, wrF]
theorem z19 {g : Nat → Nat} {n k : Nat} (hk : k < n) : (rml (wrF g k) n).set k (g k) = rml (wrF g (k + 1)) n := by
  apply List.ext_getElem
  · simp
  · intro i h1 h2
    rw [List.getElem_set]
    simp only [rml, List.getElem_map, List.getElem_range]
    unfold wrF
    by_cases h : k = i
    · subst h; rw [if_pos rfl, if_pos (by omega)]
    · rw [if_neg h]
      by_cases h9 : i < k
      · rw [if_pos h9, if_pos (by omega)]
      · rw [if_neg h9, if_neg (by omega)]
theorem z7l (g : Nat → Nat) (n : Nat) : rml (wrF g n) n = rml g n := zbw fun i hi => by unfold wrF; rw [if_pos hi]
theorem zw4 (l : List Nat) : zw3 l 0 (l.length : Int) 1 = l := by
  apply List.ext_getElem
  · simp
  · intro i h1 h2
    have e := zpf (l := l) (off := 0) (n := (l.length : Int)) (inc := 1) (k := i) (by simpa using h1)
    rw [show ((0 : Int) + (i : Int) * 1).toNat = i by omega] at e
    simp only [List.getD_eq_getElem?_getD, List.getElem?_eq_getElem h1, List.getElem?_eq_getElem h2, Option.getD_some] at e
    exact e
theorem zmo {l : List Nat} (h : l.length ≤ 64) : VI l.length 0 (l.length : Int) 1 ∧ za8 l.length 0 (l.length : Int) 1 := by
  refine ⟨⟨by omega, by omega, by omega, by omega, by omega, by omega, by omega⟩, ?_⟩
  unfold za8; omega
theorem zt2 {x y : Nat} (hx : x = 4607182418800017408 ∨ x = 13830554455654793216) (hy : y = 4607182418800017408 ∨ y = 13830554455654793216) : feq x y = decide (x = y) := by
  rcases hx with rfl | rfl <;> rcases hy with rfl | rfl <;> decide +kernel
theorem zvj (l m : List Nat) (h : l.length = m.length) : l = m ∨ ∃ z, z < l.length ∧ (∀ k, k < z → l.getD k 0 = m.getD k 0) ∧ l.getD z 0 ≠ m.getD z 0 := by
  obtain ⟨z, h1, h2, h3⟩ := zdu (fun k => l.getD k 0 = m.getD k 0) l.length
  by_cases hz : z < l.length
  · exact .inr ⟨z, hz, h2, h3 hz⟩
  · left
    apply List.ext_getElem h
    intro i a b
    have := h2 i (by omega)
    simpa [List.getD_eq_getElem?_getD, List.getElem?_eq_getElem a, List.getElem?_eq_getElem b] using this
end Go.Sx
set_option linter.unusedVariables false
set_option linter.unusedSimpArgs false
set_option maxRecDepth 20000
namespace Go.Sx
open Go.Proofs
theorem zvn {n k z : Nat} {A N : List (List AV)} {l : List Nat} (hA : A.length = n) (h : N[k]? = some (fl l)) (hl : l.length = z) : Fr n [] (A ++ N) (.slm (n + k) z 0 z 1) (.sl none z (fl l)) :=
  Fr.fz (by omega) (by simp) (za9 hA h) (by simpa using hl) (ze9 _ (by simp [hl])) (Frs.old (by rw [zak]; exact Nat.zero_le _))
attribute [local irreducible] Ex za3 exD opX opE zca zd3 zd4 Spec zaa Fr zb9 zbb zba ckK zb8 zb6 zbu faK zb4 zd1 gK fK rK zeq lpX prK
theorem zzg (H : List (List AV)) (D : AV) (l : List Nat) (hF : FL H D l) (hB : l.length ≤ 2 ^ 30) (hN : NN D) :
    zaa Tryz.prog 106 [D] H (.sl none l.length (fl l)) H := by
  refine .go Tryz.call106 Tryz.func106 false [] dOk ?_
  simp only [za0, Nat.reduceAdd]
  repeat' (first
 |(refine zav ?_; (first | refine zbd ?_ | refine zao ?_ | fail))
 |(refine zaw ?_; (first | refine m14 ?_ | refine zxd hN (by (conv => {lhs; whnf}); done) (by exact rfl) ?_ | refine zgs (by exact rfl) (by exact rfl) (by decide) (by exact rfl) (by (conv => {lhs; whnf}); done) ?_ | refine zfp (by (conv => {lhs; whnf}); done) (by (conv => {lhs; whnf}); done) (by exact rfl) (by exact rfl) (by exact zjh hF) (by simp) (by exact rfl) (by simp; omega) (.inl (Nat.le_refl _)) (by exact rfl) (by (conv => {lhs; simp only [List.nil_append, zfr, zg2]}); done) (by (conv => {lhs; simp only [List.set_cons_zero, List.set_cons_succ]}); done) (by (conv => {lhs; simp only [zd9, zgi, List.length_append, List.length_nil, Nat.zero_add]}); done) (by (conv => {lhs; simp only [Nat.zero_add]}); done) ?_ | (refine m45 ?_; (first | refine zb3 (by exact rfl) ?_ | refine v_k ?_ | fail)) | (refine m00 ?_; (first | refine m52 ?_ | refine m53 ?_ | refine zc7 ?_ | refine m49 ?_ | refine m50 ?_ | refine v_k ?_ | refine m51 ?_ | fail)) | refine m42 ?_ | refine zab ?_ | refine zac ?_ | refine m08 ?_ | refine zc2 (by exact rfl) (by exact rfl) (by decide) ?_ | fail))
 |refine zat ?_ | refine zau ?_ | refine zas ?_
 |(refine zax ?_; (first | refine zar ?_ | refine zad ?_ | (refine m06 ?_; (first | refine c_T ?_ | refine c_F ?_ | refine c_P ?_ ?_ | refine c_B ?_ ?_ | fail)) | refine zaq ?_ | refine zah ?_ | refine zae ?_ | refine b_exit ?_ | fail))
 |refine m44 ?_
 |refine m40 ?_
 |(refine zbc (by (conv => {lhs; simp only [List.nil_append, List.cons_append]}); done) ?_; first | refine ⟨by exact rfl, ?_⟩ | skip)
 |refine zbt ?_
 |(intro N' hN'; simp only [List.nil_append, List.cons_append] at hN'; subst hN')
 |refine m05 ?_
 |refine m04 ?_ | refine m02 ?_ | refine m03 ?_ | refine zai ?_
 |(refine ⟨by simp [zm9], fun N' hN' => ?_⟩; simp only [List.nil_append, List.cons_append] at hN'; subst hN')
 |intro _)
  all_goals first
    | exact zb5 rfl (zvn rfl rfl rfl)
theorem z4m (H : List (List AV)) (X : AV) (l : List Nat) (hF : FL H X l) :
    zaa Tryz.prog 149 [X] H (vt X 0 (l.length : Int) 1) H := by
  refine .go Tryz.call149 Tryz.func149 false [] dOk ?_
  simp only [za0, Nat.reduceAdd]
  repeat' (first
 |(refine zav ?_; (first | refine zbd ?_ | refine zao ?_ | fail))
 |(refine zaw ?_; (first | refine m14 ?_ | refine zam (by (conv => {lhs; whnf}); done) (by exact hF.len) ?_ | refine zam (by (conv => {lhs; whnf}); done) (by first | rfl | assumption) ?_ | refine m25 ?_ | refine m24 ?_ | refine zc9 ?_ | fail))
 |refine zat ?_ | refine zau ?_ | refine zas ?_
 |(refine zax ?_; (first | refine zar ?_ | refine zad ?_ | (refine m06 ?_; (first | refine c_T ?_ | refine c_F ?_ | refine c_P ?_ ?_ | refine c_B ?_ ?_ | fail)) | refine zaq ?_ | refine zah ?_ | refine zae ?_ | refine b_exit ?_ | fail))
 |refine m58 ?_
 |refine zd8 ?_
 |refine m05 ?_
 |refine m04 ?_ | refine m02 ?_ | refine m03 ?_ | refine zai ?_
 |intro _)
  all_goals first
    | (exfalso; contradiction)
    | (exfalso; omega)
    | (refine zal rfl (by have h9 := hF.mx; simp [mx, mxL, zaf, aOf, zbn, vt, h9]) ?_; simp only [zur, zzh, zmu]; exact rfl)
    | (refine zal rfl (by have h9 := hF.mx; simp [mx, mxL, zaf, aOf, zbn, vt, h9]) ?_; exact rfl)
    | (exfalso; simp_all; done)
theorem qcy (H : List (List AV)) (mid : Nat) (cs : List AV) (hm : H[mid]? = some cs) (h7 : cs.length = 7) (bk : Nat) (hbk : H[bk]? = some [mP mid]) (n : Int) (hc : cs[0]? = some (.int .i64 n)) (i : Int) :
    zaa Tryz.prog 147 [.int .i64 i, .eptr (.slm bk 1 0 1 1) 0] H (.flt (fdiv 4607182418800017408 (iF n))) H := by
  refine .go Tryz.call147 Tryz.func147 false [] dOk ?_
  simp only [za0, Nat.reduceAdd]
  repeat' (first
 |(refine zav ?_; (first | refine zbd ?_ | refine zao ?_ | fail))
 |(refine zaw ?_; (first | (refine m17 ?_; first | refine m19 ?_ | refine m18 ?_) | (refine m07 ?_; (first | refine m15 ?_ | refine m16 ?_ | refine zj3 hbk (by exact rfl) (by exact rfl) ?_ | refine zj3 hm h7 (by rw [Nat.zero_add]; exact hc) ?_ | fail)) | refine zc3 (by (conv => {lhs; whnf}); done) ?_ | (refine m00 ?_; (first | refine m49 ?_ | refine m50 ?_ | refine zh7 (by omega) (by omega) ?_ | refine v_k ?_ | refine m51 ?_ | fail)) | refine m42 ?_ | refine zab ?_ | refine zac ?_ | refine m08 ?_ | (refine m46 ?_; (first | refine m49 ?_ | refine m50 ?_ | refine zh7 (by omega) (by omega) ?_ | refine v_k ?_ | refine m51 ?_ | fail)) | refine zey (by (conv => {lhs; whnf}); done) (by exact rfl) ?_ | refine zdn (by (conv => {lhs; whnf}); done) ?_ | fail))
 |refine zat ?_ | refine zau ?_ | refine zas ?_
 |(refine zax ?_; (first | refine zar ?_ | refine zad ?_ | (refine m06 ?_; (first | refine c_T ?_ | refine c_F ?_ | refine c_P ?_ ?_ | refine c_B ?_ ?_ | fail)) | refine zaq ?_ | refine zah ?_ | refine zae ?_ | refine b_exit ?_ | fail))
 |refine m05 ?_
 |refine m04 ?_ | refine m02 ?_ | refine m03 ?_ | refine zai ?_
 |intro _)
  all_goals first
    | (exfalso; contradiction)
    | (exfalso; omega)
    | (refine zal rfl (by simp [mx, mxL, zaf, aOf, zbn]) ?_; simp only [zur, zzh, zmu]; exact rfl)
    | (refine zal rfl (by simp [mx, mxL, zaf, aOf, zbn]) ?_; exact rfl)
    | (exfalso; simp_all; done)
theorem qc0 (H : List (List AV)) (mid : Nat) (cs : List AV) (hm : H[mid]? = some cs) (h7 : cs.length = 7) (bk : Nat) (hbk : H[bk]? = some [mP mid]) (X : AV) (hc : cs[4]? = some X) (x : List Nat) (hX : FL H X x) (i : Nat) (hi : i < x.length) :
    zaa Tryz.prog 172 [.int .i64 (i : Int), .eptr (.slm bk 1 0 1 1) 0] H (.flt (x.getD i 0)) H := by
  refine .go Tryz.call172 Tryz.func172 false [] dOk ?_
  simp only [za0, Nat.reduceAdd]
  repeat' (first
 |(refine zav ?_; (first | refine zbd ?_ | refine zao ?_ | fail))
 |(refine zaw ?_; (first | refine m14 ?_ | (refine m17 ?_; first | refine m19 ?_ | refine m18 ?_) | (refine m07 ?_; (first | refine m15 ?_ | refine m16 ?_ | refine zj3 hbk (by exact rfl) (by exact rfl) ?_ | refine zj3 hm h7 (by rw [Nat.zero_add]; exact hc) ?_ | refine zdy (FL.app hX _) hi ?_ | fail)) | refine zc3 (by (conv => {lhs; whnf}); done) ?_ | refine zbz (by (conv => {lhs; whnf}); done) (by (conv => {lhs; whnf}); done) (by exact hX.len) (by omega) ?_ | refine m42 ?_ | refine zab ?_ | refine zac ?_ | refine m08 ?_ | fail))
 |refine zat ?_ | refine zau ?_ | refine zas ?_
 |(refine zax ?_; (first | refine zar ?_ | refine zad ?_ | (refine m06 ?_; (first | refine c_T ?_ | refine c_F ?_ | refine c_P ?_ ?_ | refine c_B ?_ ?_ | fail)) | refine zaq ?_ | refine zah ?_ | refine zae ?_ | refine b_exit ?_ | fail))
 |refine m05 ?_
 |refine m04 ?_ | refine m02 ?_ | refine m03 ?_ | refine zai ?_
 |intro _)
  all_goals first
    | (exfalso; contradiction)
    | (exfalso; omega)
    | (refine zal rfl (by simp [mx, mxL, zaf, aOf, zbn]) ?_; simp only [zur, zzh, zmu]; exact rfl)
    | (refine zal rfl (by simp [mx, mxL, zaf, aOf, zbn]) ?_; exact rfl)
    | (exfalso; simp_all; done)
theorem qc7 (H : List (List AV)) (mid : Nat) (cs : List AV) (hm : H[mid]? = some cs) (h7 : cs.length = 7) (bk : Nat) (hbk : H[bk]? = some [mP mid]) (j : Nat) (hc : cs[5]? = some (.int .i64 (j : Int))) (i : Nat) :
    zaa Tryz.prog 173 [.int .i64 (i : Int), .eptr (.slm bk 1 0 1 1) 0] H (.flt (yU j i)) H := by
  refine .go Tryz.call173 Tryz.func173 false [] dOk ?_
  simp only [za0, Nat.reduceAdd]
  repeat' (first
 |(refine zav ?_; (first | refine zbd ?_ | refine zao ?_ | fail))
 |(refine zaw ?_; (first | refine m14 ?_ | (refine m17 ?_; first | refine m19 ?_ | refine m18 ?_) | (refine m07 ?_; (first | refine m15 ?_ | refine m16 ?_ | refine zj3 hbk (by exact rfl) (by exact rfl) ?_ | refine zj3 hm h7 (by rw [Nat.zero_add]; exact hc) ?_ | fail)) | refine zc3 (by (conv => {lhs; whnf}); done) ?_ | (refine m45 ?_; (first | refine zb3 (by exact rfl) ?_ | refine v_k ?_ | fail)) | (refine m00 ?_; (first | refine m52 ?_ | refine m53 ?_ | refine zc7 ?_ | refine m49 ?_ | refine m50 ?_ | refine v_k ?_ | refine m51 ?_ | fail)) | refine m42 ?_ | refine zab ?_ | refine zac ?_ | refine m08 ?_ | fail))
 |refine zat ?_ | refine zau ?_ | refine zas ?_
 |(refine zax ?_; (first | refine zar ?_ | refine zad ?_ | (refine m06 ?_; (first | refine c_T ?_ | refine c_F ?_ | refine c_P ?_ ?_ | refine c_B ?_ ?_ | fail)) | refine zaq ?_ | refine zah ?_ | refine zae ?_ | refine b_exit ?_ | fail))
 |refine m05 ?_
 |refine m04 ?_ | refine m02 ?_ | refine m03 ?_ | refine zai ?_
 |intro _)
  all_goals first
    | (refine zal rfl (by simp [mx, mxL, zaf, aOf, zbn]) ?_; unfold yU; rw [if_pos (by omega)]; exact rfl)
    | (refine zal rfl (by simp [mx, mxL, zaf, aOf, zbn]) ?_; unfold yU; rw [if_neg (by omega)]; exact rfl)
theorem qcz (H : List (List AV)) (mid : Nat) (cs : List AV) (hm : H[mid]? = some cs) (h7 : cs.length = 7) (bk : Nat) (hbk : H[bk]? = some [mP mid]) (n : Nat) (hn : n ≤ 64) (hc : cs[0]? = some (.int .i64 (n : Int))) (i : Nat) (hi : i < 64) :
    zaa Tryz.prog 176 [.int .i64 (i : Int), .eptr (.slm bk 1 0 1 1) 0] H (.flt (yL n i)) H := by
  refine .go Tryz.call176 Tryz.func176 false [] dOk ?_
  simp only [za0, Nat.reduceAdd]
  repeat' (first
 |(refine zav ?_; (first | refine zbd ?_ | refine zao ?_ | fail))
 |(refine zaw ?_; (first | refine m14 ?_ | (refine m17 ?_; first | refine m19 ?_ | refine m18 ?_) | (refine m07 ?_; (first | refine m15 ?_ | refine m16 ?_ | refine zj3 hbk (by exact rfl) (by exact rfl) ?_ | refine zj3 hm h7 (by rw [Nat.zero_add]; exact hc) ?_ | fail)) | refine zc3 (by (conv => {lhs; whnf}); done) ?_ | (refine m45 ?_; (first | refine zb3 (by exact rfl) ?_ | refine v_k ?_ | fail)) | (refine m00 ?_; (first | refine m52 ?_ | refine m53 ?_ | refine zc7 ?_ | refine m49 ?_ | refine m50 ?_ | refine zgq (by omega) (by omega) ?_ | refine zh7 (by omega) (by omega) ?_ | refine v_k ?_ | refine m51 ?_ | fail)) | refine m42 ?_ | refine zab ?_ | refine zac ?_ | refine m08 ?_ | (refine m20 ?_; (first | refine m52 ?_ | refine m53 ?_ | refine zc7 ?_ | refine m49 ?_ | refine m50 ?_ | refine zgq (by omega) (by omega) ?_ | refine zh7 (by omega) (by omega) ?_ | refine v_k ?_ | refine m51 ?_ | fail)) | (refine m46 ?_; (first | refine m52 ?_ | refine m53 ?_ | refine zc7 ?_ | refine m49 ?_ | refine m50 ?_ | refine zgq (by omega) (by omega) ?_ | refine zh7 (by omega) (by omega) ?_ | refine v_k ?_ | refine m51 ?_ | fail)) | refine zey (by (conv => {lhs; whnf}); done) (by exact rfl) ?_ | refine zdn (by (conv => {lhs; whnf}); done) ?_ | fail))
 |refine zat ?_ | refine zau ?_ | refine zas ?_
 |(refine zax ?_; (first | refine zar ?_ | refine zad ?_ | (refine m06 ?_; (first | refine c_T ?_ | refine c_F ?_ | refine c_P ?_ ?_ | refine c_B ?_ ?_ | fail)) | refine zaq ?_ | refine zah ?_ | refine zae ?_ | refine b_exit ?_ | fail))
 |refine m05 ?_
 |refine m04 ?_ | refine m02 ?_ | refine m03 ?_ | refine zai ?_
 |intro _)
  all_goals first
    | (refine zal rfl (by simp [mx, mxL, zaf, aOf, zbn]) ?_; unfold yL; rw [if_pos (by omega)]; simp only [zur]; exact rfl)
    | (refine zal rfl (by simp [mx, mxL, zaf, aOf, zbn]) ?_; unfold yL; rw [if_neg (by omega)]; simp only [zur]; exact rfl)
theorem zu0 (H : List (List AV)) (mid : Nat) (hb : mid < H.length) (n : Nat) (hn : n ≤ 64) (st0 : Int) (est : Nat) (V S : AV) (hV : mx V = 0) (hS : mx S = 0) (j ct : Int) (st kind : Int) (fid : Nat) (caps : List AV) (g : Nat → Nat) (hcl : ∀ N i, i < n → zaa Tryz.prog fid ([.int .i64 (i : Int)] ++ caps) (H.set mid (mDc (n : Int) st est V S j ct) ++ N) (.flt (g i)) (H.set mid (mDc (n : Int) st est V S j ct) ++ N)) (H0 H' : List (List AV)) (h0 : H.set mid (mDc (n : Int) st0 est V S j ct) = H0) (h' : H.set mid (mDc (n : Int) st est V S j ct) ++ [fl (rml g n)] = H') (m : Nat) (hm9 : H.length = m) :
    zaa Tryz.prog 146 [mP mid, .int .i64 st, .int .i64 kind, .func fid [] caps] H0 (.tup [.slm m n 0 n 1, .int .i64 kind]) H' := by
  subst h0 h' hm9
  refine .go Tryz.call146 Tryz.func146 false [] dOk ?_
  simp only [za0, Nat.reduceAdd]
  repeat' (first
 |(refine zav ?_; (first | refine zbd ?_ | refine zao ?_ | fail))
 |(refine zaw ?_; (first | refine m41 ?_ | refine zb0 ?_ | refine m14 ?_ | (refine m17 ?_; first | refine m19 ?_ | refine m18 ?_) | (refine m07 ?_; (first | refine m15 ?_ | refine m16 ?_ | refine zvw hb (by exact rfl) (by exact rfl) ?_ | fail)) | refine zc3 (by (conv => {lhs; whnf}); done) ?_ | refine zms (by (conv => {lhs; whnf}); done) (by (conv => {lhs; whnf}); done) (by exact rfl) hb (by exact rfl) (by decide) (by exact rfl) (by exact rfl) ?_ | refine zy7 (n₀ := H.length) (by (conv => {lhs; whnf}); done) (by (conv => {lhs; whnf}); done) (by simp) (by (conv => {lhs; whnf}); done) (by (conv => {lhs; simp only [List.nil_append, List.cons_append]}); done) (by exact rfl) (by omega) ?_ | refine zam (by (conv => {lhs; whnf}); done) (by exact rfl) ?_ | refine zbz (by (conv => {lhs; whnf}); done) (by (conv => {lhs; whnf}); done) (by exact rfl) (by omega) ?_ | refine zh4 (m := rml (wrF g k) n) (m' := rml (wrF g (k + 1)) n) (by (conv => {lhs; whnf}); done) (by (conv => {lhs; whnf}); done) (by simp) (by exact rfl) (by simp) (by simp; omega) (by rw [Nat.zero_add]; exact z19 hk) (by exact rfl) ?_ | (refine m00 ?_; (first | refine zbo ((k + 1 : Nat) : Int) (by omega) (by omega) ?_ | refine m47 ?_ | refine m48 ?_ | refine m49 ?_ | refine m50 ?_ | refine v_k ?_ | refine m51 ?_ | fail)) | refine m42 ?_ | refine zab ?_ | refine zac ?_ | refine m08 ?_ | refine zaj ?_ | refine m39 ?_ | refine zam (by (conv => {lhs; whnf}); done) (by first | rfl | assumption) ?_ | refine m25 ?_ | fail))
 |refine zat ?_ | refine zau ?_ | refine zas ?_
 |(refine zax ?_; (first | refine zar ?_ | refine zad ?_ | (refine m06 ?_; (first | refine c_T ?_ | refine c_F ?_ | refine c_P ?_ ?_ | refine c_B ?_ ?_ | fail)) | refine zaq ?_ | refine zah ?_ | refine zae ?_ | refine b_exit ?_ | (refine za1 [2, 3, 10, 22, 23] n (fun k => ⟨[(2, .val (.int .i64 kind)), (3, .val (.func fid [] caps)), (10, .val (.slm (H.length + 0) n 0 n 1)), (22, .val (.int .i64 ((n : Nat) : Int))), (23, .val (.int .i64 ((k : Nat) : Int)))], [], H.set mid (mDc (n : Int) st est V S j ct) ++ [fl (rml (wrF g k) n)]⟩) (by rw [← z2a]; exact rfl) ?_ ?_ <;> (first | intro k hk K hK | intro K) <;> (try dsimp only at *)) | fail))
 |refine m21 ?_
 |refine za4 ?_
 |(refine za5 ?_; (first | refine cA (hcl _ k hk) ?_ | fail))
 |refine m44 ?_
 |refine m40 ?_
 |(refine zbc (by (conv => {lhs; simp only [List.nil_append, List.cons_append]}); done) ?_; first | refine ⟨by exact rfl, ?_⟩ | skip)
 |refine zbt ?_
 |(intro N' hN'; simp only [List.nil_append, List.cons_append] at hN'; subst hN')
 |refine zbh ?_ | refine zbi ?_ | refine zbg ?_ | refine m57 ?_
 |refine zdp ?_ | refine zdq ?_ | refine zdo ?_
 |(refine zdr (by exact rfl) ?_; first | exact hK | fail | (exfalso; first | omega | (simp_all; done) | (simp_all; omega)))
 |refine m05 ?_
 |refine m04 ?_ | refine m02 ?_ | refine m03 ?_ | refine zai ?_
 |intro _)
  all_goals first
    | (exfalso; omega)
    | (rw [z7l]; refine zgc (j := 0) (cs := fl (rml g n)) (by simp) rfl (by rw [zak]; exact Nat.zero_le _) ?_; simp only [List.length_set]; exact Fr.tup (Frs.cons (Fr.kp (j := 0) (cs := fl (rml g n)) rfl (za9 (by simp) rfl) (by simp)) (Frs.cons (Fr.old (by simp [mx])) Frs.nil)))
end Go.Sx
set_option linter.unusedVariables false
set_option linter.unusedSimpArgs false
namespace Go.Sx
def FrW (n₀ : Nat) (keep : List Nat) (H H' : List (List AV)) : Prop :=
  H'.length = n₀ + keep.length ∧ ∀ id cs', H'[id]? = some cs' → mxL cs' ≤ H'.length ∧ ∃ k cs, H[k]? = some cs ∧ ((id < n₀ ∧ k = id) ∨ (n₀ ≤ id ∧ keep[id - n₀]? = some k)) ∧ cs'.length = cs.length ∧ Frs n₀ keep H cs cs'
theorem zuv {w : World} {g : Gh} {n₀ : Nat} {keep : List Nat} {H : List (List AV)} (hw : WRep w g H) (hk : ∀ k ∈ keep, n₀ ≤ k) {l l' : List AV} {b o : Nat} (ha : Frs n₀ keep H l l') (hl : zdi w g l b o) : zdi w (frG g n₀ keep H) l' b o := by
  obtain ⟨d, ha⟩ := ha
  rw [zd2] at hl ⊢
  intro i c h1
  have hlt : i < l.length := by rw [ha.1]; exact (List.getElem?_eq_some_iff.1 h1).1
  obtain ⟨x, j1, j2, j3⟩ := hl i l[i] (by simp [hlt])
  exact ⟨x, j1, j2, zlj hw hk d l[i] c x (ha.2 i l[i] c (by simp [hlt]) h1) j3⟩
theorem zsa {w₀ w : World} {g₀ g : Gh} {H₀ H H' : List (List AV)} {keep : List Nat} (hw₀ : WRep w₀ g₀ H₀) (hw : WRep w g H) (hs : Since w₀ g₀ H₀ w g H) (hnd : keep.Nodup)
    (hk : ∀ k ∈ keep, H₀.length ≤ k ∧ ∃ cs, H[k]? = some cs) (hF : FrW H₀.length keep H H') :
    WRep w (frG g H₀.length keep H) H' ∧ Since w₀ g₀ H₀ w (frG g H₀.length keep H) H' := by
  have hlen : H₀.length ≤ H.length := hs.len
  obtain ⟨hfl, hF⟩ := hF
  have hrho : ∀ id cs', H'[id]? = some cs' → ∃ k cs, H[k]? = some cs ∧ (frG g H₀.length keep H).ρ id cs'.length = g.ρ k cs.length ∧ ((id < H₀.length ∧ k = id) ∨ (H₀.length ≤ id ∧ keep[id - H₀.length]? = some k ∧ H₀.length ≤ k)) ∧ cs'.length = cs.length ∧ Frs H₀.length keep H cs cs' ∧ mxL cs' ≤ H'.length := by
    intro id cs' hc
    obtain ⟨hm, k, cs, h1, h2, h3, h4⟩ := hF id cs' hc
    rcases h2 with ⟨hid, rfl⟩ | ⟨hid, hkj⟩
    · exact ⟨k, cs, h1, by simp only [frG, if_pos hid, h3], .inl ⟨hid, rfl⟩, h3, h4, hm⟩
    · refine ⟨k, cs, h1, ?_, .inr ⟨hid, hkj, (hk k (List.mem_of_getElem? hkj)).1⟩, h3, h4, hm⟩
      simp only [frG]
      rw [if_neg (by omega), hkj]
      simp [h1, h3]
  have hnf : ∀ k cs b δ, H[k]? = some cs → g.ρ k cs.length = some (b, δ) → (k < H₀.length ∨ k ∈ keep) → ¬ (frG g H₀.length keep H).Fz b := by
    rintro k cs b δ hc hp hkk (hf | ⟨id, cs', δ', h1, h2, h3, h4⟩)
    · obtain ⟨b', δ', c, e, q1, q2, q3, q4, q5, q6⟩ := hw.blk k cs hc
      rw [hp] at q1; simp only [Option.some.injEq, Prod.mk.injEq] at q1; obtain ⟨rfl, rfl⟩ := q1
      exact q5 hf
    · have := hw.inj k id cs cs' b δ δ' hc h3 hp h4
      subst this
      rcases hkk with h | h
      · omega
      · exact h2 h
  refine ⟨⟨fun id cs' hc => ?_, fun i j cs₁ cs₂ b δ₁ δ₂ h1 h2 h3 h4 => ?_, fun b hb => ?_, fun id gen b δ hp => ?_, fun id gen p hp => ?_⟩, ?_⟩
  · obtain ⟨k, cs, h1, h2, h3, h4, h5, h6⟩ := hrho id cs' hc
    obtain ⟨b, δ, c, e, q1, q2, q3, q4, q5, q6⟩ := hw.blk k cs h1
    refine ⟨b, δ, c, e, by rw [h2]; exact q1, q2, by rw [h4]; exact q3, zuv hw (fun k hkk => (hk k hkk).1) h5 q4, hnf k cs b δ h1 q1 ?_, h6⟩
    rcases h3 with ⟨h, rfl⟩ | ⟨_, h, _⟩
    · exact .inl h
    · exact .inr (List.mem_of_getElem? h)
  · obtain ⟨k, c1, p1, p2, p3, _⟩ := hrho i cs₁ h1
    obtain ⟨k', c2, r1, r2, r3, _⟩ := hrho j cs₂ h2
    rw [p2] at h3; rw [r2] at h4
    have hkk := hw.inj k k' c1 c2 b δ₁ δ₂ p1 r1 h3 h4
    subst hkk
    rcases p3 with ⟨a1, a2⟩ | ⟨a1, a2, a3⟩ <;> rcases r3 with ⟨b1, b2⟩ | ⟨b1, b2, b3⟩
    · omega
    · omega
    · omega
    · have hi := (List.getElem?_eq_some_iff.1 a2).1
      have hj := (List.getElem?_eq_some_iff.1 b2).1
      have hp := List.pairwise_iff_getElem.1 hnd
      obtain ⟨_, e1⟩ := List.getElem?_eq_some_iff.1 a2
      obtain ⟨_, e2⟩ := List.getElem?_eq_some_iff.1 b2
      rcases Nat.lt_trichotomy i j with h | h | h
      · exact absurd (e1.trans e2.symm) (hp _ _ hi hj (by omega))
      · exact h
      · exact absurd (e2.trans e1.symm) (hp _ _ hj hi (by omega))
  · rcases hb with hb | ⟨id, cs, δ, _, _, h3, h4⟩
    · exact hw.fzlt b hb
    · exact hw.rholt _ _ _ _ h4
  · simp only [frG] at hp
    split at hp
    · exact hw.rholt _ _ _ _ hp
    · split at hp
      · split at hp
        · exact hw.rholt _ _ _ _ hp
        · simp at hp
      · simp at hp
  · simp only [frG] at hp
    have key : ∀ k cs, H[k]? = some cs → ((id < H₀.length ∧ k = id) ∨ (H₀.length ≤ id ∧ keep[id - H₀.length]? = some k)) → ∃ cs', H'[id]? = some cs' ∧ cs'.length = cs.length := by
      intro k cs hc hkk
      have hlt : id < H'.length := by
        rw [hfl]
        rcases hkk with ⟨h, _⟩ | ⟨h, hj⟩
        · omega
        · have := (List.getElem?_eq_some_iff.1 hj).1; omega
      obtain ⟨_, k', cs₁, h1, h2, h3, _⟩ := hF id H'[id] (by simp [hlt])
      have : k' = k := by
        rcases hkk with ⟨h, rfl⟩ | ⟨h, hj⟩ <;> rcases h2 with ⟨h', rfl⟩ | ⟨h', hj'⟩
        · rfl
        · omega
        · omega
        · rw [hj] at hj'; simpa using hj'.symm
      subst this
      rw [hc] at h1; simp only [Option.some.injEq] at h1; subst h1
      exact ⟨H'[id], by simp [hlt], h3⟩
    split at hp
    · rename_i hid
      obtain ⟨cs, h1, h2⟩ := hw.rhoid _ _ _ hp
      obtain ⟨cs', h3, h4⟩ := key id cs h1 (.inl ⟨hid, rfl⟩)
      exact ⟨cs', h3, by omega⟩
    · rename_i hid
      split at hp
      · rename_i k hkj
        split at hp
        · rename_i hg
          obtain ⟨_, cs, h1⟩ := hk k (List.mem_of_getElem? hkj)
          rw [h1] at hg; simp only [Option.map_some, Option.some.injEq] at hg
          obtain ⟨cs', h3, h4⟩ := key k cs h1 (.inr ⟨by omega, hkj⟩)
          exact ⟨cs', h3, by omega⟩
        · simp at hp
      · simp at hp
  · refine ⟨hs.sz, hs.keep, hs.bszk, hs.fro, fun b hb => .inl (hs.fz b hb), fun b hb hlt => ?_, fun id gen p hp => ?_, fun id cs b δ hlt hc hp => ?_, by rw [hfl]; omega, hs.same⟩
    · rcases hb with hb | ⟨id, cs, δ, h1, _, h3, h4⟩
      · exact hs.fznew b hb hlt
      · obtain ⟨cs₀, h5, _⟩ := hs.hbi id cs b δ hlt h3 h4
        have := (List.getElem?_eq_some_iff.1 h5).1
        omega
    · have h1 := hs.rho id gen p hp
      have hid : id < H₀.length := hw₀.ids _ _ _ hp
      simp only [frG, if_pos hid]; exact h1
    · obtain ⟨k, c1, h1, h2, h3, h4, _⟩ := hrho id cs hc
      rw [h2] at hp
      obtain ⟨cs₀, h5, h6⟩ := hs.hbi k c1 b δ hlt h1 hp
      have hkl := (List.getElem?_eq_some_iff.1 h5).1
      rcases h3 with ⟨_, rfl⟩ | ⟨_, _, h⟩
      · exact ⟨cs₀, h5, h6⟩
      · omega
def zys (P : Program) (fn : Func) (H₀ : List (List AV)) (r : AV) (H' : List (List AV)) : XE → St → Prop := fun e st =>
  (match e with | .exit _ => False | _ => True) ∧ ∃ vs keep, (fn.results.toList.map (resV P st)).mapM id = some vs ∧ keep.Nodup ∧
    (∀ k ∈ keep, H₀.length ≤ k ∧ ∃ cs, st.H[k]? = some cs) ∧ FrW H₀.length keep st.H H' ∧ Fr H₀.length keep st.H (zaf vs) r
theorem Spec.introL {P : Program} {f : Nat} {fn : Func} {body : Code} {args : List AV} {H H' : List (List AV)} {r : AV} (hf : P.funcs[f]? = some fn) (hb : fn.body = some body)
    (hd : zdg fn.ntmps body = true) (hn : args.length ≤ fn.ntmps) (esc : Bool) (fz : List Nat) {draw : Array Oper → (St → Prop) → St → Prop} (hdr : ∀ C : Cx, C.P = P → C.cfg = ⟨esc, 0, fz⟩ → zgd C draw)
    (h : Ex P ⟨esc, 0, fz⟩ draw body (zys P fn H r H') ⟨za0 0 args, [], H⟩) : Spec P f args H r H' := by
  intro w g cargs hw hl
  have hsz : cargs.size = args.length := by have := za6 hl; simpa using this
  refine calls_of_wp hf hb ?_
  let C : Cx := ⟨P, ⟨esc, 0, fz⟩, w, g, H, fn.ntmps⟩
  have hs : zhs C ⟨za0 0 args, [], H⟩ { tmps := cargs ++ Array.replicate (fn.ntmps - cargs.size) undef, defers := [] } w := by
    refine ⟨g, fun _ => 0, hw, Since.refl hw, ⟨fun key cs hc => by simp [lk] at hc, fun k k' h1 h2 _ => by simp [lk] at h1⟩, fun t e he => ?_, rfl, ?_, Nat.zero_le _, fun id cs hid _ => absurd hid (Nat.not_lt_zero _)⟩
    · obtain ⟨_, x, h1, h2⟩ := zkf (lam := fun _ => 0) hl he
      refine ⟨x, ?_, h2⟩
      rw [Nat.sub_zero] at h1
      have hlt : t < cargs.size := by have := (List.getElem?_eq_some_iff.1 h1).1; simpa using this
      rw [Array.getElem?_append_left hlt]; simpa using h1
    · simp [C]; omega
  refine wp_mono (zeg (C := C) (hdr C rfl rfl) body _ _ _ w hd h hs) fun e a w' he => ?_
  have key : ∀ e' st, zhs C st a w' → zys P fn H r H' e' st → a.defers = [] ∧ ∃ v, (results fn a.tmps).run P w' = .ok v w' ∧
      ∃ v₁ g', (Ending.returned v) = .returned v₁ ∧ WRep w' g' H' ∧ Since w g H w' g' H' ∧ zay w' g' r v₁ := by
    rintro e' st ⟨g', lam, hs'⟩ ⟨_, vs, keep, h1, h2, h3, h4, h5⟩
    obtain ⟨xs, j1, j2⟩ := zne hs' fn.results.toList vs h1
    dsimp only [C] at j1
    obtain ⟨k1, k2⟩ := zsa hw hs'.wr hs'.si h2 h3 h4
    refine ⟨hs'.defs, ?_⟩
    have hrun : (fn.results.mapM (z2j a)).run P w' = .ok xs.toArray w' := by
      rw [Array.mapM_eq_mapM_toList, map_eq_pure_bind, Sem.run_bind, j1]
      simp
    obtain ⟨d, h5⟩ := h5
    have hxl := za6 j2
    have hv : zay w' g' (zaf vs) (if h : xs.toArray.size = 1 then xs.toArray[0] else .tuple xs.toArray) := by
      match vs, xs, j2, hxl with
      | [], [], j2, _ => simp only [zaf]; simp [zay, zbq]
      | [v], [x], j2, _ =>
        simp only [zbq] at j2
        obtain ⟨y, rest, hh, j3, j4⟩ := j2
        simp only [List.cons.injEq] at hh; obtain ⟨rfl, rfl⟩ := hh
        simpa [zaf] using j3
      | v :: v' :: vs, x :: x' :: xs, j2, _ =>
        have : ¬ ((x :: x' :: xs).toArray.size = 1) := by simp
        rw [dif_neg this]
        simp only [zaf, zay]
        exact ⟨_, rfl, by simpa using j2⟩
      | [], _ :: _, _, h => simp at h
      | [_], [], _, h => simp at h
      | [_], _ :: _ :: _, _, h => simp at h
      | _ :: _ :: _, [], _, h => simp at h
      | _ :: _ :: _, [_], _, h => simp at h
    refine ⟨_, ?_, _, frG g' H.length keep st.H, rfl, k1, k2, zlj hs'.wr (fun k hk => (h3 k hk).1) d _ r _ h5 hv⟩
    simp only [results, Sem.run_bind]
    exact congrArg (fun q => Result.andThen q (fun vs w'' => (Sem.run P (Pure.pure (if h : vs.size = 1 then vs[0] else Value.tuple vs)) w''))) hrun
  cases e <;> simp only [Post] at he
  · obtain ⟨st, h1, h2⟩ := he; exact key _ st h1 h2
  · obtain ⟨st, h1, h2⟩ := he; exact h2.1.elim
  · obtain ⟨st, h1, h2⟩ := he; exact key _ st h1 h2
end Go.Sx
set_option linter.unusedVariables false
set_option linter.unusedSimpArgs false
set_option maxRecDepth 20000
namespace Go.Sx
def z2q (H₀ : List (List AV)) (r : AV) (H' H : List (List AV)) (vs : List AV) : Prop :=
  ∃ keep : List Nat, keep.Nodup ∧ (∀ k ∈ keep, H₀.length ≤ k ∧ ∃ cs, H[k]? = some cs) ∧ FrW H₀.length keep H H' ∧ Fr H₀.length keep H (zaf vs) r
theorem zxe {P : Program} {fn : Func} {H₀ H H' : List (List AV)} {r : AV} {x : XE} {rs : List ResultVar} {e : List (Nat × EV)} {L : List (Nat × List AV)} (hx : x = .ret ∨ x = .normal) (hf : fn.results.toList = rs) (h : rK P rs [] (z2q H₀ r H' H) ⟨e, L, H⟩) : zys P fn H₀ r H' x ⟨e, L, H⟩ := by
  obtain ⟨vs, h1, keep, h2, h3, h4, h5⟩ := h
  subst hf
  exact ⟨by rcases hx with rfl | rfl <;> trivial, vs, keep, h1, h2, h3, h4, by simpa using h5⟩
def qbl (H : List (List AV)) : Prop := ∀ (id : Nat) cs, H[id]? = some cs → mxL cs ≤ H.length
theorem Spec.mxok {P : Program} {f : Nat} {args : List AV} {H H' : List (List AV)} {r : AV} (h : qbl H → Spec P f args H r H') : Spec P f args H r H' := by
  intro w g c hw hl
  exact h (fun id cs hc => by obtain ⟨_, _, _, _, _, _, _, _, _, h6⟩ := hw.blk id cs hc; exact h6) w g c hw hl
theorem znk {H : List (List AV)} {b : Nat} {c : List AV} (hb : b < H.length) (hm : qbl H) (hc : mxL c = 0) (v : AV) (hv : v = .slm H.length c.length 0 c.length 1) :
    z2q H (.tup []) (H.set b [v] ++ [c]) (H.set b [v] ++ [c]) [] := by
  subst hv
  have hl : (H.set b [AV.slm H.length c.length 0 c.length 1] ++ [c]).length = H.length + 1 := by simp
  have hn : (H.set b [AV.slm H.length c.length 0 c.length 1] ++ [c])[H.length]? = some c := by
    rw [List.getElem?_append_right (by simp)]; simp
  refine ⟨[H.length], by simp, fun k hk => ?_, ⟨by rw [hl]; rfl, fun id cs' hg => ?_⟩, ?_⟩
  · rw [List.mem_singleton.1 hk]; exact ⟨Nat.le_refl _, c, hn⟩
  · rcases Nat.lt_trichotomy id H.length with h | h | h
    · rw [List.getElem?_append_left (by simpa using h), List.getElem?_set] at hg
      by_cases hi : b = id
      · rw [if_pos hi, if_pos hb] at hg
        cases hg
        refine ⟨by rw [hl]; simp [mxL, mx], id, _, ?_, .inl ⟨h, rfl⟩, rfl, ?_⟩
        · rw [List.getElem?_append_left (by simpa using h), List.getElem?_set, if_pos hi, if_pos hb]
        · have := Fr.kp (n₀ := H.length) (keep := [H.length]) (H := H.set b [AV.slm H.length c.length 0 c.length 1] ++ [c]) (id := H.length) (gen := c.length) (off := 0) (len := c.length) (sz := 1) (j := 0) (cs := c) rfl hn rfl
          exact Frs.cons this Frs.nil
      · rw [if_neg hi] at hg
        have h1 := hm id cs' hg
        refine ⟨by rw [hl]; omega, id, cs', ?_, .inl ⟨h, rfl⟩, rfl, Frs.old h1⟩
        rw [List.getElem?_append_left (by simpa using h), List.getElem?_set, if_neg hi]; exact hg
    · subst h
      rw [hn] at hg; cases hg
      exact ⟨by rw [hc]; exact Nat.zero_le _, H.length, c, hn, .inr ⟨Nat.le_refl _, by simp⟩, rfl, Frs.old (by rw [hc]; exact Nat.zero_le _)⟩
    · rw [List.getElem?_eq_none (by rw [hl]; omega)] at hg; cases hg
  · exact Fr.tup Frs.nil
theorem zbk.zero (H H' : List (List AV)) : zbk 0 H H' := fun id _ h _ => absurd h (Nat.not_lt_zero id)
theorem Spec.introL' {P : Program} {f : Nat} {fn : Func} {body : Code} {args : List AV} {H H' : List (List AV)} {r : AV} (hf : P.funcs[f]? = some fn) (hb : fn.body = some body)
    (hd : zdg fn.ntmps body = true) (hn : args.length ≤ fn.ntmps) (esc : Bool) (fz : List Nat) {draw : Array Oper → (St → Prop) → St → Prop} (hdr : ∀ C : Cx, C.P = P → C.cfg = ⟨esc, 0, fz⟩ → zgd C draw)
    (h : Ex P ⟨esc, 0, fz⟩ draw body (zys P fn H r H') ⟨za0 0 args, [], H ++ []⟩) : Spec P f args H r H' :=
  Spec.introL hf hb hd hn esc fz hdr (by rw [List.append_nil] at h; exact h)
section
variable {P : Program} {cfg : Cfg} {e : List (Nat × EV)} {L : List (Nat × List AV)} {A N : List (List AV)} {K : St → Prop} {ty : TypeId} {pos : String} {aft : Array Edge} {gd : Option (Nat × Bool)} {dd : Nat}
theorem zxf {t : TypeId} {x v : Operand} {b : Nat} {a : Bool} {c0 c : AV} {ev : EV} [ti : TyI P t 1 a] (hx : St.ev ⟨e, L, A ++ N⟩ x = .val (.eptr (.slm b 1 0 1 1) 0)) (hv : St.ev ⟨e, L, A ++ N⟩ v = ev) (hvs : ev.asV.bind AV.cells = some [c])
    (hc : A[b]? = some [c0]) (hm : cfg.n0 ≤ b ∨ mx c ≤ cfg.n0) (h : K ⟨e, L, A.set b [c] ++ N⟩) :
    opX P cfg ⟨none, .store t x v, ty, pos, aft, gd⟩ K ⟨e, L, A ++ N⟩ := by
  refine zq8 hx hv hvs rfl (zdw hc) rfl (by simp) (by rcases hm with h | h; exact .inl h; exact .inr (by simpa [mxL] using h)) rfl ?_
  rw [Nat.zero_add, zo8, zdl (List.getElem?_eq_some_iff.1 hc).1]; exact h
theorem z2y {t tx : TypeId} {s x : Operand} {q m by_ el' z' : Nat} {z c : AV} {cs : List AV} [ei : EI P t 1 by_ [z]] [si : SlI P tx el' z'] (hs : St.ev ⟨e, L, A ++ N⟩ s = .val (.slm q m 0 m 1)) (hx : St.ev ⟨e, L, A ++ N⟩ x = .val (.sl none 1 [c]))
    (hc : A[q]? = some cs) (hg : cs.length = m) (hm : m + 1 ≤ 2 ^ 32) (hmx : mx c = 0) (hz : (decide (by_ ≤ 2 ^ 10) && decide (0 < by_)) = true)
    (h : K ⟨(dd, .val (.slm q (m + 1) 0 (m + 1) 1)) :: e, L, A.set q (cs ++ [c]) ++ N⟩) :
    opX P cfg ⟨some dd, .call { callee := .builtin .append, args := #[s, x], argTypes := #[t, tx] }, ty, pos, aft, gd⟩ K ⟨e, L, A ++ N⟩ := by
  subst hg
  refine zxb (m := 1) (xs := [c]) hs hx (by simp [zkc, slen, zc6, gc]) (zdw hc) rfl (by omega) hm (.inr (by simp [mxL, hmx])) (by simpa using hz) ?_
  rw [zdl (List.getElem?_eq_some_iff.1 hc).1]; exact h
end
theorem Spec.frz {P : Program} {f : Nat} {args : List AV} {H N : List (List AV)} {r r' : AV} (h : Spec P f args H r (H ++ N)) (hr : Fr H.length [] (H ++ N) r r') : Spec P f args H r' H := by
  intro w g c hw hl
  refine (h w g c hw hl).mono fun e w' ⟨v, g', h1, h2, h3, h4⟩ => ?_
  have hom : ∀ id cs, id < H.length → (H ++ N)[id]? = some cs → mxL cs ≤ H.length := fun id cs hid hc => by
    rw [List.getElem?_append_left hid] at hc
    obtain ⟨_, _, _, _, _, _, _, _, _, h6⟩ := hw.blk id cs hc; exact h6
  obtain ⟨k1, k2⟩ := zoc hw h2 h3 hom (List.nodup_nil) (by simp)
  have e1 : frH H.length [] (H ++ N) = H := by simp [frH]
  rw [e1] at k1 k2
  obtain ⟨d, hd⟩ := hr
  exact ⟨v, _, h1, k1, k2, zlj h2 (by simp) d r r' v hd h4⟩
theorem zaa.frz {P : Program} {f : Nat} {args : List AV} {H N : List (List AV)} {r r' : AV} (he : Enters P f) (h : zaa P f args H r (H ++ N)) (hr : Fr H.length [] (H ++ N) r r') : zaa P f args H r' H := .inl ⟨he, (h.spec he).frz hr⟩
end Go.Sx
set_option linter.unusedVariables false
set_option linter.unusedSimpArgs false
set_option maxRecDepth 20000
namespace Go.Sx
open Go.Proofs
attribute [local irreducible] Ex za3 exD opX opE zca zd3 zd4 Spec zaa Fr zb9 zbb zba ckK zb8 zb6 zbu faK zb4 zd1 gK fK rK zeq lpX prK
theorem qav (G : List (List AV)) (D : AV) (x : List Nat) (hF : ∀ N, FL (G ++ N) D x) (i : Nat) (hi : i < x.length) (b : Nat) (hb : G[b]? = some [.slnil]) :
    zaa Tryz.prog 175 [.int .i64 (i : Int), .eptr D i, .eptr (.slm b 1 0 1 1) 0] G (.tup []) (G.set b [.slm G.length 1 0 1 1] ++ [fl [(sgF (x.getD i 0))]]) := by
  have hbl : b < G.length := (List.getElem?_eq_some_iff.1 hb).1
  refine .mk (fun args w => Tryz.call175 args w) (Spec.mxok (fun hmx => Spec.introL' (fn := Tryz.f175) Tryz.func175 rfl (by kernel_rfl) (by simp) false [12] (draw := zds Tryz.prog ⟨false, 0, [12]⟩) dOk ?_))
  simp only [za0, Nat.reduceAdd]
  repeat' (first
 |(refine zav ?_; (first | refine zbd ?_ | refine zao ?_ | fail))
 |(refine zaw ?_; (first | refine m14 ?_ | (refine m07 ?_; (first | refine m15 ?_ | refine m16 ?_ | refine zdy (hF _) hi ?_ | refine zj3 hb (by exact rfl) (by exact rfl) ?_ | fail)) | refine zc3 (by (conv => {lhs; whnf}); done) ?_ | refine zxc (by (conv => {lhs; whnf}); done) (by (conv => {lhs; whnf}); done) (by exact rfl) (by decide) (by exact rfl) (by exact rfl) (by exact rfl) (by (conv => {lhs; whnf}); done) (by exact rfl) ?_ | refine zxf (by (conv => {lhs; whnf}); done) (by (conv => {lhs; whnf}); done) (by exact rfl) hb (.inl (Nat.zero_le _)) ?_ | (refine m00 ?_; (first | refine m47 ?_ | refine m48 ?_ | refine m49 ?_ | refine m50 ?_ | refine v_k ?_ | refine m51 ?_ | fail)) | refine m42 ?_ | refine zab ?_ | refine zac ?_ | refine m08 ?_ | refine m25 ?_ | refine zc2 (by exact rfl) (by exact rfl) (by decide) ?_ | fail))
 |refine zat ?_ | refine zau ?_ | refine zas ?_
 |(refine zax ?_; (first | refine zar ?_ | refine zad ?_ | (refine m06 ?_; (first | refine c_T ?_ | refine c_F ?_ | refine c_P ?_ ?_ | refine c_B ?_ ?_ | fail)) | refine zaq ?_ | refine zah ?_ | refine zae ?_ | refine b_exit ?_ | fail))
 |refine m44 ?_
 |refine m40 ?_
 |(refine zbc (by (conv => {lhs; simp only [List.nil_append, List.cons_append]}); done) ?_; first | refine ⟨by exact rfl, ?_⟩ | skip)
 |refine zbt ?_
 |(intro N' hN'; simp only [List.nil_append, List.cons_append] at hN'; subst hN')
 |(refine zxe (by simp) (by (conv => {lhs; whnf}); done) ?_)
 |refine m04 ?_ | refine m02 ?_ | refine m03 ?_ | refine zai ?_
 |intro _)
  all_goals first
    | (have e9 : sgF (x.getD i 0) = 4607182418800017408 := if_pos ‹(flt (cn 0) (x.getD i 0) || feq (x.getD i 0) (cn 0)) = true›; rw [e9]; exact znk (c := fl [4607182418800017408]) hbl hmx (by rw [zak]) _ rfl)
    | (have e9 : sgF (x.getD i 0) = 13830554455654793216 := if_neg (by rw [‹(flt (cn 0) (x.getD i 0) || feq (x.getD i 0) (cn 0)) = false›]; exact Bool.false_ne_true); rw [e9]; exact znk (c := fl [13830554455654793216]) hbl hmx (by rw [zak]) _ rfl)
theorem qaw (G : List (List AV)) (D : AV) (x : List Nat) (hF : ∀ N, FL (G ++ N) D x) (i : Nat) (hi : i < x.length) (b : Nat) (q m : Nat) (c : List Nat) (hb : G[b]? = some [.slm q m 0 m 1]) (hq : G[q]? = some (fl c)) (hm : c.length = m) (hne : q ≠ b) (hm2 : m < 2 ^ 30) :
    zaa Tryz.prog 175 [.int .i64 (i : Int), .eptr D i, .eptr (.slm b 1 0 1 1) 0] G (.tup []) ((G.set q (fl (c ++ [(sgF (x.getD i 0))]))).set b [.slm q (m + 1) 0 (m + 1) 1]) := by
  have hbl : b < G.length := (List.getElem?_eq_some_iff.1 hb).1
  have hql : q < G.length := (List.getElem?_eq_some_iff.1 hq).1
  refine .go Tryz.call175 Tryz.func175 false [12] dOk ?_
  simp only [za0, Nat.reduceAdd]
  repeat' (first
 |(refine zav ?_; (first | refine zbd ?_ | refine zao ?_ | fail))
 |(refine zaw ?_; (first | refine m14 ?_ | (refine m07 ?_; (first | refine m15 ?_ | refine m16 ?_ | refine zdy (hF _) hi ?_ | refine zj3 hb (by exact rfl) (by exact rfl) ?_ | fail)) | refine zc3 (by (conv => {lhs; whnf}); done) ?_ | refine z2y (by (conv => {lhs; whnf}); done) (by (conv => {lhs; whnf}); done) hq (by simpa using hm) (by omega) (by exact rfl) (by exact rfl) ?_ | refine zxf (by (conv => {lhs; whnf}); done) (by (conv => {lhs; whnf}); done) (by exact rfl) (by rw [List.getElem?_set_ne hne]; exact hb) (.inr (by show q + 1 ≤ G.length; omega)) ?_ | (refine m00 ?_; (first | refine m47 ?_ | refine m48 ?_ | refine m49 ?_ | refine m50 ?_ | refine v_k ?_ | refine m51 ?_ | fail)) | refine m42 ?_ | refine zab ?_ | refine zac ?_ | refine m08 ?_ | refine m25 ?_ | refine zc2 (by exact rfl) (by exact rfl) (by decide) ?_ | fail))
 |refine zat ?_ | refine zau ?_ | refine zas ?_
 |(refine zax ?_; (first | refine zar ?_ | refine zad ?_ | (refine m06 ?_; (first | refine c_T ?_ | refine c_F ?_ | refine c_P ?_ ?_ | refine c_B ?_ ?_ | fail)) | refine zaq ?_ | refine zah ?_ | refine zae ?_ | refine b_exit ?_ | fail))
 |refine m44 ?_
 |refine m40 ?_
 |(refine zbc (by (conv => {lhs; simp only [List.nil_append, List.cons_append]}); done) ?_; first | refine ⟨by exact rfl, ?_⟩ | skip)
 |refine zbt ?_
 |(intro N' hN'; simp only [List.nil_append, List.cons_append] at hN'; subst hN')
 |refine m05 ?_
 |refine m04 ?_ | refine m02 ?_ | refine m03 ?_ | refine zai ?_
 |intro _)
  all_goals first
    | (have e9 : sgF (x.getD i 0) = 4607182418800017408 := if_pos ‹(flt (cn 0) (x.getD i 0) || feq (x.getD i 0) (cn 0)) = true›; rw [e9]; rw [← zfr]; refine zal (by simp) (by simp [mx, mxL, zaf]) ?_; exact rfl)
    | (have e9 : sgF (x.getD i 0) = 13830554455654793216 := if_neg (by rw [‹(flt (cn 0) (x.getD i 0) || feq (x.getD i 0) (cn 0)) = false›]; exact Bool.false_ne_true); rw [e9]; rw [← zfr]; refine zal (by simp) (by simp [mx, mxL, zaf]) ?_; exact rfl)
theorem z3t (Sf : Nat → List (List AV)) (D : AV) (x : List Nat) (hF : ∀ t N, FL (Sf t ++ N) D x) (h64 : x.length ≤ 64) (fid : Nat) (caps : List AV) (hS : ∀ i, i < x.length → zaa Tryz.prog fid ([.int .i64 (i : Int), .eptr D i] ++ caps) (Sf i ++ []) (.tup []) (Sf (i + 1) ++ [])) (b : Nat) (hb : b < (Sf 0).length) (c : List AV) (hc : mxL c = 0) (hfin : Sf x.length = (Sf 0).set b [.slm (Sf 0).length c.length 0 c.length 1] ++ [c]) :
    zaa Tryz.prog 174 [vt D 0 (x.length : Int) 1, .func fid [] caps] (Sf 0) (.tup []) (Sf x.length) := by
  refine .mk (fun args w => Tryz.call174 args w) (Spec.mxok (fun hmx => Spec.introL' (fn := Tryz.f174) Tryz.func174 rfl (by kernel_rfl) (by simp) false [] (draw := zds Tryz.prog ⟨false, 0, []⟩) dOk ?_))
  simp only [za0, Nat.reduceAdd]
  repeat' (first
 |(refine zav ?_; (first | refine zbd ?_ | refine zao ?_ | fail))
 |(refine zaw ?_; (first | refine m41 ?_ | refine zb0 ?_ | refine m14 ?_ | (refine m17 ?_; first | refine m19 ?_ | refine m18 ?_) | (refine m07 ?_; (first | refine m15 ?_ | refine m16 ?_ | fail)) | refine zec (m := i) (by (conv => {lhs; whnf}); done) (by (conv => {lhs; whnf}); done) (by exact (hF 0 []).len) (by omega) hi ?_ | (refine m00 ?_; (first | refine zbo ((i + 1 : Nat) : Int) (by omega) (by omega) ?_ | refine m49 ?_ | refine m47 ?_ | refine m48 ?_ | refine m49 ?_ | refine m50 ?_ | refine v_k ?_ | refine m51 ?_ | fail)) | refine m08 ?_ | refine zaj ?_ | refine m39 ?_ | refine m01 ?_ | fail))
 |refine zat ?_ | refine zau ?_ | refine zas ?_
 |(refine zax ?_; (first | refine zar ?_ | refine zad ?_ | (refine m06 ?_; (first | refine c_T ?_ | refine c_F ?_ | refine c_P ?_ ?_ | refine c_B ?_ ?_ | fail)) | refine zaq ?_ | refine zah ?_ | refine zae ?_ | refine b_exit ?_ | (refine za1 [1, 2, 6, 7] x.length (fun i => ⟨[(1, .val (.func fid [] caps)), (2, .loc 2 0), (6, .val (.int .i64 ((x.length : Nat) : Int))), (7, .val (.int .i64 ((i : Nat) : Int)))], [(2, [D, .int .i64 0, .int .i64 (x.length : Int), .int .i64 1])], Sf i ++ []⟩) (by exact rfl) ?_ ?_ <;> (first | intro i hi K hK | intro K) <;> (try dsimp only at *)) | fail))
 |refine m21 ?_
 |refine za4 ?_
 |(refine za5 ?_; (first | refine c_call (hS i hi) (zbk.zero _ _) ?_ | fail))
 |refine m44 ?_
 |refine m40 ?_
 |(refine zbc (by (conv => {lhs; simp only [List.nil_append, List.cons_append]}); done) ?_; first | refine ⟨by exact rfl, ?_⟩ | skip)
 |refine zbt ?_
 |(intro N' hN'; simp only [List.nil_append, List.cons_append] at hN'; subst hN')
 |refine zbh ?_ | refine zbi ?_ | refine zbg ?_ | refine m57 ?_
 |refine zdp ?_ | refine zdq ?_ | refine zdo ?_
 |(refine zdr (by exact rfl) ?_; first | exact hK | fail | (exfalso; first | omega | (simp_all; done) | (simp_all; omega)))
 |(refine zxe (by simp) (by (conv => {lhs; whnf}); done) ?_)
 |refine m04 ?_ | refine m02 ?_ | refine m03 ?_ | refine zai ?_
 |intro _)
  all_goals first
    | (rw [hfin, List.append_nil]; exact znk hb hmx hc _ rfl)
def sgH (H : List (List AV)) (D : AV) (x : List Nat) : Nat → List (List AV)
  | 0 => H ++ [[D, .int .i64 0, .int .i64 (x.length : Int), .int .i64 1], [.slnil]]
  | k + 1 => H ++ [[D, .int .i64 0, .int .i64 (x.length : Int), .int .i64 1], [.slm (H.length + 2) (k + 1) 0 (k + 1) 1], fl (sgL (x.take (k + 1)))]
theorem zo9 {x : List Nat} {k : Nat} (hk : k < x.length) : sgL (x.take (k + 1)) = sgL (x.take k) ++ [sgF (x.getD k 0)] := by
  unfold sgL
  rw [List.take_add_one, List.map_append]
  simp [List.getD_eq_getElem?_getD, List.getElem?_eq_getElem hk]
theorem z1j (H : List (List AV)) (D : AV) (x : List Nat) (hF : ∀ N, FL (H ++ N) D x) (h64 : x.length ≤ 64) (i : Nat) (hi : i < x.length) :
    zaa Tryz.prog 175 ([.int .i64 (i : Int), .eptr D i] ++ [.eptr (.slm (H.length + 1) 1 0 1 1) 0]) (sgH H D x i ++ []) (.tup []) (sgH H D x (i + 1) ++ []) := by
  have hF' : ∀ (i : Nat) N, FL (sgH H D x i ++ N) D x := fun i N => by
    cases i with
    | zero => simp only [sgH, List.append_assoc]; exact hF _
    | succ k => simp only [sgH, List.append_assoc]; exact hF _
  rw [List.append_nil, List.append_nil]
  cases i with
  | zero =>
    have h := qav (sgH H D x 0) D x (hF' 0) 0 hi (H.length + 1) (by simp [sgH])
    have e : (sgH H D x 0).set (H.length + 1) [.slm (sgH H D x 0).length 1 0 1 1] ++ [fl [sgF (x.getD 0 0)]] = sgH H D x (0 + 1) := by
      have e1 := zo9 (x := x) (k := 0) hi
      simp only [sgH]
      rw [e1]
      simp [sgL]
    rw [e] at h
    exact h
  | succ k =>
    have h := qaw (sgH H D x (k + 1)) D x (hF' (k + 1)) (k + 1) hi (H.length + 1) (H.length + 2) (k + 1) (sgL (x.take (k + 1))) (by simp [sgH]) (by simp [sgH]) (by simp; omega) (by omega) (by omega)
    have e : ((sgH H D x (k + 1)).set (H.length + 2) (fl (sgL (x.take (k + 1)) ++ [sgF (x.getD (k + 1) 0)]))).set (H.length + 1) [.slm (H.length + 2) (k + 1 + 1) 0 (k + 1 + 1) 1] = sgH H D x (k + 1 + 1) := by
      have e1 := zo9 (x := x) (k := k + 1) hi
      simp only [sgH]
      rw [e1]
      simp
    rw [e] at h
    exact h
theorem z1i (H : List (List AV)) (D : AV) (x : List Nat) (hF : ∀ N, FL (H ++ N) D x) (h1 : 1 ≤ x.length) (h64 : x.length ≤ 64) :
    zaa Tryz.prog 174 [vt D 0 (x.length : Int) 1, .func 175 [] [.eptr (.slm (H.length + 1) 1 0 1 1) 0]] (H ++ [[D, .int .i64 0, .int .i64 (x.length : Int), .int .i64 1], [.slnil]]) (.tup []) (H ++ [[D, .int .i64 0, .int .i64 (x.length : Int), .int .i64 1], [.slm (H.length + 2) x.length 0 x.length 1], fl (sgL x)]) := by
  have hF' : ∀ (i : Nat) N, FL (sgH H D x i ++ N) D x := fun i N => by
    cases i with
    | zero => simp only [sgH, List.append_assoc]; exact hF _
    | succ k => simp only [sgH, List.append_assoc]; exact hF _
  obtain ⟨n, hn⟩ : ∃ n, x.length = n + 1 := ⟨x.length - 1, by omega⟩
  have e : sgH H D x x.length = H ++ [[D, .int .i64 0, .int .i64 (x.length : Int), .int .i64 1], [.slm (H.length + 2) x.length 0 x.length 1], fl (sgL x)] := by
    have : sgH H D x x.length = sgH H D x (n + 1) := by rw [hn]
    rw [this]; simp only [sgH]
    rw [← hn, List.take_length]
  have h := z3t (sgH H D x) D x hF' h64 175 [.eptr (.slm (H.length + 1) 1 0 1 1) 0] (fun i hi => z1j H D x hF h64 i hi) (H.length + 1) (by simp [sgH]) (fl (sgL x)) (by rw [zak]) (by rw [e]; simp [sgH])
  rw [e] at h
  exact h
theorem z6q (H : List (List AV)) (D : AV) (x : List Nat) (hF : FL H D x) (h1 : 1 ≤ x.length) (h64 : x.length ≤ 64) :
    zaa Tryz.prog 152 [vt D 0 (x.length : Int) 1] H (.tup [.sl none x.length (fl (sgL x)), .int .i64 0]) H := by
  obtain ⟨vn, vo1, vo2, vn1, vn2, vi1, vi2⟩ := (zmo h64).1
  refine .go Tryz.call152 Tryz.func152 true [] dOk ?_
  simp only [za0, Nat.reduceAdd]
  repeat' (first
 |(refine zav ?_; (first | refine zbd ?_ | refine zao ?_ | fail))
 |(refine zaw ?_; (first | (refine m07 ?_; (first | refine m15 ?_ | refine m16 ?_ | refine zus (by exact rfl) (by exact rfl) (by exact rfl) (by exact rfl) ?_ | refine zsp (by exact rfl) (by exact rfl) (by exact rfl) (by exact rfl) ?_ | fail)) | refine zex (by (conv => {lhs; whnf}); done) (by exact rfl) (by exact rfl) (by exact rfl) (by (conv => {lhs; whnf}); done) (by (conv => {lhs; simp only [List.nil_append, List.cons_append]}); done) ?_ | refine zjn ?_ | refine zki (by exact rfl) (by exact rfl) (by exact rfl) (by (conv => {lhs; whnf}); done) ?_ | refine m42 ?_ | refine zab ?_ | refine zac ?_ | refine m08 ?_ | (refine m20 ?_; (first | refine m49 ?_ | refine m50 ?_ | refine zfn ?_ | refine zfl ?_ | refine zfm ?_ | refine v_k ?_ | refine m51 ?_ | fail)) | refine zaj ?_ | refine m01 ?_ | refine m24 ?_ | fail))
 |refine zat ?_ | refine zau ?_ | refine zas ?_
 |(refine zax ?_; (first | refine zar ?_ | refine zad ?_ | (refine m06 ?_; (first | refine c_T ?_ | refine c_F ?_ | refine c_P ?_ ?_ | refine c_B ?_ ?_ | fail)) | refine zaq ?_ | refine zah ?_ | refine zae ?_ | refine b_exit ?_ | fail))
 |refine m21 ?_
 |refine za4 ?_
 |(refine za5 ?_; (first | refine cA (zng _ D x (hF.app _) 0 x.length 1 (zmo h64).1 true (decide_eq_true (zmo h64).2)) ?_ | refine cA (z1i H D x (fun N => hF.app N) h1 h64) ?_ | fail))
 |refine m44 ?_
 |refine m40 ?_
 |(refine zbc (by (conv => {lhs; simp only [List.nil_append, List.cons_append]}); done) ?_; first | refine ⟨by exact rfl, ?_⟩ | skip)
 |refine zbt ?_
 |(intro N' hN'; simp only [List.nil_append, List.cons_append] at hN'; subst hN')
 |refine m05 ?_
 |refine m04 ?_ | refine m02 ?_ | refine m03 ?_ | refine zai ?_
 |intro _)
  all_goals first
    | (exfalso; contradiction)
    | (exfalso; omega)
    | (refine zb5 rfl ?_; exact Fr.tup (Frs.cons (zvn (k := 2) rfl rfl (by simp)) (Frs.cons (Fr.old (by simp [mx])) Frs.nil)))
theorem qch (H : List (List AV)) (X Y : AV) (l m : List Nat) (hX : FL H X l) (hY : FL H Y m) (hB : l.length ≤ 2 ^ 30) (hB2 : m.length ≤ 2 ^ 30) (hlen : l.length = m.length) (he : ∀ k, k < l.length → feq (l.getD k 0) (m.getD k 0) = true) :
    zaa Tryz.prog 153 [X, Y] H (.bool true) H := by
  refine .go Tryz.call153 Tryz.func153 false [] dOk ?_
  simp only [za0, Nat.reduceAdd]
  repeat' (first
 |(refine zav ?_; (first | refine zbd ?_ | refine zao ?_ | fail))
 |(refine zaw ?_; (first | refine m41 ?_ | refine zb0 ?_ | refine m14 ?_ | (refine m07 ?_; (first | refine m15 ?_ | refine m16 ?_ | refine zdy (FL.app hX _) (by omega) ?_ | refine zdy (FL.app hY _) (by omega) ?_ | fail)) | refine zam (by (conv => {lhs; whnf}); done) (by exact hX.len) ?_ | refine zam (by (conv => {lhs; whnf}); done) (by exact hY.len) ?_ | refine zbz (by (conv => {lhs; whnf}); done) (by (conv => {lhs; whnf}); done) (by exact hX.len) (by omega) ?_ | refine zbz (by (conv => {lhs; whnf}); done) (by (conv => {lhs; whnf}); done) (by exact hY.len) (by omega) ?_ | (refine m00 ?_; (first | refine zbo ((k + 1 : Nat) : Int) (by omega) (by omega) ?_ | refine m54 ?_ | refine m55 ?_ | refine zbx ?_ | refine m47 ?_ | refine m48 ?_ | refine m49 ?_ | refine m50 ?_ | refine v_k ?_ | refine m51 ?_ | fail)) | refine m42 ?_ | refine zab ?_ | refine zac ?_ | refine m08 ?_ | refine zam (by (conv => {lhs; whnf}); done) (by first | rfl | assumption) ?_ | fail))
 |(refine zch ?_; (first | refine m36 ?_ | refine zcf ?_ | fail))
 |(refine zcg ?_; (first | refine zev ?_ | refine zfv ?_ | refine zfw (by (conv => {lhs; whnf}); done) ?_ | refine zfx ?_ | refine zfu (by exact rfl) (by exact rfl) ?_ | refine m34 ?_ | refine m35 ?_ | refine m33 ?_ | refine zew ?_ | refine m56 ?_ | refine zci ?_ | refine zc1 (by exact rfl) ?_ | fail))
 |refine zat ?_ | refine zau ?_ | refine zas ?_
 |(refine zax ?_; (first | refine zar ?_ | refine zad ?_ | (refine m06 ?_; (first | refine c_T ?_ | refine c_F ?_ | refine c_P ?_ ?_ | refine c_B ?_ ?_ | fail)) | refine zaq ?_ | refine zah ?_ | refine zae ?_ | refine b_exit ?_ | refine zan (id := 6) [] [] [(0, .lt), (1, .lt), (2, .lt), (3, .ld true), (4, .lt), (5, .lt), (6, .lt), (7, .ld true), (8, .ld true)] (by kernel_rfl) ?_ | (refine za1 [0, 1, 12, 13] l.length (fun k => ⟨[(0, .val X), (1, .val Y), (12, .val (.int .i64 ((l.length : Nat) : Int))), (13, .val (.int .i64 ((k : Nat) : Int)))], [], H ++ []⟩) (by exact rfl) ?_ ?_ <;> (first | intro k hk K hK | intro K) <;> (try dsimp only at *)) | fail))
 |refine zbh ?_ | refine zbi ?_ | refine zbg ?_ | refine m57 ?_
 |refine zdp ?_ | refine zdq ?_ | refine zdo ?_
 |(refine zdr (by exact rfl) ?_; first | exact hK | (exfalso; have := he k (by omega); simp_all; done) | (exfalso; first | omega | (simp_all; done) | (simp_all; omega)))
 |refine m05 ?_
 |refine m04 ?_ | refine m02 ?_ | refine m03 ?_ | refine zai ?_
 |intro _)
  all_goals first
    | (exfalso; contradiction)
    | (exfalso; omega)
    | (refine zal rfl (by simp [mx, mxL, zaf, aOf, zbn]) ?_; simp only [zur, zzh, zmu]; exact rfl)
    | (refine zal rfl (by simp [mx, mxL, zaf, aOf, zbn]) ?_; exact rfl)
    | (exfalso; simp_all; done)
theorem qcf (H : List (List AV)) (X Y : AV) (l m : List Nat) (hX : FL H X l) (hY : FL H Y m) (hB : l.length ≤ 2 ^ 30) (hB2 : m.length ≤ 2 ^ 30) (hlen : l.length = m.length) (z : Nat) (hz : z < l.length) (he : ∀ k, k < z → feq (l.getD k 0) (m.getD k 0) = true) (hz1 : feq (l.getD z 0) (m.getD z 0) = false) :
    zaa Tryz.prog 153 [X, Y] H (.bool false) H := by
  refine .go Tryz.call153 Tryz.func153 false [] dOk ?_
  simp only [za0, Nat.reduceAdd]
  repeat' (first
 |(refine zav ?_; (first | refine zbd ?_ | refine zao ?_ | fail))
 |(refine zaw ?_; (first | refine m41 ?_ | refine zb0 ?_ | refine m14 ?_ | (refine m07 ?_; (first | refine m15 ?_ | refine m16 ?_ | refine zdy (FL.app hX _) (by omega) ?_ | refine zdy (FL.app hY _) (by omega) ?_ | fail)) | refine zam (by (conv => {lhs; whnf}); done) (by exact hX.len) ?_ | refine zam (by (conv => {lhs; whnf}); done) (by exact hY.len) ?_ | refine zbz (by (conv => {lhs; whnf}); done) (by (conv => {lhs; whnf}); done) (by exact hX.len) (by omega) ?_ | refine zbz (by (conv => {lhs; whnf}); done) (by (conv => {lhs; whnf}); done) (by exact hY.len) (by omega) ?_ | (refine m00 ?_; (first | refine zbo ((k + 1 : Nat) : Int) (by omega) (by omega) ?_ | refine m54 ?_ | refine m55 ?_ | refine zbx ?_ | refine m47 ?_ | refine m48 ?_ | refine m49 ?_ | refine m50 ?_ | refine v_k ?_ | refine m51 ?_ | fail)) | refine m42 ?_ | refine zab ?_ | refine zac ?_ | refine m08 ?_ | refine zam (by (conv => {lhs; whnf}); done) (by first | rfl | assumption) ?_ | fail))
 |(refine zch ?_; (first | refine m36 ?_ | refine zcf ?_ | fail))
 |(refine zcg ?_; (first | refine zev ?_ | refine zfv ?_ | refine zfw (by (conv => {lhs; whnf}); done) ?_ | refine zfx ?_ | refine zfu (by exact rfl) (by exact rfl) ?_ | refine m34 ?_ | refine m35 ?_ | refine m33 ?_ | refine zew ?_ | refine m56 ?_ | refine zci ?_ | refine zc1 (by exact rfl) ?_ | fail))
 |refine zat ?_ | refine zau ?_ | refine zas ?_
 |(refine zax ?_; (first | refine zar ?_ | refine zad ?_ | (refine m06 ?_; (first | refine c_T ?_ | refine c_F ?_ | refine c_P ?_ ?_ | refine c_B ?_ ?_ | fail)) | refine zaq ?_ | refine zah ?_ | refine zae ?_ | refine b_exit ?_ | refine zan (id := 6) [] [] [(0, .lt), (1, .lt), (2, .lt), (3, .ld true), (4, .lt), (5, .lt), (6, .lt), (7, .ld true), (8, .ld true)] (by kernel_rfl) ?_ | (refine za1 [0, 1, 12, 13] z (fun k => ⟨[(0, .val X), (1, .val Y), (12, .val (.int .i64 ((l.length : Nat) : Int))), (13, .val (.int .i64 ((k : Nat) : Int)))], [], H ++ []⟩) (by exact rfl) ?_ ?_ <;> (first | intro k hk K hK | intro K) <;> (try dsimp only at *)) | fail))
 |refine zbh ?_ | refine zbi ?_ | refine zbg ?_ | refine m57 ?_
 |refine zdp ?_ | refine zdq ?_ | refine zdo ?_
 |(refine zdr (by exact rfl) ?_; first | exact hK | (exfalso; have := he k (by omega); simp_all; done) | (exfalso; first | omega | (simp_all; done) | (simp_all; omega)))
 |refine m05 ?_
 |refine m04 ?_ | refine m02 ?_ | refine m03 ?_ | refine zai ?_
 |intro _)
  all_goals first
    | (exfalso; contradiction)
    | (exfalso; omega)
    | (refine zal rfl (by simp [mx, mxL, zaf, aOf, zbn]) ?_; simp only [zur, zzh, zmu]; exact rfl)
    | (refine zal rfl (by simp [mx, mxL, zaf, aOf, zbn]) ?_; exact rfl)
    | (exfalso; simp_all; done)
theorem qcg (H : List (List AV)) (X Y : AV) (l m : List Nat) (hX : FL H X l) (hY : FL H Y m) (hB : l.length ≤ 2 ^ 30) (hB2 : m.length ≤ 2 ^ 30) (hlen : l.length ≠ m.length) :
    zaa Tryz.prog 153 [X, Y] H (.bool false) H := by
  refine .go Tryz.call153 Tryz.func153 false [] dOk ?_
  simp only [za0, Nat.reduceAdd]
  repeat' (first
 |(refine zav ?_; (first | refine zbd ?_ | refine zao ?_ | fail))
 |(refine zaw ?_; (first | refine m41 ?_ | refine zb0 ?_ | refine m14 ?_ | (refine m07 ?_; (first | refine m15 ?_ | refine m16 ?_ | refine zdy (FL.app hX _) (by omega) ?_ | refine zdy (FL.app hY _) (by omega) ?_ | fail)) | refine zam (by (conv => {lhs; whnf}); done) (by exact hX.len) ?_ | refine zam (by (conv => {lhs; whnf}); done) (by exact hY.len) ?_ | refine zbz (by (conv => {lhs; whnf}); done) (by (conv => {lhs; whnf}); done) (by exact hX.len) (by omega) ?_ | refine zbz (by (conv => {lhs; whnf}); done) (by (conv => {lhs; whnf}); done) (by exact hY.len) (by omega) ?_ | (refine m00 ?_; (first | refine zbo ((k + 1 : Nat) : Int) (by omega) (by omega) ?_ | refine m54 ?_ | refine m55 ?_ | refine zbx ?_ | refine m47 ?_ | refine m48 ?_ | refine m49 ?_ | refine m50 ?_ | refine v_k ?_ | refine m51 ?_ | fail)) | refine m42 ?_ | refine zab ?_ | refine zac ?_ | refine m08 ?_ | refine zam (by (conv => {lhs; whnf}); done) (by first | rfl | assumption) ?_ | fail))
 |(refine zch ?_; (first | refine m36 ?_ | refine zcf ?_ | fail))
 |(refine zcg ?_; (first | refine zev ?_ | refine zfv ?_ | refine zfw (by (conv => {lhs; whnf}); done) ?_ | refine zfx ?_ | refine zfu (by exact rfl) (by exact rfl) ?_ | refine m34 ?_ | refine m35 ?_ | refine m33 ?_ | refine zew ?_ | refine m56 ?_ | refine zci ?_ | refine zc1 (by exact rfl) ?_ | fail))
 |refine zat ?_ | refine zau ?_ | refine zas ?_
 |(refine zax ?_; (first | refine zar ?_ | refine zad ?_ | (refine m06 ?_; (first | refine c_T ?_ | refine c_F ?_ | refine c_P ?_ ?_ | refine c_B ?_ ?_ | fail)) | refine zaq ?_ | refine zah ?_ | refine zae ?_ | refine b_exit ?_ | refine zan (id := 6) [] [] [(0, .lt), (1, .lt), (2, .lt), (3, .ld true), (4, .lt), (5, .lt), (6, .lt), (7, .ld true), (8, .ld true)] (by kernel_rfl) ?_ | (refine za1 [0, 1, 12, 13] l.length (fun k => ⟨[(0, .val X), (1, .val Y), (12, .val (.int .i64 ((l.length : Nat) : Int))), (13, .val (.int .i64 ((k : Nat) : Int)))], [], H ++ []⟩) (by exact rfl) ?_ ?_ <;> (first | intro k hk K hK | intro K) <;> (try dsimp only at *)) | fail))
 |refine zbh ?_ | refine zbi ?_ | refine zbg ?_ | refine m57 ?_
 |refine zdp ?_ | refine zdq ?_ | refine zdo ?_
 |(refine zdr (by exact rfl) ?_; first | exact hK | fail | (exfalso; first | omega | (simp_all; done) | (simp_all; omega)))
 |refine m05 ?_
 |refine m04 ?_ | refine m02 ?_ | refine m03 ?_ | refine zai ?_
 |intro _)
  all_goals first
    | (exfalso; contradiction)
    | (exfalso; omega)
    | (refine zal rfl (by simp [mx, mxL, zaf, aOf, zbn]) ?_; simp only [zur, zzh, zmu]; exact rfl)
    | (refine zal rfl (by simp [mx, mxL, zaf, aOf, zbn]) ?_; exact rfl)
    | (exfalso; simp_all; done)
theorem z9c (H : List (List AV)) (X Y : AV) (l m : List Nat) (hX : FL H X l) (hY : FL H Y m) (hB : l.length ≤ 2 ^ 30) (hB2 : m.length ≤ 2 ^ 30) (hl : ∀ y ∈ l, y = 4607182418800017408 ∨ y = 13830554455654793216) (hm : ∀ y ∈ m, y = 4607182418800017408 ∨ y = 13830554455654793216) :
    zaa Tryz.prog 153 [X, Y] H (.bool (decide (l = m))) H := by
  have hg : ∀ (l : List Nat) (k : Nat), k < l.length → l.getD k 0 ∈ l := fun l k hk => by
    rw [List.getD_eq_getElem?_getD, List.getElem?_eq_getElem hk]; exact List.getElem_mem hk
  by_cases hlen : l.length = m.length
  · rcases zvj l m hlen with h | ⟨z, h1, h2, h3⟩
    · rw [decide_eq_true h]
      subst h
      exact qch H X Y l l hX hY hB hB2 rfl (fun k hk => by rw [zt2 (hl _ (hg l k hk)) (hl _ (hg l k hk))]; simp)
    · rw [decide_eq_false (fun h => h3 (by rw [h]))]
      exact qcf H X Y l m hX hY hB hB2 hlen z h1 (fun k hk => by rw [zt2 (hl _ (hg l k (by omega))) (hm _ (hg m k (by omega)))]; exact decide_eq_true (h2 k hk)) (by rw [zt2 (hl _ (hg l z h1)) (hm _ (hg m z (by omega)))]; exact decide_eq_false h3)
  · rw [decide_eq_false (fun h => hlen (by rw [h]))]
    exact qcg H X Y l m hX hY hB hB2 hlen
end Go.Sx
set_option linter.unusedVariables false
set_option linter.unusedSimpArgs false
set_option linter.unusedSectionVars false
set_option maxRecDepth 20000
namespace Go.Sx
open Go.Proofs
section
attribute [local irreducible] Ex za3 exD opX opE zca zd3 zd4 Spec zaa Fr zb9 zbb zba ckK zb8 zb6 zbu faK zb4 zd1 gK fK rK zeq lpX prK
theorem qa7 (H : List (List AV)) (D : AV) (l : List Nat) (hF : FL H D l) (hB : l.length ≤ 2 ^ 30) :
    zaa Tryz.prog 131 [D] H (.flt (sumF l)) H := by
  have hs : ∀ k, k < l.length → zjr (fo zjr 0 l k) (l.getD k 0) = fo zjr 0 l (k + 1) := fun k hk => (zkq hk).symm
  refine .go Tryz.call131 Tryz.func131 false [] dOk ?_
  simp only [za0, Nat.reduceAdd]
  repeat' (first
 |(refine zav ?_; (first | refine zbd ?_ | refine zao ?_ | fail))
 |(refine zaw ?_; (first | refine m41 ?_ | refine zb0 ?_ | refine m14 ?_ | (refine m07 ?_; (first | refine m15 ?_ | refine m16 ?_ | refine zdy (FL.app hF _) (by omega) ?_ | fail)) | refine zbz (by (conv => {lhs; whnf}); done) (by (conv => {lhs; whnf}); done) (by exact hF.len) (by omega) ?_ | refine zam (by (conv => {lhs; whnf}); done) (by exact hF.len) ?_ | (refine m00 ?_; (first | refine m47 ?_ | refine m48 ?_ | refine m49 ?_ | refine m50 ?_ | refine v_k ?_ | refine m51 ?_ | fail)) | refine m42 ?_ | refine zab ?_ | refine zac ?_ | refine m08 ?_ | refine zam (by (conv => {lhs; whnf}); done) (by first | rfl | assumption) ?_ | fail))
 |refine zat ?_ | refine zau ?_ | refine zas ?_
 |(refine zax ?_; (first | refine zar ?_ | refine zad ?_ | (refine m06 ?_; (first | refine c_T ?_ | refine c_F ?_ | refine c_P ?_ ?_ | refine c_B ?_ ?_ | fail)) | refine zaq ?_ | refine zah ?_ | refine zae ?_ | refine b_exit ?_ | (refine za1 [8, 6, 7, 3] l.length (fun k => ⟨[(8, .val (.int .i64 (k : Int))), (6, .val D), (7, .val (.int .i64 (l.length : Int))), (3, .val (.flt (fo zjr 0 l k)))], [], H ++ []⟩) (by exact rfl) ?_ ?_ <;> (first | intro k hk K hK | intro K) <;> (try dsimp only at *) <;> (try simp only [Int.natCast_add, Int.natCast_one] at *)) | fail))
 |refine zbh ?_ | refine zbi ?_ | refine zbg ?_ | refine m57 ?_
 |refine zdp ?_ | refine zdq ?_ | refine zdo ?_
 |(refine zdr (by exact rfl) ?_; first | exact hK | (rw [← hs k hk] at hK; exact hK) | (exfalso; first | omega | (simp_all; done) | (simp_all; omega)))
 |refine m05 ?_
 |refine m04 ?_ | refine m02 ?_ | refine m03 ?_ | refine zai ?_
 |intro _)
  all_goals first | refine zal rfl (by simp [mx, mxL, aOf, zbn, zaf]) ?_ | (trace_state; fail)
  all_goals (refine congrArg AV.flt ?_; exact zob zjr 0 l)
theorem zun (H : List (List AV)) (D : AV) (l : List Nat) (hF : FL H D l) (hB : l.length ≤ 2 ^ 30) :
    zaa Tryz.prog 130 [D] H (.sl none l.length (fl (l.map zbm))) H := by
  refine .go Tryz.call130 Tryz.func130 false [15] dOk ?_
  simp only [za0, Nat.reduceAdd]
  repeat' (first
 |(refine zav ?_; (first | refine zbd ?_ | refine zao ?_ | fail))
 |(refine zaw ?_; (first | refine m41 ?_ | refine zb0 ?_ | refine m14 ?_ | (refine m07 ?_; (first | refine m15 ?_ | refine m16 ?_ | refine zdy (FL.app hF _) (by omega) ?_ | fail)) | refine zbz (by (conv => {lhs; whnf}); done) (by (conv => {lhs; whnf}); done) (by exact hF.len) (by omega) ?_ | refine zam (by (conv => {lhs; whnf}); done) (by exact hF.len) ?_ | refine zee (i := 0) (N₀ := []) (by (conv => {lhs; whnf}); done) (by (conv => {lhs; whnf}); done) (by exact rfl) (by exact rfl) (by rw [zd9, zs7 (by omega)]) (by omega) (by exact rfl) (by exact rfl) (l' := fl (mpl zbm l (k + 1))) (by (rw [zoo (by omega)]; simp [fl])) ?_ | (refine m00 ?_; (first | refine m47 ?_ | refine m48 ?_ | refine m49 ?_ | refine m50 ?_ | refine v_k ?_ | refine m51 ?_ | fail)) | refine m42 ?_ | refine zab ?_ | refine zac ?_ | refine m08 ?_ | refine zaj ?_ | refine zam (by (conv => {lhs; whnf}); done) (by first | rfl | assumption) ?_ | refine zc2 (by exact rfl) (by exact rfl) (by decide) ?_ | fail))
 |refine zat ?_ | refine zau ?_ | refine zas ?_
 |(refine zax ?_; (first | refine zar ?_ | refine zad ?_ | (refine m06 ?_; (first | refine c_T ?_ | refine c_F ?_ | refine c_P ?_ ?_ | refine c_B ?_ ?_ | fail)) | refine zaq ?_ | refine zah ?_ | refine zae ?_ | refine b_exit ?_ | (refine za1 [8, 6, 7, 3] l.length (fun k => ⟨[(8, .val (.int .i64 (k : Int))), (6, .val D), (7, .val (.int .i64 (l.length : Int))), (3, .val (gV H.length 0 k))], [], H ++ ([] ++ gN (fl (mpl zbm l k)))⟩) (by exact rfl) ?_ ?_ <;> (first | intro k hk K hK | intro K) <;> (try dsimp only at *) <;> (try simp only [Int.natCast_add, Int.natCast_one] at *)) | fail))
 |refine m21 ?_
 |refine za4 ?_
 |(refine za5 ?_; (first | refine cA (zhy _ _) ?_ | fail))
 |refine m44 ?_
 |refine m40 ?_
 |(refine zbc (by (conv => {lhs; simp only [List.nil_append, List.cons_append]}); done) ?_; refine ⟨by exact rfl, ?_⟩)
 |refine zbt ?_
 |(intro N' hN'; simp only [List.nil_append, List.cons_append] at hN'; subst hN')
 |refine zbh ?_ | refine zbi ?_ | refine zbg ?_ | refine m57 ?_
 |refine zdp ?_ | refine zdq ?_ | refine zdo ?_
 |(refine zdr (by exact rfl) ?_; first | exact hK | (rw [← hs k (by omega), z0h (by assumption)] at hK; exact hK) | (rw [← hs k (by omega), z0g (by assumption)] at hK; exact hK) | (exfalso; first | omega | (simp_all; done) | (simp_all; omega)))
 |refine m05 ?_
 |refine m04 ?_ | refine m02 ?_ | refine m03 ?_ | refine zai ?_
 |intro _)
  all_goals first
    | (refine zb5 rfl ?_; rw [zs6]; exact zi0 (N₀ := []) (i := 0) rfl rfl (by simp) (by rw [zak]; exact Nat.zero_le _))
theorem qbm (H : List (List AV)) (D : AV) (l : List Nat) (hF : FL H D l) (off n inc : Int) (hI : VI l.length off n inc) (hR : za8 l.length off n inc) (i : Int) (hi0 : 0 ≤ i) (hi9 : i < n) :
    zaa Tryz.prog 168 [vt D off n inc, .int .i64 i] H (.flt (l.getD (off + i * inc).toNat 0)) H := by
  obtain ⟨hm, ho1, ho2, hn1, hn2, hi1, hi2⟩ := id hI
  have hr := zen hR hi0 hi9
  refine .go Tryz.call168 Tryz.func168 false [] dOk ?_
  simp only [za0, Nat.reduceAdd]
  repeat' (first
 |(refine zav ?_; (first | refine zbd ?_ | refine zao ?_ | fail))
 |(refine zaw ?_; (first | refine m14 ?_ | (refine m17 ?_; first | refine m19 ?_ | refine m18 ?_) | (refine m07 ?_; (first | refine m15 ?_ | refine m16 ?_ | refine zdy (FL.app hF _) (by omega) ?_ | fail)) | refine zy6 (by (conv => {lhs; whnf}); done) (by (conv => {lhs; whnf}); done) (by exact hF.len) (by omega) ?_ | (refine m00 ?_; (first | refine m49 ?_ | refine m49 ?_ | refine m50 ?_ | refine v_k ?_ | refine m51 ?_ | fail)) | refine m42 ?_ | refine zab ?_ | refine zac ?_ | refine m08 ?_ | refine m01 ?_ | fail))
 |refine zat ?_ | refine zau ?_ | refine zas ?_
 |(refine zax ?_; (first | refine zar ?_ | refine zad ?_ | (refine m06 ?_; (first | refine c_T ?_ | refine c_F ?_ | refine c_P ?_ ?_ | refine c_B ?_ ?_ | fail)) | refine zaq ?_ | refine zah ?_ | refine zae ?_ | refine b_exit ?_ | fail))
 |refine m05 ?_
 |refine m04 ?_ | refine m02 ?_ | refine m03 ?_ | refine zai ?_
 |intro _)
  all_goals first | refine zal rfl (by simp [mx, mxL, aOf, zbn, zaf]) ?_ | (trace_state; fail)
  all_goals exact rfl
theorem ztp (H : List (List AV)) (D : AV) (l : List Nat) (hF : FL H D l) (hB : l.length ≤ 2 ^ 30) :
    zaa Tryz.prog 111 [D] H (.flt (zbe l)) H := by
  have hs : ∀ k, k < l.length → zjr (fo (fun s x => zjr s (zbm x)) 0 l k) (zbm (l.getD k 0)) = fo (fun s x => zjr s (zbm x)) 0 l (k + 1) := fun k hk => by rw [zkq hk]
  refine .go Tryz.call111 Tryz.func111 false [] dOk ?_
  simp only [za0, Nat.reduceAdd]
  repeat' (first
 |(refine zav ?_; (first | refine zbd ?_ | refine zao ?_ | fail))
 |(refine zaw ?_; (first | refine m14 ?_ | (refine m07 ?_; (first | refine m15 ?_ | refine m16 ?_ | refine zdy (FL.app hF _) (by omega) ?_ | fail)) | refine zbz (by (conv => {lhs; whnf}); done) (by (conv => {lhs; whnf}); done) (by exact hF.len) (by omega) ?_ | refine zam (by (conv => {lhs; whnf}); done) (by exact hF.len) ?_ | (refine m00 ?_; (first | refine m47 ?_ | refine m48 ?_ | refine m49 ?_ | refine m50 ?_ | refine v_k ?_ | refine m51 ?_ | fail)) | refine m42 ?_ | refine zab ?_ | refine zac ?_ | refine m08 ?_ | refine zaj ?_ | refine zam (by (conv => {lhs; whnf}); done) (by first | rfl | assumption) ?_ | fail))
 |refine zat ?_ | refine zau ?_ | refine zas ?_
 |(refine zax ?_; (first | refine zar ?_ | refine zad ?_ | (refine m06 ?_; (first | refine c_T ?_ | refine c_F ?_ | refine c_P ?_ ?_ | refine c_B ?_ ?_ | fail)) | refine zaq ?_ | refine zah ?_ | refine zae ?_ | refine b_exit ?_ | (refine za1 [4, 0, 3, 2] l.length (fun k => ⟨[(4, .val (.int .i64 (k : Int))), (0, .val D), (3, .val (.flt (fo (fun s x => zjr s (zbm x)) 0 l k))), (2, .val (.flt 0))], [], H ++ []⟩) (by exact rfl) ?_ ?_ <;> (first | intro k hk K hK | intro K) <;> (try dsimp only at *) <;> (try simp only [Int.natCast_add, Int.natCast_one] at *)) | fail))
 |refine m21 ?_
 |refine za4 ?_
 |(refine za5 ?_; (first | refine cA (zj9 _ _) ?_ | refine cA (zox _ _ _) ?_ | fail))
 |refine zbh ?_ | refine zbi ?_ | refine zbg ?_ | refine m57 ?_
 |refine zdp ?_ | refine zdq ?_ | refine zdo ?_
 |(refine zdr (by exact rfl) ?_; first | exact hK | (rw [← hs k (by omega)] at hK; exact hK) | (exfalso; first | omega | (simp_all; done) | (simp_all; omega)))
 |refine m05 ?_
 |refine m04 ?_ | refine m02 ?_ | refine m03 ?_ | refine zai ?_
 |intro _)
  all_goals first | refine zal rfl (by simp [mx, mxL, aOf, zbn, zaf]) ?_ | (trace_state; fail)
  all_goals (refine congrArg AV.flt ?_; exact zob (fun s x => zjr s (zbm x)) 0 l)
theorem zw5 (H : List (List AV)) (D : AV) (l : List Nat) (hF : FL H D l) (hB : l.length ≤ 2 ^ 30) :
    zaa Tryz.prog 73 [D] H (.tup [.flt (sumF (l.map zbm)), .flt (zbp (l.map zbm))]) H := by
  refine .go Tryz.call73 Tryz.func73 false [] dOk ?_
  simp only [za0, Nat.reduceAdd]
  repeat' (first
 |(refine zav ?_; (first | refine zbd ?_ | refine zao ?_ | fail))
 |(refine zaw ?_; (first | refine m14 ?_ | refine m42 ?_ | refine zab ?_ | refine zac ?_ | refine m08 ?_ | refine zaj ?_ | fail))
 |refine zat ?_ | refine zau ?_ | refine zas ?_
 |(refine zax ?_; (first | refine zar ?_ | refine zad ?_ | (refine m06 ?_; (first | refine c_T ?_ | refine c_F ?_ | refine c_P ?_ ?_ | refine c_B ?_ ?_ | fail)) | refine zaq ?_ | refine zah ?_ | refine zae ?_ | refine b_exit ?_ | fail))
 |refine m21 ?_
 |refine za4 ?_
 |(refine za5 ?_; (first | refine cA (zun _ D l (FL.app hF _) hB) ?_ | refine cA (qa7 _ _ (l.map zbm) (by have := FL.fz (H ++ []) none (l.map zbm); rwa [List.length_map] at this) (by simpa using hB)) ?_ | refine cA (zzw _ _ (l.map zbm) (by have := FL.fz (H ++ []) none (l.map zbm); rwa [List.length_map] at this) (by simpa using hB)) ?_ | fail))
 |refine m05 ?_
 |refine m04 ?_ | refine m02 ?_ | refine m03 ?_ | refine zai ?_
 |intro _)
  all_goals first | refine zal rfl (by simp [mx, mxL, aOf, zbn, zaf]) ?_ | (trace_state; fail)
  all_goals exact rfl
end
section
attribute [local irreducible] Ex za3 exD opX opE zca zd3 zd4 Spec zaa Fr zb9 zbb zba ckK zb8 zb6 zbu faK zb4 zd1 gK fK rK zeq lpX prK
theorem z4y (H : List (List AV)) (D : AV) (l : List Nat) (hF : FL H D l) (off inc : Int) (n : Nat) (hI : VI l.length off n inc) (hR : za8 l.length off n inc) (hn0 : 0 < n) :
    zaa Tryz.prog 138 [vt D off n inc] H (.tup [.int .i64 (moN (zw3 l off (n : Int) inc) n : Int), .int .i64 0]) H := by
  obtain ⟨hm, ho1, ho2, hn1, hn2, hi1, hi2⟩ := id hI
  have hlt : ∀ k, 0 < k → moN (zw3 l off (n : Int) inc) k < k := fun k hk => zg4 _ k hk
  have hg : ∀ k : Nat, k < n → l.getD (off + (k : Int) * inc).toNat 0 = (zw3 l off (n : Int) inc).getD k 0 := fun k hk => (zpf (by omega)).symm
  refine .go Tryz.call138 Tryz.func138 false [] dOk ?_
  simp only [za0, Nat.reduceAdd]
  repeat' (first
 |(refine zav ?_; (first | refine zbd ?_ | refine zao ?_ | refine m13 ?_ | refine m12 ?_ | refine m11 ?_ | (refine m10 ?_; (first | refine zcv ?_ | refine zcq ?_ | refine zcu ?_ | refine zcr ?_ | refine zct ?_ ?_ | refine zcs ?_ ?_ | refine zcp ?_ ?_ | refine zco ?_ ?_ | fail)) | (refine m09 ?_; (first | refine zcv ?_ | refine zcq ?_ | refine zcu ?_ | refine zcr ?_ | refine zct ?_ ?_ | refine zcs ?_ ?_ | refine zcp ?_ ?_ | refine zco ?_ ?_ | fail)) | refine m38 ?_ | fail))
 |(refine zaw ?_; (first | refine m41 ?_ | refine zb0 ?_ | refine m14 ?_ | (refine m17 ?_; first | refine m19 ?_ | refine m18 ?_) | (refine m07 ?_; (first | refine m15 ?_ | refine m16 ?_ | fail)) | (refine m00 ?_; (first | refine m47 ?_ | refine m48 ?_ | refine m49 ?_ | refine m50 ?_ | refine zfn ?_ | refine zfl ?_ | refine zfm ?_ | refine v_k ?_ | refine m51 ?_ | fail)) | (refine m22 ?_; (first | refine m26 ?_ | refine m27 ?_ | fail)) | refine m42 ?_ | refine zab ?_ | refine zac ?_ | refine m08 ?_ | (refine m20 ?_; (first | refine m47 ?_ | refine m48 ?_ | refine m49 ?_ | refine m50 ?_ | refine zfn ?_ | refine zfl ?_ | refine zfm ?_ | refine v_k ?_ | refine m51 ?_ | fail)) | refine zaj ?_ | refine m01 ?_ | fail))
 |(refine zch ?_; (first | refine m36 ?_ | refine zcf ?_ | refine m32 ?_ | refine m31 ?_ | refine m30 ?_ | (refine m28 ?_; (first | refine ze6 ?_ | refine ze1 ?_ | refine ze5 ?_ | refine ze2 ?_ | refine ze4 ?_ ?_ | refine ze3 ?_ ?_ | refine ze0 ?_ ?_ | refine zez ?_ ?_ | fail)) | (refine m29 ?_; (first | refine ze6 ?_ | refine ze1 ?_ | refine ze5 ?_ | refine ze2 ?_ | refine ze4 ?_ ?_ | refine ze3 ?_ ?_ | refine ze0 ?_ ?_ | refine zez ?_ ?_ | fail)) | refine m37 ?_ | fail))
 |(refine zcg ?_; (first | refine zev ?_ | refine m34 ?_ | refine m35 ?_ | refine m33 ?_ | refine zew ?_ | refine m56 ?_ | refine zci ?_ | fail))
 |refine zat ?_ | refine zau ?_ | refine zas ?_
 |(refine zax ?_; (first | refine zar ?_ | refine zad ?_ | (refine m06 ?_; (first | refine c_T ?_ | refine c_F ?_ | refine c_P ?_ ?_ | refine c_B ?_ ?_ | fail)) | refine zaq ?_ | refine zah ?_ | refine zae ?_ | refine b_exit ?_ | refine zan (id := 7) [] [] [(0, .lt), (1, .lt), (2, .lt), (3, .ld true), (4, .lt), (7, .ld true), (8, .lt), (5, .mn true), (6, .mn true), (9, .mn true), (10, .mn true), (11, .lt), (12, .lt)] (by kernel_rfl) ?_ | (refine za1 [11, 10, 1, 4, 3, 2] n (fun k => ⟨[(11, .val (.int .i64 (k : Int))), (10, .val (.int .i64 (n : Int))), (1, .loc 1 0), (4, .val (.int .i64 (moI (zw3 l off (n : Int) inc) k))), (3, .val (.int .i64 0)), (2, .val (.int .i64 0))], [(1, [D, .int .i64 off, .int .i64 (n : Int), .int .i64 inc])], H ++ []⟩) (by exact rfl) ?_ ?_ <;> (first | (intro k hk K hK; rcases Nat.eq_zero_or_pos k with h0 | h0) | intro K) <;> (try dsimp only at *) <;> (try simp only [Int.natCast_add, Int.natCast_one] at *) <;> (try (first | (subst h0; simp only [zv2, z0f] at *) | (simp only [zm8 h0, zm8 (Nat.succ_pos k)] at *)))) | fail))
 |refine m21 ?_
 |refine za4 ?_
 |(refine za5 ?_; (first | refine cA (znf _ D l (FL.app hF _) off n inc hI) ?_ | refine cA (qbm _ D l (FL.app hF _) off _ inc hI hR (k : Int) (by omega) (by omega)) ?_ | refine cA (qbm _ D l (FL.app hF _) off _ inc hI hR ((moN _ k : Nat) : Int) (by omega) (by have := hlt k h0; omega)) ?_ | refine cA (zhy _ _) ?_ | fail))
 |refine zbh ?_ | refine zbi ?_ | refine zbg ?_ | refine m57 ?_
 |refine zdp ?_ | refine zdq ?_ | refine zdo ?_
 |(refine zdr (by exact rfl) ?_; first | exact hK | (rw [z4w h0 (by rw [← hg k hk, ← hg _ (by have := hlt k h0; omega)]; assumption)] at hK; exact hK) | (rw [z4v h0 (by rw [← hg k hk, ← hg _ (by have := hlt k h0; omega)]; assumption)] at hK; exact hK) | (exfalso; first | omega | (simp_all; done) | (simp_all; omega)))
 |refine m05 ?_
 |refine m04 ?_ | refine m02 ?_ | refine m03 ?_ | refine zai ?_
 |intro _)
  all_goals first
    | (exfalso; contradiction)
    | (refine zal rfl (by simp [mx, mxL, aOf, zbn, zaf]) ?_; rw [zm8 hn0]; exact rfl)
theorem z5y (H : List (List AV)) (D : AV) (l : List Nat) (hF : FL H D l) (hB : l.length ≤ 2 ^ 30) (h0 : 0 < l.length) :
    zaa Tryz.prog 114 [D] H (.int .i64 (moN l l.length : Int)) H := by
  have hlt : ∀ k, k < l.length - 1 → moN l (k + 1) < l.length := fun k hk => by (have := zg4 l (k + 1) (by omega); omega)
  refine .go Tryz.call114 Tryz.func114 false [] dOk ?_
  simp only [za0, Nat.reduceAdd]
  repeat' (first
 |(refine zav ?_; (first | refine zbd ?_ | refine zao ?_ | fail))
 |(refine zaw ?_; (first | refine m14 ?_ | (refine m07 ?_; (first | refine m15 ?_ | refine m16 ?_ | refine zdy (FL.app hF _) (by omega) ?_ | refine zdy (FL.app hF _) (by have := hlt k hk; omega) ?_ | fail)) | refine zam (by (conv => {lhs; whnf}); done) (by exact hF.len) ?_ | refine zec (m := k + 1) (by (conv => {lhs; whnf}); done) (by (conv => {lhs; whnf}); done) (by exact hF.len) (by omega) (by omega) ?_ | refine zbz (by (conv => {lhs; whnf}); done) (by (conv => {lhs; whnf}); done) (by exact hF.len) (by have := hlt k hk; omega) ?_ | (refine m45 ?_; (first | refine zb3 (by exact rfl) ?_ | refine v_k ?_ | fail)) | (refine m00 ?_; (first | refine m52 ?_ | refine m53 ?_ | refine zc7 ?_ | refine m47 ?_ | refine m48 ?_ | refine m49 ?_ | refine m50 ?_ | refine v_k ?_ | refine m51 ?_ | fail)) | refine m42 ?_ | refine zab ?_ | refine zac ?_ | refine m08 ?_ | refine zaj ?_ | refine zam (by (conv => {lhs; whnf}); done) (by first | rfl | assumption) ?_ | fail))
 |(refine zch ?_; (first | refine m36 ?_ | refine zcf ?_ | fail))
 |(refine zcg ?_; (first | refine zev ?_ | refine m34 ?_ | refine m35 ?_ | refine m33 ?_ | refine zew ?_ | refine m56 ?_ | refine zci ?_ | refine zc1 (by exact rfl) ?_ | fail))
 |refine zat ?_ | refine zau ?_ | refine zas ?_
 |(refine zax ?_; (first | refine zar ?_ | refine zad ?_ | (refine m06 ?_; (first | refine c_T ?_ | refine c_F ?_ | refine c_P ?_ ?_ | refine c_B ?_ ?_ | fail)) | refine zaq ?_ | refine zah ?_ | refine zae ?_ | refine b_exit ?_ | refine zan (id := 7) [] [] [(0, .lt), (1, .lt), (2, .lt), (3, .ld true), (5, .lt), (6, .lt), (7, .lt), (8, .ld true), (4, .mn true), (9, .mn true), (10, .lt)] (by kernel_rfl) ?_ | (refine za1 [4, 0, 3, 2] (l.length - 1) (fun k => ⟨[(4, .val (.int .i64 ((k + 1 : Nat) : Int))), (0, .val D), (3, .val (.int .i64 (moN l (k + 1) : Int))), (2, .val (.int .i64 0))], [], H ++ []⟩) (by exact rfl) ?_ ?_ <;> (first | intro k hk K hK | intro K) <;> (try dsimp only at *) <;> (try simp only [Int.natCast_add, Int.natCast_one] at *)) | fail))
 |refine m21 ?_
 |refine za4 ?_
 |(refine za5 ?_; (first | refine cA (zj9 _ _) ?_ | fail))
 |refine zbh ?_ | refine zbi ?_ | refine zbg ?_ | refine m57 ?_
 |refine zdp ?_ | refine zdq ?_ | refine zdo ?_
 |(refine zdr (by exact rfl) ?_; first | exact hK | (rw [z4w (k := k + 1) (by omega) (by assumption)] at hK; exact hK) | (rw [z4v (k := k + 1) (by omega) (by assumption)] at hK; exact hK) | (exfalso; first | omega | (simp_all; done) | (simp_all; omega)))
 |refine m05 ?_
 |refine m04 ?_ | refine m02 ?_ | refine m03 ?_ | refine zai ?_
 |intro _)
  all_goals first | refine zal rfl (by simp [mx, mxL, aOf, zbn, zaf]) ?_ | (trace_state; fail)
  all_goals first
    | (exfalso; omega)
    | (rw [show l.length - 1 + 1 = l.length by omega]; exact rfl)
end
end Go.Sx
set_option linter.unusedVariables false
set_option linter.unusedSimpArgs false
set_option maxRecDepth 20000
namespace Go.Sx
open Go.Proofs
theorem ztv (l : List Nat) : rml (fun i => l.getD i 0) l.length = l := by
  apply List.ext_getElem
  · simp
  · intro i h1 h2
    have e := zcz (g := fun i => l.getD i 0) h2
    have a1 : (rml (fun i => l.getD i 0) l.length)[i] = (rml (fun i => l.getD i 0) l.length).getD i 0 := by rw [List.getD_eq_getElem?_getD, List.getElem?_eq_getElem h1]; rfl
    have a2 : l[i] = l.getD i 0 := by rw [List.getD_eq_getElem?_getD, List.getElem?_eq_getElem h2]; rfl
    rw [a1, a2]; exact e
theorem zlg (H : List (List AV)) (D : AV) (l : List Nat) (hF : FL H D l) (hB : l.length ≤ 2 ^ 30) : zaa Tryz.prog 73 [D] H (.tup [.flt (zbe l), .flt (zbp (l.map zbm))]) H := by
  have h := zw5 H D l hF hB
  rwa [zu1] at h
theorem zx4 (H : List (List AV)) (X : AV) (x : List Nat) (hX : FL H X x) (n : Nat) (hx : x.length = n) : zaa Tryz.prog 149 [X] H (vt X 0 (n : Int) 1) H := by subst hx; exact z4m H X x hX
theorem zyj (H : List (List AV)) (X : AV) (x : List Nat) (hX : FL H X x) (n : Nat) (hx : x.length = n) (h1 : 1 ≤ n) (h64 : n ≤ 64) : zaa Tryz.prog 152 [vt X 0 (n : Int) 1] H (.tup [.sl none n (fl (sgL x)), .int .i64 0]) H := by subst hx; exact z6q H X x hX h1 h64
theorem zn2 (H : List (List AV)) (X : AV) (x : List Nat) (hX : FL H X x) (n : Nat) (hx : x.length = n) (h64 : n ≤ 64) (hN : NN X) : zaa Tryz.prog 106 [X] H (.sl none n (fl x)) H := by subst hx; exact zzg H X x hX (by omega) hN
attribute [local irreducible] Ex za3 exD opX opE zca zd3 zd4 Spec zaa Fr zb9 zbb zba ckK zb8 zb6 zbu faK zb4 zd1 gK fK rK zeq lpX prK
theorem z7d (H : List (List AV)) (mid : Nat) (hb : mid < H.length) (n : Nat) (hn1 : 1 ≤ n) (hn : n ≤ 64) (st : Int) (est : Nat) (V S : AV) (hV : mx V = 0) (hS : mx S = 0) (j ct : Nat) (H0 H' : List (List AV)) (h0 : H.set mid (mDc (n : Int) st est V S (j : Int) (ct : Int)) = H0) (h' : H.set mid (mDc (n : Int) 3 est V S (j : Int) (ct : Int)) ++ [fl (rml (yU j) n)] = H') (m : Nat) (hm9 : H.length = m) :
    zaa Tryz.prog 150 [mP mid] H0 (.tup [.slm m n 0 n 1, .int .i64 1]) H' := by
  subst h0 h' hm9
  refine .go Tryz.call150 Tryz.func150 true [] dOk ?_
  simp only [za0, Nat.reduceAdd]
  repeat' (first
 |(refine zav ?_; (first | refine zbd ?_ | refine zao ?_ | fail))
 |(refine zaw ?_; (first | (refine m07 ?_; (first | refine m15 ?_ | refine m16 ?_ | refine zus (by simp) (by exact rfl) (by exact rfl) (by exact rfl) ?_ | refine zsp (n := H.length) (by simp) (by exact rfl) (by exact rfl) (by exact rfl) ?_ | refine zvw hb (by exact rfl) (by exact rfl) ?_ | fail)) | refine zex (n := H.length) (by (conv => {lhs; whnf}); done) (by exact rfl) (by exact rfl) (by simp) (by (conv => {lhs; whnf}); done) (by (conv => {lhs; simp only [List.nil_append, List.cons_append]}); done) ?_ | refine zjn ?_ | refine m42 ?_ | refine zab ?_ | refine zac ?_ | refine m08 ?_ | refine zaj ?_ | refine m23 ?_ | refine m01 ?_ | fail))
 |refine zat ?_ | refine zau ?_ | refine zas ?_
 |(refine zax ?_; (first | refine zar ?_ | refine zad ?_ | (refine m06 ?_; (first | refine c_T ?_ | refine c_F ?_ | refine c_P ?_ ?_ | refine c_B ?_ ?_ | fail)) | refine zaq ?_ | refine zah ?_ | refine zae ?_ | refine b_exit ?_ | fail))
 |refine m43 ?_
 |refine zbv ?_
 |refine m21 ?_
 |refine za4 ?_
 |(refine za5 ?_; (first | refine c_call (zu0 (H ++ [[mP mid]]) mid (by simp; omega) n hn _ _ _ _ (by first | assumption | simp only [mx, zak]) (by first | assumption | simp only [mx, zak]) _ _ 3 1 173 _ (yU j) (fun N i hi => qc7 _ mid _ (zv0 hb _) (by exact rfl) _ (zu8 hb) j (by exact rfl) i) _ _ (zbf hb _) (zeo hb _ _) _ (by simp; rfl)) (zbk.mdl (by simp) (zfk (by first | assumption | simp only [mx, zak]) (by first | assumption | simp only [mx, zak]))) ?_ | fail))
 |refine m44 ?_
 |refine m40 ?_
 |(refine zbc (by (conv => {lhs; simp only [List.nil_append, List.cons_append]}); done) ?_; first | refine ⟨by exact rfl, ?_⟩ | skip)
 |refine zbt ?_
 |(intro N' hN'; simp only [List.nil_append, List.cons_append] at hN'; subst hN')
 |refine m05 ?_
 |refine m04 ?_ | refine m02 ?_ | refine m03 ?_ | refine zai ?_
 |intro _)
  all_goals first
    | (exfalso; contradiction)
    | (exfalso; omega)
    | (exfalso; simp_all; done)
    | (refine zgc (j := 1) (cs := fl (rml (yU j) n)) (by simp) (by exact rfl) (by rw [zak]; exact Nat.zero_le _) ?_; simp only [List.length_set]; exact Fr.tup (Frs.cons (Fr.kp (j := 0) (cs := fl (rml (yU j) n)) rfl (za9 (by simp) rfl) (by simp [*])) (Frs.cons (Fr.old (by simp [mx])) Frs.nil)))
theorem zzt (H : List (List AV)) (mid : Nat) (hb : mid < H.length) (n : Nat) (hn1 : 1 ≤ n) (hn : n ≤ 64) (st : Int) (est : Nat) (V S : AV) (hV : mx V = 0) (hS : mx S = 0) (j ct : Nat) (H0 H' : List (List AV)) (h0 : H.set mid (mDc (n : Int) st est V S (j : Int) (ct : Int)) = H0) (h' : H.set mid (mDc (n : Int) 5 est V S (j : Int) (ct : Int)) ++ [fl (rml (yL n) n)] = H') (m : Nat) (hm9 : H.length = m) :
    zaa Tryz.prog 154 [mP mid] H0 (.tup [.slm m n 0 n 1, .int .i64 1]) H' := by
  subst h0 h' hm9
  refine .go Tryz.call154 Tryz.func154 true [] dOk ?_
  simp only [za0, Nat.reduceAdd]
  repeat' (first
 |(refine zav ?_; (first | refine zbd ?_ | refine zao ?_ | fail))
 |(refine zaw ?_; (first | (refine m07 ?_; (first | refine m15 ?_ | refine m16 ?_ | refine zus (by simp) (by exact rfl) (by exact rfl) (by exact rfl) ?_ | refine zsp (n := H.length) (by simp) (by exact rfl) (by exact rfl) (by exact rfl) ?_ | refine zvw hb (by exact rfl) (by exact rfl) ?_ | fail)) | refine zex (n := H.length) (by (conv => {lhs; whnf}); done) (by exact rfl) (by exact rfl) (by simp) (by (conv => {lhs; whnf}); done) (by (conv => {lhs; simp only [List.nil_append, List.cons_append]}); done) ?_ | refine zjn ?_ | refine m42 ?_ | refine zab ?_ | refine zac ?_ | refine m08 ?_ | refine zaj ?_ | refine m23 ?_ | refine m01 ?_ | fail))
 |refine zat ?_ | refine zau ?_ | refine zas ?_
 |(refine zax ?_; (first | refine zar ?_ | refine zad ?_ | (refine m06 ?_; (first | refine c_T ?_ | refine c_F ?_ | refine c_P ?_ ?_ | refine c_B ?_ ?_ | fail)) | refine zaq ?_ | refine zah ?_ | refine zae ?_ | refine b_exit ?_ | fail))
 |refine m43 ?_
 |refine zbv ?_
 |refine m21 ?_
 |refine za4 ?_
 |(refine za5 ?_; (first | refine c_call (zu0 (H ++ [[mP mid]]) mid (by simp; omega) n hn _ _ _ _ (by first | assumption | simp only [mx, zak]) (by first | assumption | simp only [mx, zak]) _ _ 5 1 176 _ (yL n) (fun N i hi => qcz _ mid _ (zv0 hb _) (by exact rfl) _ (zu8 hb) n hn (by exact rfl) i (by omega)) _ _ (zbf hb _) (zeo hb _ _) _ (by simp; rfl)) (zbk.mdl (by simp) (zfk (by first | assumption | simp only [mx, zak]) (by first | assumption | simp only [mx, zak]))) ?_ | fail))
 |refine m44 ?_
 |refine m40 ?_
 |(refine zbc (by (conv => {lhs; simp only [List.nil_append, List.cons_append]}); done) ?_; first | refine ⟨by exact rfl, ?_⟩ | skip)
 |refine zbt ?_
 |(intro N' hN'; simp only [List.nil_append, List.cons_append] at hN'; subst hN')
 |refine m05 ?_
 |refine m04 ?_ | refine m02 ?_ | refine m03 ?_ | refine zai ?_
 |intro _)
  all_goals first
    | (exfalso; contradiction)
    | (exfalso; omega)
    | (exfalso; simp_all; done)
    | (refine zgc (j := 1) (cs := fl (rml (yL n) n)) (by simp) (by exact rfl) (by rw [zak]; exact Nat.zero_le _) ?_; simp only [List.length_set]; exact Fr.tup (Frs.cons (Fr.kp (j := 0) (cs := fl (rml (yL n) n)) rfl (za9 (by simp) rfl) (by simp [*])) (Frs.cons (Fr.old (by simp [mx])) Frs.nil)))
theorem zt3 (H : List (List AV)) (mid : Nat) (hb : mid < H.length) (n : Nat) (hn1 : 1 ≤ n) (hn : n ≤ 64) (st : Int) (est : Nat) (V S : AV) (hV : mx V = 0) (hS : mx S = 0) (j ct : Nat) (st1 : Int) (X : AV) (x : List Nat) (hX : ∀ c N, FL (H.set mid c ++ N) X x) (hx : x.length = n) (hN : NN X) (H0 H' : List (List AV)) (h0 : H.set mid (mDc (n : Int) st est V S (j : Int) (ct : Int)) = H0) (h' : H.set mid (mDc (n : Int) st1 est V (.sl none n (fl (sgL x))) (j : Int) (ct : Int)) ++ [fl (sgL x)] = H') (m : Nat) (hm9 : H.length = m) :
    zaa Tryz.prog 148 [mP mid, .int .i64 st1, X] H0 (.tup [.slm m n 0 n 1, .int .i64 2]) H' := by
  subst h0 h' hm9
  refine .go Tryz.call148 Tryz.func148 true [] dOk ?_
  simp only [za0, Nat.reduceAdd]
  repeat' (first
 |(refine zav ?_; (first | refine zbd ?_ | refine zao ?_ | fail))
 |(refine zaw ?_; (first | refine m14 ?_ | (refine m17 ?_; first | refine m19 ?_ | refine m18 ?_) | (refine m07 ?_; (first | refine m15 ?_ | refine m16 ?_ | refine zus (by simp) (by exact rfl) (by exact rfl) (by exact rfl) ?_ | refine zsp (n := H.length) (by simp) (by exact rfl) (by exact rfl) (by exact rfl) ?_ | refine zvw hb (by exact rfl) (by exact rfl) ?_ | fail)) | refine zc3 (by (conv => {lhs; whnf}); done) ?_ | refine zex (n := H.length) (by (conv => {lhs; whnf}); done) (by exact rfl) (by exact rfl) (by simp) (by (conv => {lhs; whnf}); done) (by (conv => {lhs; simp only [List.nil_append, List.cons_append]}); done) ?_ | refine zjn ?_ | refine zms (by (conv => {lhs; whnf}); done) (by (conv => {lhs; whnf}); done) (by exact rfl) hb (by exact rfl) (by decide) (by first | exact (by exact rfl) | simp only [mx, zak]) (by exact rfl) ?_ | refine m42 ?_ | refine zab ?_ | refine zac ?_ | refine m08 ?_ | refine zaj ?_ | refine m23 ?_ | refine m25 ?_ | refine m01 ?_ | fail))
 |(refine zch ?_; (first | refine m36 ?_ | refine zcf ?_ | fail))
 |(refine zcg ?_; (first | refine zev ?_ | refine zfv ?_ | refine zfw (by (conv => {lhs; whnf}); done) ?_ | refine zfx ?_ | refine zfu (by exact rfl) (by exact rfl) ?_ | refine m34 ?_ | refine m35 ?_ | refine m33 ?_ | refine zew ?_ | refine m56 ?_ | refine zci ?_ | refine zc1 (by exact rfl) ?_ | fail))
 |refine zat ?_ | refine zau ?_ | refine zas ?_
 |(refine zax ?_; (first | refine zar ?_ | refine zad ?_ | (refine m06 ?_; (first | refine c_T ?_ | refine c_F ?_ | refine c_P ?_ ?_ | refine c_B ?_ ?_ | fail)) | refine zaq ?_ | refine zah ?_ | refine zae ?_ | refine b_exit ?_ | refine zan (id := 1) [] [9] [(0, .ld true), (1, .lt), (2, .mn true), (3, .mn true), (4, .lt), (5, .lt), (6, .lt), (7, .lt), (8, .lt), (9, .mn false)] (by kernel_rfl) ?_ | fail))
 |refine m43 ?_
 |refine zbv ?_
 |refine m21 ?_
 |refine za4 ?_
 |(refine za5 ?_; (first | refine cA (zx4 _ X x (hX _ _) n hx) ?_ | refine cA (zyj _ X x (hX _ _) n hx hn1 hn) ?_ | refine c_call (zu0 (H ++ [[mP mid]]) mid (by simp; omega) n hn _ _ _ _ (by first | assumption | simp only [mx, zak]) (by first | assumption | simp only [mx, zak]) _ _ st1 2 172 _ (fun i => (sgL x).getD i 0) (fun N i hi => qc0 _ mid _ (zv0 hb _) (by exact rfl) _ (zu8 hb) (.sl none n (fl (sgL x))) (by exact rfl) (sgL x) (FLz _ _ _ (by simp [hx])) i (by simp; omega)) _ _ (zbf hb _) (zeo hb _ _) _ (by simp; rfl)) (zbk.mdl (by simp) (zfk (by first | assumption | simp only [mx, zak]) (by first | assumption | simp only [mx, zak]))) ?_ | fail))
 |refine m44 ?_
 |refine m40 ?_
 |(refine zbc (by (conv => {lhs; simp only [List.nil_append, List.cons_append]}); done) ?_; first | refine ⟨by exact rfl, ?_⟩ | skip)
 |refine zbt ?_
 |(intro N' hN'; simp only [List.nil_append, List.cons_append] at hN'; subst hN')
 |refine m05 ?_
 |refine m04 ?_ | refine m02 ?_ | refine m03 ?_ | refine zai ?_
 |intro _)
  all_goals (have hrs : rml (fun i => (sgL x).getD i 0) n = sgL x := by rw [← hx, ← znm x]; exact ztv _)
  all_goals (try rw [hrs])
  all_goals first
    | (exfalso; contradiction)
    | (exfalso; omega)
    | (exfalso; simp_all; done)
    | (refine zgc (j := 1) (cs := fl (sgL x)) (by simp) (by exact rfl) (by rw [zak]; exact Nat.zero_le _) ?_; simp only [List.length_set]; exact Fr.tup (Frs.cons (Fr.kp (j := 0) (cs := fl (sgL x)) rfl (za9 (by simp) rfl) (by simp [*])) (Frs.cons (Fr.old (by simp [mx])) Frs.nil)))
theorem zf4 :
    (∀ (H : List (List AV)) (mid : Nat) (hb : mid < H.length) (n : Nat) (hn1 : 1 ≤ n) (hn : n ≤ 64) (st : Int) (est : Nat) (V S : AV) (hV : mx V = 0) (hS : mx S = 0) (j ct : Nat) (X : AV) (x : List Nat) (hX : ∀ c N, FL (H.set mid c ++ N) X x) (hx : x.length = n) (hN : NN X) (t : Nat) (ht : flt est t = true) (H0 H' : List (List AV)) (h0 : H.set mid (mDc (n : Int) st est V S (j : Int) (ct : Int)) = H0) (h' : H.set mid (mDc (n : Int) st t (.sl none n (fl x)) S (j : Int) (ct : Int)) = H'), zaa Tryz.prog 151 [mP mid, .flt t, X] H0 (.tup []) H') ∧
    (∀ (H : List (List AV)) (mid : Nat) (hb : mid < H.length) (n : Nat) (hn1 : 1 ≤ n) (hn : n ≤ 64) (st : Int) (est : Nat) (V S : AV) (hV : mx V = 0) (hS : mx S = 0) (j ct : Nat) (X : AV) (x : List Nat) (hX : ∀ c N, FL (H.set mid c ++ N) X x) (hx : x.length = n) (hN : NN X) (t : Nat) (ht : ¬ flt est t = true) (H0 H' : List (List AV)) (h0 : H.set mid (mDc (n : Int) st est V S (j : Int) (ct : Int)) = H0) (h' : H.set mid (mDc (n : Int) st est V S (j : Int) (ct : Int)) = H'), zaa Tryz.prog 151 [mP mid, .flt t, X] H0 (.tup []) H') := by
  refine ⟨?_, ?_⟩
  (intro H mid hb n hn1 hn st est V S hV hS j ct X x hX hx hN t ht H0 H' h0 h'
   subst h0 h'
   refine .go Tryz.call151 Tryz.func151 false [] dOk ?_
   simp only [za0, Nat.reduceAdd])
  rotate_left
  (intro H mid hb n hn1 hn st est V S hV hS j ct X x hX hx hN t ht H0 H' h0 h'
   subst h0 h'
   refine .go Tryz.call151 Tryz.func151 false [] dOk ?_
   simp only [za0, Nat.reduceAdd])
  rotate_left
  all_goals (repeat' (first
 |(refine zav ?_; (first | refine zbd ?_ | refine zao ?_ | fail))
 |(refine zaw ?_; (first | refine m14 ?_ | (refine m17 ?_; first | refine m19 ?_ | refine m18 ?_) | (refine m07 ?_; (first | refine m15 ?_ | refine m16 ?_ | refine zus (by simp) (by exact rfl) (by exact rfl) (by exact rfl) ?_ | refine zsp (n := H.length) (by simp) (by exact rfl) (by exact rfl) (by exact rfl) ?_ | refine zvw hb (by exact rfl) (by exact rfl) ?_ | fail)) | refine zc3 (by (conv => {lhs; whnf}); done) ?_ | refine zms (by (conv => {lhs; whnf}); done) (by (conv => {lhs; whnf}); done) (by exact rfl) hb (by exact rfl) (by decide) (by first | exact (by exact rfl) | simp only [mx, zak]) (by exact rfl) ?_ | (refine m00 ?_; (first | refine m47 ?_ | refine m48 ?_ | refine m49 ?_ | refine m50 ?_ | refine v_k ?_ | refine m51 ?_ | fail)) | refine zaj ?_ | refine m25 ?_ | fail))
 |refine zat ?_ | refine zau ?_ | refine zas ?_
 |(refine zax ?_; (first | refine zar ?_ | refine zad ?_ | (refine m06 ?_; (first | refine c_T ?_ | refine c_F ?_ | refine c_P ?_ ?_ | refine c_B ?_ ?_ | fail)) | refine zaq ?_ | refine zah ?_ | refine zae ?_ | refine b_exit ?_ | fail))
 |refine m21 ?_
 |refine za4 ?_
 |(refine za5 ?_; (first | refine cA (zn2 _ X x (hX _ _) n hx hn hN) ?_ | fail))
 |refine m05 ?_
 |refine m04 ?_ | refine m02 ?_ | refine m03 ?_ | refine zai ?_
 |intro _))
  all_goals first
    | (exfalso; simp_all; done)
    | (refine zal (by simp) (by simp [mx, mxL, zaf]) ?_; exact rfl)
theorem zu6 : type_of% @zf4.1 := @zf4.1
theorem zu5 : type_of% @zf4.2 := @zf4.2
theorem zu4 (H : List (List AV)) (mid : Nat) (hb : mid < H.length) (n : Nat) (hn1 : 1 ≤ n) (hn : n ≤ 64) (st : Int) (est : Nat) (V S : AV) (hV : mx V = 0) (hS : mx S = 0) (j ct : Nat) (X : AV) (x : List Nat) (hX : ∀ c N, FL (H.set mid c ++ N) X x) (hx : x.length = n) (hN : NN X) (t : Nat) (H0 H' : List (List AV)) (h0 : H.set mid (mDc (n : Int) st est V S (j : Int) (ct : Int)) = H0) (h' : H.set mid (mDc (n : Int) st (if flt est t = true then t else est) (if flt est t = true then .sl none n (fl x) else V) S (j : Int) (ct : Int)) = H') : zaa Tryz.prog 151 [mP mid, .flt t, X] H0 (.tup []) H' := by
  by_cases ht : flt est t = true
  · rw [if_pos ht, if_pos ht] at h'
    exact zu6 H mid hb n hn1 hn st est V S hV hS j ct X x hX hx hN t ht H0 H' h0 h'
  · rw [if_neg ht, if_neg ht] at h'
    exact zu5 H mid hb n hn1 hn st est V S hV hS j ct X x hX hx hN t ht H0 H' h0 h'
end Go.Sx
set_option linter.unusedVariables false
set_option linter.unusedSimpArgs false
set_option maxRecDepth 20000
namespace Go.Sx
open Go.Proofs
theorem z4x (H : List (List AV)) (X : AV) (x : List Nat) (hX : FL H X x) (h1 : 1 ≤ x.length) (h64 : x.length ≤ 64) : zaa Tryz.prog 138 [vt X 0 (x.length : Int) 1] H (.tup [.int .i64 (moN x x.length : Int), .int .i64 0]) H := by
  have h := z4y H X x hX 0 1 x.length (zmo h64).1 (zmo h64).2 (by omega)
  rwa [zw4] at h
theorem z4z (H : List (List AV)) (X : AV) (x : List Nat) (hX : FL H X x) (n : Nat) (hx : x.length = n) (h1 : 1 ≤ n) (h64 : n ≤ 64) : zaa Tryz.prog 138 [vt X 0 (n : Int) 1] H (.tup [.int .i64 (moN x n : Int), .int .i64 0]) H := by subst hx; exact z4x H X x hX h1 h64
attribute [local irreducible] Ex za3 exD opX opE zca zd3 zd4 Spec zaa Fr zb9 zbb zba ckK zb8 zb6 zbu faK zb4 zd1 gK fK rK zeq lpX prK
theorem zdk :
    (∀ (H : List (List AV)) (mid : Nat) (hb : mid < H.length) (n : Nat) (hn1 : 1 ≤ n) (hn : n ≤ 64) (est : Nat) (V S : AV) (hV : mx V = 0) (hS : mx S = 0) (j ct : Nat) (H0 H' : List (List AV)) (h0 : H.set mid (mDc (n : Int) 0 est V S (j : Int) (ct : Int)) = H0) (h' : H.set mid (mDc (n : Int) 1 est V S (j : Int) (ct : Int)) ++ [fl (rml (yB n) n)] = H') (m : Nat) (hm9 : H.length = m), zaa Tryz.prog 102 [mP mid, .slnil] H0 (.tup [.slm m n 0 n 1, .int .i64 1]) H') ∧
    (∀ (H : List (List AV)) (mid : Nat) (hb : mid < H.length) (n : Nat) (hn1 : 1 ≤ n) (hn : n ≤ 64) (est : Nat) (V S : AV) (hV : mx V = 0) (hS : mx S = 0) (j ct : Nat) (X : AV) (x : List Nat) (hX : ∀ c N, FL (H.set mid c ++ N) X x) (hx : x.length = n) (hN : NN X) (hn2 : 1 < n) (H0 H' : List (List AV)) (h0 : H.set mid (mDc (n : Int) 1 est V S (j : Int) (ct : Int)) = H0) (h' : H.set mid (mDc (n : Int) 2 (zbe x) (.sl none n (fl x)) (.sl none n (fl (sgL x))) (j : Int) (ct : Int)) ++ [fl (sgL x)] = H') (m : Nat) (hm9 : H.length = m), zaa Tryz.prog 102 [mP mid, X] H0 (.tup [.slm m n 0 n 1, .int .i64 2]) H') ∧
    (∀ (H : List (List AV)) (mid : Nat) (hb : mid < H.length) (n : Nat) (hn1 : 1 ≤ n) (hn : n ≤ 64) (est : Nat) (V S : AV) (hV : mx V = 0) (hS : mx S = 0) (j ct : Nat) (X : AV) (x : List Nat) (hX : ∀ c N, FL (H.set mid c ++ N) X x) (hx : x.length = n) (hN : NN X) (hn2 : n = 1) (H0 H' : List (List AV)) (h0 : H.set mid (mDc (n : Int) 1 est V S (j : Int) (ct : Int)) = H0) (h' : H.set mid (mDc (n : Int) 6 (zbe x) (.sl none n (fl x)) S (j : Int) (ct : Int)) = H'), zaa Tryz.prog 102 [mP mid, X] H0 (.tup [.slnil, .int .i64 0]) H') ∧
    (∀ (H : List (List AV)) (mid : Nat) (hb : mid < H.length) (n : Nat) (hn1 : 1 ≤ n) (hn : n ≤ 64) (est : Nat) (V S : AV) (hV : mx V = 0) (hS : mx S = 0) (j ct : Nat) (X : AV) (x : List Nat) (hX : ∀ c N, FL (H.set mid c ++ N) X x) (hx : x.length = n) (hN : NN X) (H0 H' : List (List AV)) (h0 : H.set mid (mDc (n : Int) 2 est V S (j : Int) (ct : Int)) = H0) (h' : H.set mid (mDc (n : Int) 3 est V S (moN x n : Int) ((2 : Nat) : Int)) ++ [fl (rml (yU (moN x n)) n)] = H') (m : Nat) (hm9 : H.length = m), zaa Tryz.prog 102 [mP mid, X] H0 (.tup [.slm m n 0 n 1, .int .i64 1]) H') ∧
    (∀ (H : List (List AV)) (mid : Nat) (hb : mid < H.length) (n : Nat) (hn1 : 1 ≤ n) (hn : n ≤ 64) (est : Nat) (V S : AV) (hV : mx V = 0) (hS : mx S = 0) (j ct : Nat) (X : AV) (x : List Nat) (hX : ∀ c N, FL (H.set mid c ++ N) X x) (hx : x.length = n) (hN : NN X) (s : List Nat) (hSs : ∀ H, FL H S s) (hs2 : ∀ y ∈ s, y = 4607182418800017408 ∨ y = 13830554455654793216) (hsl : s.length ≤ 2 ^ 30) (hc : (sgL x = s ∨ (flt (zbe x) est || feq (zbe x) est) = true)) (H0 H' : List (List AV)) (h0 : H.set mid (mDc (n : Int) 3 est V S (j : Int) (ct : Int)) = H0) (h' : H.set mid (mDc (n : Int) 5 (if flt est (zbe x) = true then (zbe x) else est) (if flt est (zbe x) = true then .sl none n (fl x) else V) S (j : Int) (ct : Int)) ++ [fl (rml (yL n) n)] = H') (m : Nat) (hm9 : H.length = m), zaa Tryz.prog 102 [mP mid, X] H0 (.tup [.slm m n 0 n 1, .int .i64 1]) H') ∧
    (∀ (H : List (List AV)) (mid : Nat) (hb : mid < H.length) (n : Nat) (hn1 : 1 ≤ n) (hn : n ≤ 64) (est : Nat) (V S : AV) (hV : mx V = 0) (hS : mx S = 0) (j ct : Nat) (X : AV) (x : List Nat) (hX : ∀ c N, FL (H.set mid c ++ N) X x) (hx : x.length = n) (hN : NN X) (s : List Nat) (hSs : ∀ H, FL H S s) (hs2 : ∀ y ∈ s, y = 4607182418800017408 ∨ y = 13830554455654793216) (hsl : s.length ≤ 2 ^ 30) (hc : ¬ (sgL x = s ∨ (flt (zbe x) est || feq (zbe x) est) = true)) (H0 H' : List (List AV)) (h0 : H.set mid (mDc (n : Int) 3 est V S (j : Int) (ct : Int)) = H0) (h' : H.set mid (mDc (n : Int) 4 (if flt est (zbe x) = true then (zbe x) else est) (if flt est (zbe x) = true then .sl none n (fl x) else V) (.sl none n (fl (sgL x))) (j : Int) (ct : Int)) ++ [fl (sgL x)] = H') (m : Nat) (hm9 : H.length = m), zaa Tryz.prog 102 [mP mid, X] H0 (.tup [.slm m n 0 n 1, .int .i64 2]) H') ∧
    (∀ (H : List (List AV)) (mid : Nat) (hb : mid < H.length) (n : Nat) (hn1 : 1 ≤ n) (hn : n ≤ 64) (est : Nat) (V S : AV) (hV : mx V = 0) (hS : mx S = 0) (j ct : Nat) (X : AV) (x : List Nat) (hX : ∀ c N, FL (H.set mid c ++ N) X x) (hx : x.length = n) (hN : NN X) (hj : j < n) (hc : (feq (zbm (x.getD j 0)) (zbm (x.getD (moN x n) 0)) = false ∧ ct < 5)) (H0 H' : List (List AV)) (h0 : H.set mid (mDc (n : Int) 4 est V S (j : Int) (ct : Int)) = H0) (h' : H.set mid (mDc (n : Int) 3 est V S (moN x n : Int) ((ct + 1 : Nat) : Int)) ++ [fl (rml (yU (moN x n)) n)] = H') (m : Nat) (hm9 : H.length = m), zaa Tryz.prog 102 [mP mid, X] H0 (.tup [.slm m n 0 n 1, .int .i64 1]) H') ∧
    (∀ (H : List (List AV)) (mid : Nat) (hb : mid < H.length) (n : Nat) (hn1 : 1 ≤ n) (hn : n ≤ 64) (est : Nat) (V S : AV) (hV : mx V = 0) (hS : mx S = 0) (j ct : Nat) (X : AV) (x : List Nat) (hX : ∀ c N, FL (H.set mid c ++ N) X x) (hx : x.length = n) (hN : NN X) (hj : j < n) (hc : ¬ (feq (zbm (x.getD j 0)) (zbm (x.getD (moN x n) 0)) = false ∧ ct < 5)) (H0 H' : List (List AV)) (h0 : H.set mid (mDc (n : Int) 4 est V S (j : Int) (ct : Int)) = H0) (h' : H.set mid (mDc (n : Int) 5 est V S (moN x n : Int) (ct : Int)) ++ [fl (rml (yL n) n)] = H') (m : Nat) (hm9 : H.length = m), zaa Tryz.prog 102 [mP mid, X] H0 (.tup [.slm m n 0 n 1, .int .i64 1]) H') ∧
    (∀ (H : List (List AV)) (mid : Nat) (hb : mid < H.length) (n : Nat) (hn1 : 1 ≤ n) (hn : n ≤ 64) (est : Nat) (V S : AV) (hV : mx V = 0) (hS : mx S = 0) (j ct : Nat) (X : AV) (x : List Nat) (hX : ∀ c N, FL (H.set mid c ++ N) X x) (hx : x.length = n) (hN : NN X) (H0 H' : List (List AV)) (h0 : H.set mid (mDc (n : Int) 5 est V S (j : Int) (ct : Int)) = H0) (h' : H.set mid (mDc (n : Int) 6 (if flt est (t5 n (zbe x)) = true then (t5 n (zbe x)) else est) (if flt est (t5 n (zbe x)) = true then .sl none n (fl x) else V) S (j : Int) (ct : Int)) = H'), zaa Tryz.prog 102 [mP mid, X] H0 (.tup [.slnil, .int .i64 0]) H') := by
  refine ⟨?_, ?_, ?_, ?_, ?_, ?_, ?_, ?_, ?_⟩
  (intro H mid hb n hn1 hn est V S hV hS j ct H0 H' h0 h' m hm9
   subst h0 h' hm9
   have hXl : slen AV.slnil = some 0 := rfl
   refine .go Tryz.call102 Tryz.func102 true [] dOk ?_
   simp only [za0, Nat.reduceAdd])
  rotate_left
  (intro H mid hb n hn1 hn est V S hV hS j ct X x hX hx hN hn2 H0 H' h0 h' m hm9
   subst h0 h' hm9
   have hXl : slen X = some n := by have h9 := (hX [] []).len; rw [hx] at h9; exact h9
   refine .go Tryz.call102 Tryz.func102 true [] dOk ?_
   simp only [za0, Nat.reduceAdd])
  rotate_left
  (intro H mid hb n hn1 hn est V S hV hS j ct X x hX hx hN hn2 H0 H' h0 h'
   subst h0 h'
   have hXl : slen X = some n := by have h9 := (hX [] []).len; rw [hx] at h9; exact h9
   refine .go Tryz.call102 Tryz.func102 true [] dOk ?_
   simp only [za0, Nat.reduceAdd])
  rotate_left
  (intro H mid hb n hn1 hn est V S hV hS j ct X x hX hx hN H0 H' h0 h' m hm9
   subst h0 h' hm9
   have hXl : slen X = some n := by have h9 := (hX [] []).len; rw [hx] at h9; exact h9
   refine .go Tryz.call102 Tryz.func102 true [] dOk ?_
   simp only [za0, Nat.reduceAdd])
  rotate_left
  (intro H mid hb n hn1 hn est V S hV hS j ct X x hX hx hN s hSs hs2 hsl hc H0 H' h0 h' m hm9
   subst h0 h' hm9
   have hXl : slen X = some n := by have h9 := (hX [] []).len; rw [hx] at h9; exact h9
   refine .go Tryz.call102 Tryz.func102 true [] dOk ?_
   simp only [za0, Nat.reduceAdd])
  rotate_left
  (intro H mid hb n hn1 hn est V S hV hS j ct X x hX hx hN s hSs hs2 hsl hc H0 H' h0 h' m hm9
   subst h0 h' hm9
   have hXl : slen X = some n := by have h9 := (hX [] []).len; rw [hx] at h9; exact h9
   refine .go Tryz.call102 Tryz.func102 true [] dOk ?_
   simp only [za0, Nat.reduceAdd])
  rotate_left
  (intro H mid hb n hn1 hn est V S hV hS j ct X x hX hx hN hj hc H0 H' h0 h' m hm9
   subst h0 h' hm9
   have hXl : slen X = some n := by have h9 := (hX [] []).len; rw [hx] at h9; exact h9
   have hmo : moN x n < n := by have h9 := zg4 x n (by omega); exact h9
   refine .go Tryz.call102 Tryz.func102 true [] dOk ?_
   simp only [za0, Nat.reduceAdd])
  rotate_left
  (intro H mid hb n hn1 hn est V S hV hS j ct X x hX hx hN hj hc H0 H' h0 h' m hm9
   subst h0 h' hm9
   have hXl : slen X = some n := by have h9 := (hX [] []).len; rw [hx] at h9; exact h9
   have hmo : moN x n < n := by have h9 := zg4 x n (by omega); exact h9
   refine .go Tryz.call102 Tryz.func102 true [] dOk ?_
   simp only [za0, Nat.reduceAdd])
  rotate_left
  (intro H mid hb n hn1 hn est V S hV hS j ct X x hX hx hN H0 H' h0 h'
   subst h0 h'
   have hXl : slen X = some n := by have h9 := (hX [] []).len; rw [hx] at h9; exact h9
   refine .go Tryz.call102 Tryz.func102 true [] dOk ?_
   simp only [za0, Nat.reduceAdd])
  rotate_left
  all_goals (repeat' (first
 |(refine zav ?_; (first | refine zbd ?_ | refine zao ?_ | refine m13 ?_ | refine m12 ?_ | refine m11 ?_ | (refine m10 ?_; (first | refine zcv ?_ | refine zcq ?_ | refine zcu ?_ | refine zcr ?_ | refine zct ?_ ?_ | refine zcs ?_ ?_ | refine zcp ?_ ?_ | refine zco ?_ ?_ | fail)) | (refine m09 ?_; (first | refine zcv ?_ | refine zcq ?_ | refine zcu ?_ | refine zcr ?_ | refine zct ?_ ?_ | refine zcs ?_ ?_ | refine zcp ?_ ?_ | refine zco ?_ ?_ | fail)) | refine m38 ?_ | fail))
 |(refine zaw ?_; (first | refine m14 ?_ | (refine m17 ?_; first | refine m19 ?_ | refine m18 ?_) | (refine m07 ?_; (first | refine m15 ?_ | refine m16 ?_ | refine zus (by simp) (by exact rfl) (by exact rfl) (by exact rfl) ?_ | refine zsp (n := H.length) (by simp) (by exact rfl) (by exact rfl) (by exact rfl) ?_ | refine zvw hb (by exact rfl) (by exact rfl) ?_ | refine zdy (hX _ _) (by omega) ?_ | fail)) | refine zc3 (by (conv => {lhs; whnf}); done) ?_ | refine zex (n := H.length) (by (conv => {lhs; whnf}); done) (by exact rfl) (by exact rfl) (by simp) (by (conv => {lhs; whnf}); done) (by (conv => {lhs; simp only [List.nil_append, List.cons_append]}); done) ?_ | refine zjn ?_ | refine zms (by (conv => {lhs; whnf}); done) (by (conv => {lhs; whnf}); done) (by exact rfl) hb (by exact rfl) (by decide) (by first | exact (by exact rfl) | simp only [mx, zak]) (by exact rfl) ?_ | refine zam (by (conv => {lhs; whnf}); done) (by exact hXl) ?_ | refine zbz (by (conv => {lhs; whnf}); done) (by (conv => {lhs; whnf}); done) (by exact hXl) (by omega) ?_ | (refine m45 ?_; (first | refine zb3 (by exact rfl) ?_ | refine v_k ?_ | fail)) | (refine m00 ?_; (first | refine m52 ?_ | refine m53 ?_ | refine zc7 ?_ | refine m54 ?_ | refine m55 ?_ | refine zbx ?_ | refine m47 ?_ | refine m48 ?_ | refine m49 ?_ | refine m50 ?_ | refine zh7 (by omega) (by omega) ?_ | refine v_k ?_ | refine m51 ?_ | fail)) | (refine m22 ?_; (first | refine m26 ?_ | refine m27 ?_ | fail)) | refine m42 ?_ | refine zab ?_ | refine zac ?_ | refine m08 ?_ | refine zaj ?_ | refine zam (by (conv => {lhs; whnf}); done) (by first | rfl | assumption) ?_ | refine m23 ?_ | refine m25 ?_ | refine m01 ?_ | (refine m46 ?_; (first | refine m52 ?_ | refine m53 ?_ | refine zc7 ?_ | refine m54 ?_ | refine m55 ?_ | refine zbx ?_ | refine m47 ?_ | refine m48 ?_ | refine m49 ?_ | refine m50 ?_ | refine zh7 (by omega) (by omega) ?_ | refine v_k ?_ | refine m51 ?_ | fail)) | refine zey (by (conv => {lhs; whnf}); done) (by exact rfl) ?_ | refine zdn (by (conv => {lhs; whnf}); done) ?_ | fail))
 |(refine zch ?_; (first | refine m36 ?_ | refine zcf ?_ | refine m32 ?_ | refine m31 ?_ | refine m30 ?_ | (refine m28 ?_; (first | refine ze6 ?_ | refine ze1 ?_ | refine ze5 ?_ | refine ze2 ?_ | refine ze4 ?_ ?_ | refine ze3 ?_ ?_ | refine ze0 ?_ ?_ | refine zez ?_ ?_ | fail)) | (refine m29 ?_; (first | refine ze6 ?_ | refine ze1 ?_ | refine ze5 ?_ | refine ze2 ?_ | refine ze4 ?_ ?_ | refine ze3 ?_ ?_ | refine ze0 ?_ ?_ | refine zez ?_ ?_ | fail)) | refine m37 ?_ | fail))
 |(refine zcg ?_; (first | refine zev ?_ | refine zfv ?_ | refine zfw (by (conv => {lhs; whnf}); done) ?_ | refine zfx ?_ | refine zfu (by exact rfl) (by exact rfl) ?_ | refine m34 ?_ | refine m35 ?_ | refine k_ld (by (conv => {lhs; whnf}); done) (by simp [z4l]) ?_ | refine m33 ?_ | refine zew ?_ | refine z92 hb (by intro id h9; first | (simp at h9; done) | (simp at h9; omega)) ?_ | refine m56 ?_ | refine zci ?_ | refine zc1 (by exact rfl) ?_ | fail))
 |refine zat ?_ | refine zau ?_ | refine zas ?_
 |(refine zax ?_; (first | refine zar ?_ | refine zad ?_ | (refine m06 ?_; (first | refine c_T ?_ | refine c_F ?_ | refine c_P ?_ ?_ | refine c_B ?_ ?_ | fail)) | refine zaq ?_ | refine zah ?_ | refine zae ?_ | refine b_exit ?_ | refine zy3 (id := 10) ⟨[], fun id => id == H.length, []⟩ [7, 10] [(0, .ld true), (1, .ld false), (2, .lt), (3, .lt), (4, .mn true), (5, .lt), (6, .lt), (7, .mn false), (8, .lt), (9, .lt), (10, .mn false)] (by kernel_rfl) ?_ | refine zan (id := 14) [] [9] [(0, .ld true), (1, .lt), (2, .mn true), (3, .mn true), (4, .lt), (5, .lt), (6, .lt), (7, .lt), (8, .lt), (9, .mn false)] (by kernel_rfl) ?_ | refine zan (id := 26) [] [9] [(0, .ld true), (1, .lt), (2, .mn true), (3, .mn true), (4, .lt), (5, .lt), (6, .lt), (7, .lt), (8, .lt), (9, .mn false)] (by kernel_rfl) ?_ | refine zan (id := 27) [] [] [(0, .lt), (1, .lt), (2, .lt), (3, .ld true), (5, .lt), (6, .ld true), (7, .lt), (8, .lt), (9, .ld true), (10, .lt), (11, .ld true), (4, .mn true), (12, .mn true), (13, .ld true), (14, .lt), (15, .ld true), (16, .lt), (17, .lt), (18, .ld true), (19, .lt), (20, .lt)] (by kernel_rfl) ?_ | refine zan (id := 32) [] [11] [(0, .ld true), (1, .lt), (2, .ld true), (3, .lt), (4, .lt), (5, .ld true), (6, .lt), (7, .lt), (8, .lt), (9, .lt), (10, .lt), (11, .mn false)] (by kernel_rfl) ?_ | fail))
 |refine m43 ?_
 |refine zbv ?_
 |refine m21 ?_
 |refine za4 ?_
 |(refine za5 ?_; (first | refine cA (zlg _ .slnil [] (FL.nil _) (by simp)) ?_ | refine c_call (zu0 (H ++ [[mP mid]]) mid (by simp; omega) n hn _ _ _ _ (by first | assumption | simp only [mx, zak]) (by first | assumption | simp only [mx, zak]) _ _ 1 1 147 _ (yB n) (fun N i hi => qcy _ mid _ (zv0 hb _) (by exact rfl) _ (zu8 hb) _ (by exact rfl) _) _ _ (zbf hb _) (zeo hb _ _) _ (by simp; rfl)) (zbk.mdl (by simp) (zfk (by first | assumption | simp only [mx, zak]) (by first | assumption | simp only [mx, zak]))) ?_ | refine cA (zlg _ X x (hX _ _) (by omega)) ?_ | refine cA (zn2 _ X x (hX _ _) n hx hn hN) ?_ | refine c_call (zt3 (H ++ [[mP mid]]) mid (by simp; omega) n hn1 hn _ _ _ _ (by first | assumption | simp only [mx, zak] | (split <;> first | assumption | simp only [mx, zak])) (by first | assumption | simp only [mx, zak] | (split <;> first | assumption | simp only [mx, zak])) _ _ 2 X x (fun c N => by rw [zbf hb, List.append_assoc]; exact hX _ _) hx hN _ _ (zbf hb _) (zeo hb _ _) _ (by simp; rfl)) (zbk.mdl (by simp) (zfk (by first | assumption | simp only [mx, zak] | (split <;> first | assumption | simp only [mx, zak])) (by first | assumption | simp only [mx, zak] | (split <;> first | assumption | simp only [mx, zak])))) ?_ | refine c_call (zu4 (H ++ [[mP mid]]) mid (by simp; omega) n hn1 hn _ _ _ _ (by first | assumption | simp only [mx, zak] | (split <;> first | assumption | simp only [mx, zak])) (by first | assumption | simp only [mx, zak] | (split <;> first | assumption | simp only [mx, zak])) _ _ X x (fun c N => by rw [zbf hb, List.append_assoc]; exact hX _ _) hx hN _ _ _ (zbf hb _) (zbf hb _)) (zbk.mdl (by simp) (zfk (by first | assumption | simp only [mx, zak] | (split <;> first | assumption | simp only [mx, zak])) (by first | assumption | simp only [mx, zak] | (split <;> first | assumption | simp only [mx, zak])))) ?_ | refine cA (zx4 _ X x (hX _ _) n hx) ?_ | refine cA (z4z _ X x (hX _ _) n hx hn1 hn) ?_ | refine cA (zhy _ _) ?_ | refine c_call (z7d (H ++ [[mP mid]]) mid (by simp; omega) n hn1 hn _ _ _ _ (by first | assumption | simp only [mx, zak] | (split <;> first | assumption | simp only [mx, zak])) (by first | assumption | simp only [mx, zak] | (split <;> first | assumption | simp only [mx, zak])) _ _  _ _ (zbf hb _) (zeo hb _ _) _ (by simp; rfl)) (zbk.mdl (by simp) (zfk (by first | assumption | simp only [mx, zak] | (split <;> first | assumption | simp only [mx, zak])) (by first | assumption | simp only [mx, zak] | (split <;> first | assumption | simp only [mx, zak])))) ?_ | refine cA (zyj _ X x (hX _ _) n hx hn1 hn) ?_ | refine cA (z9c _ _ _ (sgL x) s (FLz _ _ _ (by simp [hx])) (hSs _) (by simp; omega) hsl znn hs2) ?_ | refine c_call (zzt (H ++ [[mP mid]]) mid (by simp; omega) n hn1 hn _ _ _ _ (by first | assumption | simp only [mx, zak] | (split <;> first | assumption | simp only [mx, zak])) (by first | assumption | simp only [mx, zak] | (split <;> first | assumption | simp only [mx, zak])) _ _  _ _ (zbf hb _) (zeo hb _ _) _ (by simp; rfl)) (zbk.mdl (by simp) (zfk (by first | assumption | simp only [mx, zak] | (split <;> first | assumption | simp only [mx, zak])) (by first | assumption | simp only [mx, zak] | (split <;> first | assumption | simp only [mx, zak])))) ?_ | refine c_call (zt3 (H ++ [[mP mid]]) mid (by simp; omega) n hn1 hn _ _ _ _ (by first | assumption | simp only [mx, zak] | (split <;> first | assumption | simp only [mx, zak])) (by first | assumption | simp only [mx, zak] | (split <;> first | assumption | simp only [mx, zak])) _ _ 4 X x (fun c N => by rw [zbf hb, List.append_assoc]; exact hX _ _) hx hN _ _ (zbf hb _) (zeo hb _ _) _ (by simp; rfl)) (zbk.mdl (by simp) (zfk (by first | assumption | simp only [mx, zak] | (split <;> first | assumption | simp only [mx, zak])) (by first | assumption | simp only [mx, zak] | (split <;> first | assumption | simp only [mx, zak])))) ?_ | fail))
 |refine m44 ?_
 |refine m40 ?_
 |(refine zbc (by (conv => {lhs; simp only [List.nil_append, List.cons_append]}); done) ?_; first | refine ⟨by exact rfl, ?_⟩ | skip)
 |refine zbt ?_
 |(intro N' hN'; simp only [List.nil_append, List.cons_append] at hN'; subst hN')
 |refine zbh ?_ | refine zbi ?_ | refine zbg ?_ | refine m57 ?_
 |refine m05 ?_
 |refine m04 ?_ | refine m02 ?_ | refine m03 ?_ | refine zai ?_
 |intro _))
  all_goals first
    | (exfalso; exact hc ⟨by simpa using ‹(!feq (zbm (x.getD j 0)) (zbm (x.getD (moN x n) 0))) = true›, by omega⟩)
    | (exfalso; contradiction)
    | (exfalso; omega)
    | (exfalso; simp_all; done)
    | (exfalso; simp_all; omega)
    | (refine zgc (j := 1) (cs := fl (rml (yB n) n)) (by simp) (by exact rfl) (by rw [zak]; exact Nat.zero_le _) ?_; simp only [List.length_set]; exact Fr.tup (Frs.cons (Fr.kp (j := 0) (cs := fl (rml (yB n) n)) rfl (za9 (by simp) rfl) (by first | (simp [*]; done) | fail)) (Frs.cons (Fr.old (by first | (simp [mx]; done) | fail)) Frs.nil)))
    | (refine zgc (j := 1) (cs := fl (sgL x)) (by simp) (by exact rfl) (by rw [zak]; exact Nat.zero_le _) ?_; simp only [List.length_set]; exact Fr.tup (Frs.cons (Fr.kp (j := 0) (cs := fl (sgL x)) rfl (za9 (by simp) rfl) (by first | (simp [*]; done) | fail)) (Frs.cons (Fr.old (by first | (simp [mx]; done) | fail)) Frs.nil)))
    | (refine zal (by simp) (by first | (simp [mx, mxL, zaf]; done) | fail) ?_; exact rfl)
    | (refine zgc (j := 1) (cs := fl (rml (yU (moN x n)) n)) (by simp) (by exact rfl) (by rw [zak]; exact Nat.zero_le _) ?_; simp only [List.length_set]; exact Fr.tup (Frs.cons (Fr.kp (j := 0) (cs := fl (rml (yU (moN x n)) n)) rfl (za9 (by simp) rfl) (by first | (simp [*]; done) | fail)) (Frs.cons (Fr.old (by first | (simp [mx]; done) | fail)) Frs.nil)))
    | (refine zgc (j := 1) (cs := fl (rml (yL n) n)) (by simp) (by exact rfl) (by rw [zak]; exact Nat.zero_le _) ?_; simp only [List.length_set]; exact Fr.tup (Frs.cons (Fr.kp (j := 0) (cs := fl (rml (yL n) n)) rfl (za9 (by simp) rfl) (by first | (simp [*]; done) | fail)) (Frs.cons (Fr.old (by first | (simp [mx]; done) | fail)) Frs.nil)))
theorem qc9 : type_of% @zdk.1 := @zdk.1
theorem z98 : type_of% @zdk.2.1 := @zdk.2.1
theorem z97 : type_of% @zdk.2.2.1 := @zdk.2.2.1
theorem qda : type_of% @zdk.2.2.2.1 := @zdk.2.2.2.1
theorem z99 : type_of% @zdk.2.2.2.2.1 := @zdk.2.2.2.2.1
theorem qaa : type_of% @zdk.2.2.2.2.2.1 := @zdk.2.2.2.2.2.1
theorem qac : type_of% @zdk.2.2.2.2.2.2.1 := @zdk.2.2.2.2.2.2.1
theorem qab : type_of% @zdk.2.2.2.2.2.2.2.1 := @zdk.2.2.2.2.2.2.2.1
theorem qdb : type_of% @zdk.2.2.2.2.2.2.2.2 := @zdk.2.2.2.2.2.2.2.2
end Go.Sx
set_option linter.unusedVariables false
set_option linter.unusedSimpArgs false
set_option maxRecDepth 20000
namespace Go.Sx
open Go.Proofs
theorem zs3 (M : MS) (t : Nat) (x : List Nat) (hx : x.length = M.n) (h1 : 0 < x.length) (st : Nat) (s : List Nat) : mCe { bet M t x with st := st, s := s } = mDc (M.n : Int) (st : Int) (if flt M.est t = true then t else M.est) (if flt M.est t = true then .sl none M.n (fl x) else LV M.v) (LV s) (M.j : Int) (M.ct : Int) := by
  have hLx : LV x = .sl none M.n (fl x) := by rw [zpj h1, hx]
  unfold bet
  split
  · rename_i h; simp only [zm5, hLx, h, if_true]
  · rename_i h; simp [zm5, h]
theorem zkz (M : MS) (t : Nat) (x : List Nat) (hx : x.length = M.n) (h1 : 0 < x.length) (st : Nat) : mCe { bet M t x with st := st } = mDc (M.n : Int) (st : Int) (if flt M.est t = true then t else M.est) (if flt M.est t = true then .sl none M.n (fl x) else LV M.v) (LV M.s) (M.j : Int) (M.ct : Int) := by
  have h := zs3 M t x hx h1 st M.s
  have e : (bet M t x).s = M.s := (zza M t x).2.2.2.1
  have : ({ bet M t x with st := st } : MS) = { bet M t x with st := st, s := M.s } := by rw [← e]
  rw [this]; exact h
theorem z5c (H : List (List AV)) (mid : Nat) (hb : mid < H.length) (M : MS) (h1 : 1 ≤ M.n) (h64 : M.n ≤ 64) (hst : M.st = 0) (H0 H' : List (List AV)) (h0 : H.set mid (mCe M) = H0) (h' : H.set mid (mCe (nxt M []).1) ++ [fl (nxt M []).2.1] = H') (m : Nat) (hm : H.length = m) :
    zaa Tryz.prog 102 [mP mid, .slnil] H0 (.tup [.slm m M.n 0 M.n 1, .int .i64 (nxt M []).2.2]) H' := by
  obtain ⟨n, st, est, v, s, j, ct⟩ := M
  simp only at hst h1 h64; subst hst
  exact qc9 H mid hb n h1 h64 est (LV v) (LV s) (zcc _) (zcc _) j ct H0 H' h0 h' m hm
theorem z5d (H : List (List AV)) (mid : Nat) (hb : mid < H.length) (M : MS) (hok : MOk M) (hst : 1 ≤ M.st) (h5 : M.st ≤ 5) (hsl : M.s.length ≤ 2 ^ 30) (X : AV) (x : List Nat) (hX : ∀ c N, FL (H.set mid c ++ N) X x) (hx : x.length = M.n) (hN : NN X) (H0 : List (List AV)) (h0 : H.set mid (mCe M) = H0) :
    (∀ H' m, (nxt M x).2.2 ≠ 0 → H.set mid (mCe (nxt M x).1) ++ [fl (nxt M x).2.1] = H' → H.length = m → zaa Tryz.prog 102 [mP mid, X] H0 (.tup [.slm m M.n 0 M.n 1, .int .i64 (nxt M x).2.2]) H') ∧
    (∀ H', (nxt M x).2.2 = 0 → H.set mid (mCe (nxt M x).1) = H' → zaa Tryz.prog 102 [mP mid, X] H0 (.tup [.slnil, .int .i64 0]) H') := by
  obtain ⟨n, st, est, v, s, j, ct⟩ := M
  obtain ⟨a1, a2, a3, a4, a5, a6, a7⟩ := hok
  simp only at hst h5 hx a1 a2 a3 a4 a5 a6 a7 hsl
  have hx0 : 0 < x.length := by omega
  have hLx : LV x = .sl none n (fl x) := by rw [zpj hx0, hx]
  have hLs : LV (sgL x) = .sl none n (fl (sgL x)) := by rw [zpj (by simpa using hx0), znm, hx]
  have hS := fun H => z2p H s
  rcases (by omega : st = 1 ∨ st = 2 ∨ st = 3 ∨ st = 4 ∨ st = 5) with e | e | e | e | e <;> subst e
  · by_cases hn2 : 1 < n
    · have e : nxt ⟨n, 1, est, v, s, j, ct⟩ x = (⟨n, 2, zbe x, x, sgL x, j, ct⟩, sgL x, 2) := by simp [nxt, hn2]
      rw [e]
      refine ⟨fun H' m _ h' hm => ?_, fun H' h => absurd h (by simp)⟩
      rw [zm5] at h'; simp only [hLx, hLs] at h'
      exact z98 H mid hb n a1 a2 est (LV v) (LV s) (zcc _) (zcc _) j ct X x hX hx hN hn2 H0 H' h0 h' m hm
    · have e : nxt ⟨n, 1, est, v, s, j, ct⟩ x = (⟨n, 6, zbe x, x, s, j, ct⟩, [], 0) := by simp [nxt, hn2]
      rw [e]
      refine ⟨fun H' m h => absurd rfl h, fun H' _ h' => ?_⟩
      rw [zm5] at h'; simp only [hLx] at h'
      exact z97 H mid hb n a1 a2 est (LV v) (LV s) (zcc _) (zcc _) j ct X x hX hx hN (by omega) H0 H' h0 h'
  · have e : nxt ⟨n, 2, est, v, s, j, ct⟩ x = (⟨n, 3, est, v, s, moN x n, 2⟩, rml (yU (moN x n)) n, 1) := by simp [nxt, hx]
    rw [e]
    exact ⟨fun H' m _ h' hm => qda H mid hb n a1 a2 est (LV v) (LV s) (zcc _) (zcc _) j ct X x hX hx hN H0 H' h0 h' m hm, fun H' h => absurd h (by simp)⟩
  · by_cases hc : sgL x = s ∨ (flt (zbe x) est || feq (zbe x) est) = true
    · have e : nxt ⟨n, 3, est, v, s, j, ct⟩ x = ({ bet ⟨n, 3, est, v, s, j, ct⟩ (zbe x) x with st := 5 }, rml (yL n) n, 1) := by simp only [nxt]; rw [if_pos hc]
      rw [e]
      refine ⟨fun H' m _ h' hm => ?_, fun H' h => absurd h (by simp)⟩
      rw [zkz _ _ _ hx hx0] at h'
      exact z99 H mid hb n a1 a2 est (LV v) (LV s) (zcc _) (zcc _) j ct X x hX hx hN s hS a5 hsl hc H0 H' h0 h' m hm
    · have e : nxt ⟨n, 3, est, v, s, j, ct⟩ x = ({ bet ⟨n, 3, est, v, s, j, ct⟩ (zbe x) x with s := sgL x, st := 4 }, sgL x, 2) := by simp only [nxt]; rw [if_neg hc]
      rw [e]
      refine ⟨fun H' m _ h' hm => ?_, fun H' h => absurd h (by simp)⟩
      rw [zs3 _ _ _ hx hx0, hLs] at h'
      exact qaa H mid hb n a1 a2 est (LV v) (LV s) (zcc _) (zcc _) j ct X x hX hx hN s hS a5 hsl hc H0 H' h0 h' m hm
  · by_cases hc : feq (zbm (x.getD j 0)) (zbm (x.getD (moN x n) 0)) = false ∧ ct < 5
    · have e : nxt ⟨n, 4, est, v, s, j, ct⟩ x = (⟨n, 3, est, v, s, moN x n, ct + 1⟩, rml (yU (moN x n)) n, 1) := by simp only [nxt, hx]; rw [if_pos hc]
      rw [e]
      exact ⟨fun H' m _ h' hm => qac H mid hb n a1 a2 est (LV v) (LV s) (zcc _) (zcc _) j ct X x hX hx hN a3 hc H0 H' h0 h' m hm, fun H' h => absurd h (by simp)⟩
    · have e : nxt ⟨n, 4, est, v, s, j, ct⟩ x = (⟨n, 5, est, v, s, moN x n, ct⟩, rml (yL n) n, 1) := by simp only [nxt, hx]; rw [if_neg hc]
      rw [e]
      exact ⟨fun H' m _ h' hm => qab H mid hb n a1 a2 est (LV v) (LV s) (zcc _) (zcc _) j ct X x hX hx hN a3 hc H0 H' h0 h' m hm, fun H' h => absurd h (by simp)⟩
  · have e : nxt ⟨n, 5, est, v, s, j, ct⟩ x = ({ bet ⟨n, 5, est, v, s, j, ct⟩ (t5 n (zbe x)) x with st := 6 }, [], 0) := by simp only [nxt]
    rw [e]
    refine ⟨fun H' m h => absurd rfl h, fun H' _ h' => ?_⟩
    rw [zkz _ _ _ hx hx0] at h'
    exact qdb H mid hb n a1 a2 est (LV v) (LV s) (zcc _) (zcc _) j ct X x hX hx hN H0 H' h0 h'
attribute [local irreducible] Ex za3 exD opX opE zca zd3 zd4 Spec zaa Fr zb9 zbb zba ckK zb8 zb6 zbu faK zb4 zd1 gK fK rK zeq lpX prK
end Go.Sx
set_option linter.unusedVariables false
set_option linter.unusedSimpArgs false
set_option maxRecDepth 20000
namespace Go.Sx
open Go.Proofs
theorem zxi (H : List (List AV)) (X : AV) (x : List Nat) (hX : FL H X x) (n : Nat) (hx : x.length = n) (hn : n ≤ 64) : zaa Tryz.prog 112 [X] H (.sl none n (fl x)) H := by
  subst hx
  exact (z3p H _ X x hX (by omega) _ rfl rfl).frz (fun args w => Tryz.call112 args w) (by have h := zvn (n := H.length) (k := 0) (z := x.length) (A := H) (N := [fl x]) (l := x) rfl rfl rfl; rwa [Nat.add_zero] at h)
theorem z7m {n j : Nat} (hj : j < n) : (List.replicate n 0).set j 4607182418800017408 = rml (yU j) n := by
  apply List.ext_getElem
  · simp
  · intro i h1 h2
    rw [List.getElem_set]
    simp only [rml, List.getElem_map, List.getElem_range, List.getElem_replicate]
    unfold yU
    by_cases h : j = i
    · subst h; simp
    · rw [if_neg h, if_neg (by omega)]
theorem z6o {x : List Nat} {k : Nat} (hk : k < x.length) (v : Nat) (hv : sgF (x.getD k 0) = v) : fl (sgL (x.take k)) ++ [.flt v] = fl (sgL (x.take (k + 1))) := by
  subst hv
  unfold sgL
  rw [List.take_add_one, List.map_append]
  simp [List.getD_eq_getElem?_getD, List.getElem?_eq_getElem hk, fl]
theorem z2c {g : Nat → Nat} {k v : Nat} (hv : g k = v) : fl (rml g k) ++ [.flt v] = fl (rml g (k + 1)) := by
  subst hv; exact zg7 g k
attribute [local irreducible] Ex za3 exD opX opE zca zd3 zd4 Spec zaa Fr zb9 zbb zba ckK zb8 zb6 zbu faK zb4 zd1 gK fK rK zeq lpX prK
theorem z05 (H : List (List AV)) (X : AV) (x : List Nat) (hX : FL H X x) (h64 : x.length ≤ 64) :
    zaa Tryz.prog 113 [X] H (.sl none x.length (fl (sgL x))) H := by
  refine .go Tryz.call113 Tryz.func113 false [17, 20] dOk ?_
  simp only [za0, Nat.reduceAdd]
  repeat' (first
 |(refine zav ?_; (first | refine zbd ?_ | refine zao ?_ | fail))
 |(refine zaw ?_; (first | refine m14 ?_ | (refine m07 ?_; (first | refine m15 ?_ | refine m16 ?_ | refine zdy (FL.app hX _) (by omega) ?_ | fail)) | refine zam (by (conv => {lhs; whnf}); done) (by exact hX.len) ?_ | refine zbz (by (conv => {lhs; whnf}); done) (by (conv => {lhs; whnf}); done) (by exact hX.len) (by omega) ?_ | refine zee (i := 0) (N₀ := []) (by (conv => {lhs; whnf}); done) (by (conv => {lhs; whnf}); done) (by exact rfl) (by exact rfl) (by simp; omega) (by omega) (by exact rfl) (by exact rfl) (l' := fl (sgL (x.take (k + 1)))) (by exact z6o (by omega) _ (if_pos ‹(flt (cn 0) (x.getD k 0) || feq (x.getD k 0) (cn 0)) = true›)) ?_ | refine zee (i := 0) (N₀ := []) (by (conv => {lhs; whnf}); done) (by (conv => {lhs; whnf}); done) (by exact rfl) (by exact rfl) (by simp; omega) (by omega) (by exact rfl) (by exact rfl) (l' := fl (sgL (x.take (k + 1)))) (by exact z6o (by omega) _ (if_neg (by rw [‹(flt (cn 0) (x.getD k 0) || feq (x.getD k 0) (cn 0)) = false›]; exact Bool.false_ne_true))) ?_ | (refine m00 ?_; (first | refine zbo ((k + 1 : Nat) : Int) (by omega) (by omega) ?_ | refine m47 ?_ | refine m48 ?_ | refine m49 ?_ | refine m50 ?_ | refine v_k ?_ | refine m51 ?_ | fail)) | refine m42 ?_ | refine zab ?_ | refine zac ?_ | refine m08 ?_ | refine zam (by (conv => {lhs; whnf}); done) (by first | rfl | assumption) ?_ | refine zc2 (by exact rfl) (by exact rfl) (by decide) ?_ | fail))
 |refine zat ?_ | refine zau ?_ | refine zas ?_
 |(refine zax ?_; (first | refine zar ?_ | refine zad ?_ | (refine m06 ?_; (first | refine c_T ?_ | refine c_F ?_ | refine c_P ?_ ?_ | refine c_B ?_ ?_ | fail)) | refine zaq ?_ | refine zah ?_ | refine zae ?_ | refine b_exit ?_ | (refine za1 [0, 3, 4] x.length (fun k => ⟨[(0, .val X), (3, .val (gV H.length 0 k)), (4, .val (.int .i64 ((k : Nat) : Int)))], [], H ++ ([] ++ gN (fl (sgL (x.take k))))⟩) (by exact rfl) ?_ ?_ <;> (first | intro k hk K hK | intro K) <;> (try dsimp only at *)) | fail))
 |refine m44 ?_
 |refine m40 ?_
 |(refine zbc (by (conv => {lhs; simp only [List.nil_append, List.cons_append]}); done) ?_; first | refine ⟨by exact rfl, ?_⟩ | skip)
 |refine zbt ?_
 |(intro N' hN'; simp only [List.nil_append, List.cons_append] at hN'; subst hN')
 |refine zbh ?_ | refine zbi ?_ | refine zbg ?_ | refine m57 ?_
 |refine zdp ?_ | refine zdq ?_ | refine zdo ?_
 |(refine zdr (by exact rfl) ?_; first | exact hK | fail | (exfalso; first | omega | (simp_all; done) | (simp_all; omega)))
 |refine m05 ?_
 |refine m04 ?_ | refine m02 ?_ | refine m03 ?_ | refine zai ?_
 |intro _)
  all_goals first
    | (exfalso; omega)
    | (rw [List.take_length]; refine zb5 rfl ?_; exact zi0 (i := 0) (N₀ := []) (A := H) (k := x.length) (l := fl (sgL x)) rfl rfl (by simp) (by rw [zak]; exact Nat.zero_le _))
theorem z1b (H : List (List AV)) (mid : Nat) (hb : mid < H.length) (n : Nat) (hn1 : 1 ≤ n) (hn : n ≤ 64) (st : Int) (est : Nat) (V S : AV) (hV : mx V = 0) (hS : mx S = 0) (j ct : Nat) (hj : j < n) (H0 H' : List (List AV)) (h0 : H.set mid (mDc (n : Int) st est V S (j : Int) (ct : Int)) = H0) (h' : H.set mid (mDc (n : Int) 3 est V S (j : Int) (ct : Int)) = H') :
    zaa Tryz.prog 115 [mP mid] H0 (.tup [.sl none n (fl (rml (yU j) n)), .int .i64 1]) H' := by
  subst h0 h'
  refine .go Tryz.call115 Tryz.func115 false [] dOk ?_
  simp only [za0, Nat.reduceAdd]
  repeat' (first
 |(refine zav ?_; (first | refine zbd ?_ | refine zao ?_ | fail))
 |(refine zaw ?_; (first | refine m14 ?_ | (refine m17 ?_; first | refine m19 ?_ | refine m18 ?_) | (refine m07 ?_; (first | refine m15 ?_ | refine m16 ?_ | refine zvw hb (by exact rfl) (by exact rfl) ?_ | fail)) | refine zc3 (by (conv => {lhs; whnf}); done) ?_ | refine zms (by (conv => {lhs; whnf}); done) (by (conv => {lhs; whnf}); done) (by exact rfl) hb (by exact rfl) (by decide) (by first | exact (by exact rfl) | simp only [mx, zak]) (by exact rfl) ?_ | refine zy7 (n₀ := H.length) (by (conv => {lhs; whnf}); done) (by (conv => {lhs; whnf}); done) (by simp) (by (conv => {lhs; whnf}); done) (by (conv => {lhs; simp only [List.nil_append, List.cons_append]}); done) (by exact rfl) (by omega) ?_ | refine zbz (by (conv => {lhs; whnf}); done) (by (conv => {lhs; whnf}); done) (by exact rfl) hj ?_ | refine zh4 (m := List.replicate n 0) (m' := rml (yU j) n) (by (conv => {lhs; whnf}); done) (by exact rfl) (by simp) (by exact rfl) (by simp) (by simp; omega) (by rw [Nat.zero_add, zur]; exact z7m hj) (by exact rfl) ?_ | refine m42 ?_ | refine zab ?_ | refine zac ?_ | refine m08 ?_ | refine m25 ?_ | fail))
 |refine zat ?_ | refine zau ?_ | refine zas ?_
 |(refine zax ?_; (first | refine zar ?_ | refine zad ?_ | (refine m06 ?_; (first | refine c_T ?_ | refine c_F ?_ | refine c_P ?_ ?_ | refine c_B ?_ ?_ | fail)) | refine zaq ?_ | refine zah ?_ | refine zae ?_ | refine b_exit ?_ | fail))
 |refine m05 ?_
 |refine m04 ?_ | refine m02 ?_ | refine m03 ?_ | refine zai ?_
 |intro _)
  all_goals first
    | (refine zb5 (by simp) ?_; simp only [List.length_set]; exact Fr.tup (Frs.cons (zvn (k := 0) (by simp) rfl (by simp)) (Frs.cons (Fr.old (by simp [mx])) Frs.nil)))
theorem zwc (H : List (List AV)) (mid : Nat) (hb : mid < H.length) (n : Nat) (hn1 : 1 ≤ n) (hn : n ≤ 64) (st : Int) (est : Nat) (V S : AV) (hV : mx V = 0) (hS : mx S = 0) (j ct : Nat) (H0 H' : List (List AV)) (h0 : H.set mid (mDc (n : Int) st est V S (j : Int) (ct : Int)) = H0) (h' : H.set mid (mDc (n : Int) 5 est V S (j : Int) (ct : Int)) = H') :
    zaa Tryz.prog 116 [mP mid] H0 (.tup [.sl none n (fl (rml (yL n) n)), .int .i64 1]) H' := by
  subst h0 h'
  refine .go Tryz.call116 Tryz.func116 false [32] dOk ?_
  simp only [za0, Nat.reduceAdd]
  repeat' (first
 |(refine zav ?_; (first | refine zbd ?_ | refine zao ?_ | fail))
 |(refine zaw ?_; (first | refine m14 ?_ | (refine m17 ?_; first | refine m19 ?_ | refine m18 ?_) | (refine m07 ?_; (first | refine m15 ?_ | refine m16 ?_ | refine zvw hb (by exact rfl) (by exact rfl) ?_ | fail)) | refine zc3 (by (conv => {lhs; whnf}); done) ?_ | refine zms (by (conv => {lhs; whnf}); done) (by (conv => {lhs; whnf}); done) (by exact rfl) hb (by exact rfl) (by decide) (by first | exact (by exact rfl) | simp only [mx, zak]) (by exact rfl) ?_ | refine zee (n := H.length) (i := 0) (N₀ := []) (by (conv => {lhs; whnf}); done) (by (conv => {lhs; whnf}); done) (by simp) (by exact rfl) (by simp) (by omega) (by simp) (by exact rfl) (l' := fl (rml (yL n) (k + 1))) (by first | exact z2c (by unfold yL; rw [if_pos (by omega)]; rfl) | exact z2c (by unfold yL; rw [if_neg (by omega)]; rfl)) ?_ | (refine m45 ?_; (first | refine zbo ((k + 1 : Nat) : Int) (by omega) (by omega) ?_ | refine zb3 (by exact rfl) ?_ | refine v_k ?_ | fail)) | (refine m00 ?_; (first | refine zbo ((k + 1 : Nat) : Int) (by omega) (by omega) ?_ | refine m52 ?_ | refine m53 ?_ | refine zc7 ?_ | refine m47 ?_ | refine m48 ?_ | refine m49 ?_ | refine m50 ?_ | refine zgq (by omega) (by omega) ?_ | refine v_k ?_ | refine m51 ?_ | fail)) | refine m42 ?_ | refine zab ?_ | refine zac ?_ | refine m08 ?_ | (refine m20 ?_; (first | refine zbo ((k + 1 : Nat) : Int) (by omega) (by omega) ?_ | refine m52 ?_ | refine m53 ?_ | refine zc7 ?_ | refine m47 ?_ | refine m48 ?_ | refine m49 ?_ | refine m50 ?_ | refine zgq (by omega) (by omega) ?_ | refine v_k ?_ | refine m51 ?_ | fail)) | refine zaj ?_ | refine m25 ?_ | (refine m46 ?_; (first | refine zbo ((k + 1 : Nat) : Int) (by omega) (by omega) ?_ | refine m52 ?_ | refine m53 ?_ | refine zc7 ?_ | refine m47 ?_ | refine m48 ?_ | refine m49 ?_ | refine m50 ?_ | refine zgq (by omega) (by omega) ?_ | refine v_k ?_ | refine m51 ?_ | fail)) | refine zey (by (conv => {lhs; whnf}); done) (by exact rfl) ?_ | refine zdn (by (conv => {lhs; whnf}); done) ?_ | refine zc2 (by exact rfl) (by exact rfl) (by decide) ?_ | fail))
 |refine zat ?_ | refine zau ?_ | refine zas ?_
 |(refine zax ?_; (first | refine zar ?_ | refine zad ?_ | (refine m06 ?_; (first | refine c_T ?_ | refine c_F ?_ | refine c_P ?_ ?_ | refine c_B ?_ ?_ | fail)) | refine zaq ?_ | refine zah ?_ | refine zae ?_ | refine b_exit ?_ | (refine za1 [0, 4, 5] n (fun k => ⟨[(0, .val (mP mid)), (4, .val (gV H.length 0 k)), (5, .val (.int .i64 ((k : Nat) : Int)))], [], H.set mid (mDc (n : Int) st est V S (j : Int) (ct : Int)) ++ ([] ++ gN (fl (rml (yL n) k)))⟩) (by exact rfl) ?_ ?_ <;> (first | intro k hk K hK | intro K) <;> (try dsimp only at *)) | fail))
 |refine m43 ?_
 |refine zbv ?_
 |refine m21 ?_
 |refine za4 ?_
 |(refine za5 ?_; (first | refine cA (zea _ _ _) ?_ | refine cA (zox _ _ _) ?_ | fail))
 |refine m44 ?_
 |refine m40 ?_
 |(refine zbc (by (conv => {lhs; simp only [List.nil_append, List.cons_append]}); done) ?_; first | refine ⟨by exact rfl, ?_⟩ | skip)
 |refine zbt ?_
 |(intro N' hN'; simp only [List.nil_append, List.cons_append] at hN'; subst hN')
 |refine zbh ?_ | refine zbi ?_ | refine zbg ?_ | refine m57 ?_
 |refine zdp ?_ | refine zdq ?_ | refine zdo ?_
 |(refine zdr (by exact rfl) ?_; first | exact hK | fail | (exfalso; first | omega | (simp_all; done) | (simp_all; omega)))
 |refine m05 ?_
 |refine m04 ?_ | refine m02 ?_ | refine m03 ?_ | refine zai ?_
 |intro _)
  all_goals first
    | (exfalso; omega)
    | (refine zb5 (by simp) ?_; simp only [List.length_set]; exact Fr.tup (Frs.cons (zi0 (i := 0) (N₀ := []) (by simp) rfl (by simp) (by rw [zak]; exact Nat.zero_le _)) (Frs.cons (Fr.old (by simp [mx])) Frs.nil)))
end Go.Sx
set_option linter.unusedVariables false
set_option linter.unusedSimpArgs false
set_option maxRecDepth 20000
namespace Go.Sx
open Go.Proofs
theorem z02 (H : List (List AV)) (X : AV) (x : List Nat) (hX : FL H X x) (n : Nat) (hx : x.length = n) (h1 : 1 ≤ n) (h64 : n ≤ 64) : zaa Tryz.prog 114 [X] H (.int .i64 (moN x n : Int)) H := by subst hx; exact z5y H X x hX (by omega) (by omega)
theorem z06 (H : List (List AV)) (X : AV) (x : List Nat) (hX : FL H X x) (n : Nat) (hx : x.length = n) (h64 : n ≤ 64) : zaa Tryz.prog 113 [X] H (.sl none n (fl (sgL x))) H := by subst hx; exact z05 H X x hX h64
attribute [local irreducible] Ex za3 exD opX opE zca zd3 zd4 Spec zaa Fr zb9 zbb zba ckK zb8 zb6 zbu faK zb4 zd1 gK fK rK zeq lpX prK
theorem zc0 :
    (∀ (H : List (List AV)) (mid : Nat) (hb : mid < H.length) (n : Nat) (hn1 : 1 ≤ n) (hn : n ≤ 64) (est : Nat) (V S : AV) (hV : mx V = 0) (hS : mx S = 0) (j ct : Nat) (H0 H' : List (List AV)) (h0 : H.set mid (mDc (n : Int) 0 est V S (j : Int) (ct : Int)) = H0) (h' : H.set mid (mDc (n : Int) 1 est V S (j : Int) (ct : Int)) = H'), zaa Tryz.prog 57 [mP mid, .slnil] H0 (.tup [.sl none n (fl (rml (yB n) n)), .int .i64 1]) H') ∧
    (∀ (H : List (List AV)) (mid : Nat) (hb : mid < H.length) (n : Nat) (hn1 : 1 ≤ n) (hn : n ≤ 64) (est : Nat) (V S : AV) (hV : mx V = 0) (hS : mx S = 0) (j ct : Nat) (X : AV) (x : List Nat) (hX : ∀ H', FL H' X x) (hx : x.length = n) (hn2 : 1 < n) (H0 H' : List (List AV)) (h0 : H.set mid (mDc (n : Int) 1 est V S (j : Int) (ct : Int)) = H0) (h' : H.set mid (mDc (n : Int) 2 (zbe x) (.sl none n (fl x)) (.sl none n (fl (sgL x))) (j : Int) (ct : Int)) = H'), zaa Tryz.prog 57 [mP mid, X] H0 (.tup [.sl none n (fl (sgL x)), .int .i64 2]) H') ∧
    (∀ (H : List (List AV)) (mid : Nat) (hb : mid < H.length) (n : Nat) (hn1 : 1 ≤ n) (hn : n ≤ 64) (est : Nat) (V S : AV) (hV : mx V = 0) (hS : mx S = 0) (j ct : Nat) (X : AV) (x : List Nat) (hX : ∀ H', FL H' X x) (hx : x.length = n) (hn2 : n = 1) (H0 H' : List (List AV)) (h0 : H.set mid (mDc (n : Int) 1 est V S (j : Int) (ct : Int)) = H0) (h' : H.set mid (mDc (n : Int) 6 (zbe x) (.sl none n (fl x)) S (j : Int) (ct : Int)) = H'), zaa Tryz.prog 57 [mP mid, X] H0 (.tup [.slnil, .int .i64 0]) H') ∧
    (∀ (H : List (List AV)) (mid : Nat) (hb : mid < H.length) (n : Nat) (hn1 : 1 ≤ n) (hn : n ≤ 64) (est : Nat) (V S : AV) (hV : mx V = 0) (hS : mx S = 0) (j ct : Nat) (X : AV) (x : List Nat) (hX : ∀ H', FL H' X x) (hx : x.length = n) (H0 H' : List (List AV)) (h0 : H.set mid (mDc (n : Int) 2 est V S (j : Int) (ct : Int)) = H0) (h' : H.set mid (mDc (n : Int) 3 est V S (moN x n : Int) ((2 : Nat) : Int)) = H'), zaa Tryz.prog 57 [mP mid, X] H0 (.tup [.sl none n (fl (rml (yU (moN x n)) n)), .int .i64 1]) H') ∧
    (∀ (H : List (List AV)) (mid : Nat) (hb : mid < H.length) (n : Nat) (hn1 : 1 ≤ n) (hn : n ≤ 64) (est : Nat) (V S : AV) (hV : mx V = 0) (hS : mx S = 0) (j ct : Nat) (X : AV) (x : List Nat) (hX : ∀ H', FL H' X x) (hx : x.length = n) (s : List Nat) (hSs : ∀ H, FL H S s) (hsl : s.length ≤ 2 ^ 30) (ht : flt est (zbe x) = true) (hc : (sgL x = s ∨ (flt (zbe x) est || feq (zbe x) est) = true)) (H0 H' : List (List AV)) (h0 : H.set mid (mDc (n : Int) 3 est V S (j : Int) (ct : Int)) = H0) (h' : H.set mid (mDc (n : Int) 5 (zbe x) (.sl none n (fl x)) S (j : Int) (ct : Int)) = H'), zaa Tryz.prog 57 [mP mid, X] H0 (.tup [.sl none n (fl (rml (yL n) n)), .int .i64 1]) H') ∧
    (∀ (H : List (List AV)) (mid : Nat) (hb : mid < H.length) (n : Nat) (hn1 : 1 ≤ n) (hn : n ≤ 64) (est : Nat) (V S : AV) (hV : mx V = 0) (hS : mx S = 0) (j ct : Nat) (X : AV) (x : List Nat) (hX : ∀ H', FL H' X x) (hx : x.length = n) (s : List Nat) (hSs : ∀ H, FL H S s) (hsl : s.length ≤ 2 ^ 30) (ht : flt est (zbe x) = true) (hc : ¬ (sgL x = s ∨ (flt (zbe x) est || feq (zbe x) est) = true)) (H0 H' : List (List AV)) (h0 : H.set mid (mDc (n : Int) 3 est V S (j : Int) (ct : Int)) = H0) (h' : H.set mid (mDc (n : Int) 4 (zbe x) (.sl none n (fl x)) (.sl none n (fl (sgL x))) (j : Int) (ct : Int)) = H'), zaa Tryz.prog 57 [mP mid, X] H0 (.tup [.sl none n (fl (sgL x)), .int .i64 2]) H') ∧
    (∀ (H : List (List AV)) (mid : Nat) (hb : mid < H.length) (n : Nat) (hn1 : 1 ≤ n) (hn : n ≤ 64) (est : Nat) (V S : AV) (hV : mx V = 0) (hS : mx S = 0) (j ct : Nat) (X : AV) (x : List Nat) (hX : ∀ H', FL H' X x) (hx : x.length = n) (s : List Nat) (hSs : ∀ H, FL H S s) (hsl : s.length ≤ 2 ^ 30) (ht : flt est (zbe x) = false) (hc : (sgL x = s ∨ (flt (zbe x) est || feq (zbe x) est) = true)) (H0 H' : List (List AV)) (h0 : H.set mid (mDc (n : Int) 3 est V S (j : Int) (ct : Int)) = H0) (h' : H.set mid (mDc (n : Int) 5 est V S (j : Int) (ct : Int)) = H'), zaa Tryz.prog 57 [mP mid, X] H0 (.tup [.sl none n (fl (rml (yL n) n)), .int .i64 1]) H') ∧
    (∀ (H : List (List AV)) (mid : Nat) (hb : mid < H.length) (n : Nat) (hn1 : 1 ≤ n) (hn : n ≤ 64) (est : Nat) (V S : AV) (hV : mx V = 0) (hS : mx S = 0) (j ct : Nat) (X : AV) (x : List Nat) (hX : ∀ H', FL H' X x) (hx : x.length = n) (s : List Nat) (hSs : ∀ H, FL H S s) (hsl : s.length ≤ 2 ^ 30) (ht : flt est (zbe x) = false) (hc : ¬ (sgL x = s ∨ (flt (zbe x) est || feq (zbe x) est) = true)) (H0 H' : List (List AV)) (h0 : H.set mid (mDc (n : Int) 3 est V S (j : Int) (ct : Int)) = H0) (h' : H.set mid (mDc (n : Int) 4 est V (.sl none n (fl (sgL x))) (j : Int) (ct : Int)) = H'), zaa Tryz.prog 57 [mP mid, X] H0 (.tup [.sl none n (fl (sgL x)), .int .i64 2]) H') ∧
    (∀ (H : List (List AV)) (mid : Nat) (hb : mid < H.length) (n : Nat) (hn1 : 1 ≤ n) (hn : n ≤ 64) (est : Nat) (V S : AV) (hV : mx V = 0) (hS : mx S = 0) (j ct : Nat) (X : AV) (x : List Nat) (hX : ∀ H', FL H' X x) (hx : x.length = n) (hj : j < n) (hc : (feq (zbm (x.getD j 0)) (zbm (x.getD (moN x n) 0)) = false ∧ ct < 5)) (H0 H' : List (List AV)) (h0 : H.set mid (mDc (n : Int) 4 est V S (j : Int) (ct : Int)) = H0) (h' : H.set mid (mDc (n : Int) 3 est V S (moN x n : Int) ((ct + 1 : Nat) : Int)) = H'), zaa Tryz.prog 57 [mP mid, X] H0 (.tup [.sl none n (fl (rml (yU (moN x n)) n)), .int .i64 1]) H') ∧
    (∀ (H : List (List AV)) (mid : Nat) (hb : mid < H.length) (n : Nat) (hn1 : 1 ≤ n) (hn : n ≤ 64) (est : Nat) (V S : AV) (hV : mx V = 0) (hS : mx S = 0) (j ct : Nat) (X : AV) (x : List Nat) (hX : ∀ H', FL H' X x) (hx : x.length = n) (hj : j < n) (hc : ¬ (feq (zbm (x.getD j 0)) (zbm (x.getD (moN x n) 0)) = false ∧ ct < 5)) (H0 H' : List (List AV)) (h0 : H.set mid (mDc (n : Int) 4 est V S (j : Int) (ct : Int)) = H0) (h' : H.set mid (mDc (n : Int) 5 est V S (moN x n : Int) (ct : Int)) = H'), zaa Tryz.prog 57 [mP mid, X] H0 (.tup [.sl none n (fl (rml (yL n) n)), .int .i64 1]) H') ∧
    (∀ (H : List (List AV)) (mid : Nat) (hb : mid < H.length) (n : Nat) (hn1 : 1 ≤ n) (hn : n ≤ 64) (est : Nat) (V S : AV) (hV : mx V = 0) (hS : mx S = 0) (j ct : Nat) (X : AV) (x : List Nat) (hX : ∀ H', FL H' X x) (hx : x.length = n) (ht : flt est (t5 n (zbe x)) = true) (H0 H' : List (List AV)) (h0 : H.set mid (mDc (n : Int) 5 est V S (j : Int) (ct : Int)) = H0) (h' : H.set mid (mDc (n : Int) 6 (t5 n (zbe x)) (.sl none n (fl x)) S (j : Int) (ct : Int)) = H'), zaa Tryz.prog 57 [mP mid, X] H0 (.tup [.slnil, .int .i64 0]) H') ∧
    (∀ (H : List (List AV)) (mid : Nat) (hb : mid < H.length) (n : Nat) (hn1 : 1 ≤ n) (hn : n ≤ 64) (est : Nat) (V S : AV) (hV : mx V = 0) (hS : mx S = 0) (j ct : Nat) (X : AV) (x : List Nat) (hX : ∀ H', FL H' X x) (hx : x.length = n) (ht : flt est (t5 n (zbe x)) = false) (H0 H' : List (List AV)) (h0 : H.set mid (mDc (n : Int) 5 est V S (j : Int) (ct : Int)) = H0) (h' : H.set mid (mDc (n : Int) 6 est V S (j : Int) (ct : Int)) = H'), zaa Tryz.prog 57 [mP mid, X] H0 (.tup [.slnil, .int .i64 0]) H') := by
  refine ⟨?_, ?_, ?_, ?_, ?_, ?_, ?_, ?_, ?_, ?_, ?_, ?_⟩
  (intro H mid hb n hn1 hn est V S hV hS j ct H0 H' h0 h'
   subst h0 h'
   have hXl : slen AV.slnil = some 0 := rfl
   refine .go Tryz.call57 Tryz.func57 false [54] dOk ?_
   simp only [za0, Nat.reduceAdd])
  rotate_left
  (intro H mid hb n hn1 hn est V S hV hS j ct X x hX hx hn2 H0 H' h0 h'
   subst h0 h'
   have hXl : slen X = some n := by have h9 := (hX []).len; rw [hx] at h9; exact h9
   refine .go Tryz.call57 Tryz.func57 false [54] dOk ?_
   simp only [za0, Nat.reduceAdd])
  rotate_left
  (intro H mid hb n hn1 hn est V S hV hS j ct X x hX hx hn2 H0 H' h0 h'
   subst h0 h'
   have hXl : slen X = some n := by have h9 := (hX []).len; rw [hx] at h9; exact h9
   refine .go Tryz.call57 Tryz.func57 false [54] dOk ?_
   simp only [za0, Nat.reduceAdd])
  rotate_left
  (intro H mid hb n hn1 hn est V S hV hS j ct X x hX hx H0 H' h0 h'
   subst h0 h'
   have hXl : slen X = some n := by have h9 := (hX []).len; rw [hx] at h9; exact h9
   have hmo : moN x n < n := by have h9 := zg4 x n (by omega); exact h9
   refine .go Tryz.call57 Tryz.func57 false [54] dOk ?_
   simp only [za0, Nat.reduceAdd])
  rotate_left
  (intro H mid hb n hn1 hn est V S hV hS j ct X x hX hx s hSs hsl ht hc H0 H' h0 h'
   subst h0 h'
   have hXl : slen X = some n := by have h9 := (hX []).len; rw [hx] at h9; exact h9
   refine .go Tryz.call57 Tryz.func57 false [54] dOk ?_
   simp only [za0, Nat.reduceAdd])
  rotate_left
  (intro H mid hb n hn1 hn est V S hV hS j ct X x hX hx s hSs hsl ht hc H0 H' h0 h'
   subst h0 h'
   have hXl : slen X = some n := by have h9 := (hX []).len; rw [hx] at h9; exact h9
   refine .go Tryz.call57 Tryz.func57 false [54] dOk ?_
   simp only [za0, Nat.reduceAdd])
  rotate_left
  (intro H mid hb n hn1 hn est V S hV hS j ct X x hX hx s hSs hsl ht hc H0 H' h0 h'
   subst h0 h'
   have hXl : slen X = some n := by have h9 := (hX []).len; rw [hx] at h9; exact h9
   refine .go Tryz.call57 Tryz.func57 false [54] dOk ?_
   simp only [za0, Nat.reduceAdd])
  rotate_left
  (intro H mid hb n hn1 hn est V S hV hS j ct X x hX hx s hSs hsl ht hc H0 H' h0 h'
   subst h0 h'
   have hXl : slen X = some n := by have h9 := (hX []).len; rw [hx] at h9; exact h9
   refine .go Tryz.call57 Tryz.func57 false [54] dOk ?_
   simp only [za0, Nat.reduceAdd])
  rotate_left
  (intro H mid hb n hn1 hn est V S hV hS j ct X x hX hx hj hc H0 H' h0 h'
   subst h0 h'
   have hXl : slen X = some n := by have h9 := (hX []).len; rw [hx] at h9; exact h9
   have hmo : moN x n < n := by have h9 := zg4 x n (by omega); exact h9
   refine .go Tryz.call57 Tryz.func57 false [54] dOk ?_
   simp only [za0, Nat.reduceAdd])
  rotate_left
  (intro H mid hb n hn1 hn est V S hV hS j ct X x hX hx hj hc H0 H' h0 h'
   subst h0 h'
   have hXl : slen X = some n := by have h9 := (hX []).len; rw [hx] at h9; exact h9
   have hmo : moN x n < n := by have h9 := zg4 x n (by omega); exact h9
   refine .go Tryz.call57 Tryz.func57 false [54] dOk ?_
   simp only [za0, Nat.reduceAdd])
  rotate_left
  (intro H mid hb n hn1 hn est V S hV hS j ct X x hX hx ht H0 H' h0 h'
   subst h0 h'
   have hXl : slen X = some n := by have h9 := (hX []).len; rw [hx] at h9; exact h9
   have hT5 : zeu 4611686018427387904 (fdiv (zbe x) (cn (FloatKind.f64.nearest (3 * (n : Int))))) = t5 n (zbe x) := rfl
   refine .go Tryz.call57 Tryz.func57 false [54] dOk ?_
   simp only [za0, Nat.reduceAdd])
  rotate_left
  (intro H mid hb n hn1 hn est V S hV hS j ct X x hX hx ht H0 H' h0 h'
   subst h0 h'
   have hXl : slen X = some n := by have h9 := (hX []).len; rw [hx] at h9; exact h9
   have hT5 : zeu 4611686018427387904 (fdiv (zbe x) (cn (FloatKind.f64.nearest (3 * (n : Int))))) = t5 n (zbe x) := rfl
   refine .go Tryz.call57 Tryz.func57 false [54] dOk ?_
   simp only [za0, Nat.reduceAdd])
  rotate_left
  all_goals (repeat' (first
 |(refine zav ?_; (first | refine zbd ?_ | refine zao ?_ | refine m13 ?_ | refine m12 ?_ | refine m11 ?_ | (refine m10 ?_; (first | refine zcv ?_ | refine zcq ?_ | refine zcu ?_ | refine zcr ?_ | refine zct ?_ ?_ | refine zcs ?_ ?_ | refine zcp ?_ ?_ | refine zco ?_ ?_ | fail)) | (refine m09 ?_; (first | refine zcv ?_ | refine zcq ?_ | refine zcu ?_ | refine zcr ?_ | refine zct ?_ ?_ | refine zcs ?_ ?_ | refine zcp ?_ ?_ | refine zco ?_ ?_ | fail)) | refine m38 ?_ | fail))
 |(refine zaw ?_; (first | refine m14 ?_ | (refine m17 ?_; first | refine m19 ?_ | refine m18 ?_) | (refine m07 ?_; (first | refine m15 ?_ | refine m16 ?_ | refine zvw hb (by exact rfl) (by exact rfl) ?_ | refine zdy (hX _) (by omega) ?_ | fail)) | refine zc3 (by (conv => {lhs; whnf}); done) ?_ | refine zms (by (conv => {lhs; whnf}); done) (by (conv => {lhs; whnf}); done) (by exact rfl) hb (by exact rfl) (by decide) (by first | exact (by exact rfl) | simp only [mx, zak]) (by exact rfl) ?_ | refine zam (by (conv => {lhs; whnf}); done) (by exact hXl) ?_ | refine zee (n := H.length) (i := 0) (N₀ := []) (by (conv => {lhs; whnf}); done) (by (conv => {lhs; whnf}); done) (by simp) (by exact rfl) (by simp) (by omega) (by simp) (by exact rfl) (l' := fl (rml (yB n) (k + 1))) (by exact z2c rfl) ?_ | refine zbz (by (conv => {lhs; whnf}); done) (by (conv => {lhs; whnf}); done) (by exact hXl) (by omega) ?_ | (refine m45 ?_; (first | refine zbo ((k + 1 : Nat) : Int) (by omega) (by omega) ?_ | refine zb3 (by exact rfl) ?_ | refine v_k ?_ | fail)) | (refine m00 ?_; (first | refine zbo ((k + 1 : Nat) : Int) (by omega) (by omega) ?_ | refine m52 ?_ | refine m53 ?_ | refine zc7 ?_ | refine m54 ?_ | refine m55 ?_ | refine zbx ?_ | refine m47 ?_ | refine m48 ?_ | refine m49 ?_ | refine m50 ?_ | refine v_k ?_ | refine m51 ?_ | fail)) | (refine m22 ?_; (first | refine m26 ?_ | refine m27 ?_ | fail)) | refine m42 ?_ | refine zab ?_ | refine zac ?_ | refine m08 ?_ | refine zaj ?_ | refine zam (by (conv => {lhs; whnf}); done) (by first | rfl | assumption) ?_ | refine m23 ?_ | refine m25 ?_ | (refine m46 ?_; (first | refine zbo ((k + 1 : Nat) : Int) (by omega) (by omega) ?_ | refine m52 ?_ | refine m53 ?_ | refine zc7 ?_ | refine m54 ?_ | refine m55 ?_ | refine zbx ?_ | refine m47 ?_ | refine m48 ?_ | refine m49 ?_ | refine m50 ?_ | refine v_k ?_ | refine m51 ?_ | fail)) | refine zey (by (conv => {lhs; whnf}); done) (by exact rfl) ?_ | refine zdn (by (conv => {lhs; whnf}); done) ?_ | refine zc2 (by exact rfl) (by exact rfl) (by decide) ?_ | fail))
 |(refine zch ?_; (first | refine m36 ?_ | refine zcf ?_ | refine m32 ?_ | refine m31 ?_ | refine m30 ?_ | (refine m28 ?_; (first | refine ze6 ?_ | refine ze1 ?_ | refine ze5 ?_ | refine ze2 ?_ | refine ze4 ?_ ?_ | refine ze3 ?_ ?_ | refine ze0 ?_ ?_ | refine zez ?_ ?_ | fail)) | (refine m29 ?_; (first | refine ze6 ?_ | refine ze1 ?_ | refine ze5 ?_ | refine ze2 ?_ | refine ze4 ?_ ?_ | refine ze3 ?_ ?_ | refine ze0 ?_ ?_ | refine zez ?_ ?_ | fail)) | refine m37 ?_ | fail))
 |(refine zcg ?_; (first | refine zev ?_ | refine zfv ?_ | refine zfw (by (conv => {lhs; whnf}); done) ?_ | refine zfx ?_ | refine zfu (by exact rfl) (by exact rfl) ?_ | refine m34 ?_ | refine m35 ?_ | refine m33 ?_ | refine zew ?_ | refine m56 ?_ | refine zci ?_ | refine zc1 (by exact rfl) ?_ | fail))
 |refine zat ?_ | refine zau ?_ | refine zas ?_
 |(refine zax ?_; (first | refine zar ?_ | refine zad ?_ | (refine m06 ?_; (first | refine c_T ?_ | refine c_F ?_ | refine c_P ?_ ?_ | refine c_B ?_ ?_ | fail)) | refine zaq ?_ | refine zah ?_ | refine zae ?_ | refine b_exit ?_ | refine zan (id := 42) [] [] [(0, .lt), (1, .lt), (2, .lt), (3, .ld true), (5, .lt), (6, .lt), (7, .lt), (8, .lt), (9, .ld true), (10, .lt), (11, .ld true), (4, .mn true), (12, .mn true), (13, .ld true), (14, .lt), (15, .lt), (16, .lt), (17, .lt), (18, .ld true), (19, .lt), (20, .lt)] (by kernel_rfl) ?_ | (refine za1 [0, 7, 8] n (fun k => ⟨[(0, .val (mP mid)), (7, .val (gV H.length 0 k)), (8, .val (.int .i64 ((k : Nat) : Int)))], [], H.set mid (mDc (n : Int) 0 est V S (j : Int) (ct : Int)) ++ ([] ++ gN (fl (rml (yB n) k)))⟩) (by exact rfl) ?_ ?_ <;> (first | intro k hk K hK | intro K) <;> (try dsimp only at *)) | fail))
 |refine m43 ?_
 |refine zbv ?_
 |refine m21 ?_
 |refine za4 ?_
 |(refine za5 ?_; (first | refine cA (ztp _ .slnil [] (FL.nil _) (by simp)) ?_ | refine cA (zea _ _ _) ?_ | refine cA (ztp _ X x (hX _) (by omega)) ?_ | refine cA (zxi _ X x (hX _) n hx hn) ?_ | refine cA (zxi _ (.sl none n (fl (sgL x))) (sgL x) (FLz _ _ _ (by simp [hx])) n (by simp [hx]) hn) ?_ | refine cA (z06 _ X x (hX _) n hx hn) ?_ | refine cA (z02 _ X x (hX _) n hx hn1 hn) ?_ | refine cA (zj9 _ _) ?_ | refine c_call (z1b (H ++ []) mid (by simpa using hb) n hn1 hn _ _ _ _ (by first | assumption | simp only [mx, zak]) (by first | assumption | simp only [mx, zak]) _ _ hmo _ _ (zbf hb _) (zbf hb _)) (zbk.mdl (by simp) (zfk (by first | assumption | simp only [mx, zak]) (by first | assumption | simp only [mx, zak]))) ?_ | refine cA (z8h _ _ (sgL x) (FLz _ _ _ (by simp [hx])) (by simp; omega) _ s (hSs _) (by omega)) ?_ | refine c_call (zwc (H ++ []) mid (by simpa using hb) n hn1 hn _ _ _ _ (by first | assumption | simp only [mx, zak]) (by first | assumption | simp only [mx, zak]) _ _  _ _ (zbf hb _) (zbf hb _)) (zbk.mdl (by simp) (zfk (by first | assumption | simp only [mx, zak]) (by first | assumption | simp only [mx, zak]))) ?_ | refine cA (zjj _ _ _) ?_ | fail))
 |refine m44 ?_
 |refine m40 ?_
 |(refine zbc (by (conv => {lhs; simp only [List.nil_append, List.cons_append]}); done) ?_; first | refine ⟨by exact rfl, ?_⟩ | skip)
 |refine zbt ?_
 |(intro N' hN'; simp only [List.nil_append, List.cons_append] at hN'; subst hN')
 |refine zbh ?_ | refine zbi ?_ | refine zbg ?_ | refine m57 ?_
 |refine zdp ?_ | refine zdq ?_ | refine zdo ?_
 |(refine zdr (by exact rfl) ?_; first | exact hK | fail | (exfalso; first | omega | (simp_all; done) | (simp_all; omega)))
 |refine m05 ?_
 |refine m04 ?_ | refine m02 ?_ | refine m03 ?_ | refine zai ?_
 |intro _))
  all_goals first
    | (exfalso; exact hc ⟨by simpa using ‹(!feq (zbm (x.getD j 0)) (zbm (x.getD (moN x n) 0))) = true›, by omega⟩)
    | (exfalso; contradiction)
    | (exfalso; omega)
    | (refine zb5 (by simp) ?_; simp only [List.length_set]; exact Fr.tup (Frs.cons (zi0 (i := 0) (N₀ := []) (by simp) rfl (by simp) (by rw [zak]; exact Nat.zero_le _)) (Frs.cons (Fr.old (by first | (simp [mx]; done) | fail)) Frs.nil)))
    | (refine zal (by simp) (by first | (simp [mx, mxL, zak, zaf]; done) | fail) ?_; exact rfl)
    | (exfalso; simp_all; done)
    | (exfalso; simp_all; omega)
theorem qdg : type_of% @zc0.1 := @zc0.1
theorem qap : type_of% @zc0.2.1 := @zc0.2.1
theorem qao : type_of% @zc0.2.2.1 := @zc0.2.2.1
theorem qdh : type_of% @zc0.2.2.2.1 := @zc0.2.2.2.1
theorem z6k : type_of% @zc0.2.2.2.2.1 := @zc0.2.2.2.2.1
theorem z6m : type_of% @zc0.2.2.2.2.2.1 := @zc0.2.2.2.2.2.1
theorem z6j : type_of% @zc0.2.2.2.2.2.2.1 := @zc0.2.2.2.2.2.2.1
theorem z6l : type_of% @zc0.2.2.2.2.2.2.2.1 := @zc0.2.2.2.2.2.2.2.1
theorem qar : type_of% @zc0.2.2.2.2.2.2.2.2.1 := @zc0.2.2.2.2.2.2.2.2.1
theorem qaq : type_of% @zc0.2.2.2.2.2.2.2.2.2.1 := @zc0.2.2.2.2.2.2.2.2.2.1
theorem qat : type_of% @zc0.2.2.2.2.2.2.2.2.2.2.1 := @zc0.2.2.2.2.2.2.2.2.2.2.1
theorem qas : type_of% @zc0.2.2.2.2.2.2.2.2.2.2.2 := @zc0.2.2.2.2.2.2.2.2.2.2.2
end Go.Sx
