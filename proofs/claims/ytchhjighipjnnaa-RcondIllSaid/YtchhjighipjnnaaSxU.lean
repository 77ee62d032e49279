/- A part of the proofs of this seat: SxU. No condition is set. -/
import Derived.Test.YtchhjighipjnnaaSxT
set_option linter.unusedVariables false
set_option linter.unusedSimpArgs false
namespace Go.Sx
section
variable {P : Program} {cfg : Cfg} {dr : Array Oper → (St → Prop) → St → Prop} {e : List (Nat × EV)} {L : List (Nat × List AV)} {H : List (List AV)} {Q : XE → St → Prop} {K : St → Prop}
variable {d : Option Tmp} {ty : TypeId} {pos : String} {aft : Array Edge} {gd : Option (Nat × Bool)} {dd : Nat}

/-! ### constants -/
theorem aOf_cF {b : Nat} (hb : (decide (b < 2 ^ 64) && !isNaN b) = true) : aOf (.float .f64 b) = .flt b := by
  simp only [Bool.and_eq_true, decide_eq_true_eq, Bool.not_eq_true'] at hb
  show aOf1 (.float .f64 b) = .flt b
  simp only [aOf1, hb.1, if_true, cn, hb.2, Bool.false_eq_true, if_false]
theorem b_assignF {b : Nat} (hb : (decide (b < 2 ^ 64) && !isNaN b) = true) (h : K ⟨(dd, .val (.flt b)) :: e, L, H⟩) : opX P cfg ⟨some dd, .assign (.const (.float .f64 b)), ty, pos, aft, gd⟩ K ⟨e, L, H⟩ :=
  b_assign (by show EV.val (aOf (.float .f64 b)) = _; rw [aOf_cF hb]) h
theorem b_moveF {b : Nat} (hb : (decide (b < 2 ^ 64) && !isNaN b) = true) (h : K ⟨(dd, .val (.flt b)) :: e, L, H⟩) : opX P cfg ⟨some dd, .move (.const (.float .f64 b)), ty, pos, aft, gd⟩ K ⟨e, L, H⟩ :=
  b_move (by show EV.val (aOf (.float .f64 b)) = _; rw [aOf_cF hb]) h
theorem b_assignI {k : IntKind} {n : Int} (h : K ⟨(dd, .val (.int k n)) :: e, L, H⟩) : opX P cfg ⟨some dd, .assign (.const (.int k n)), ty, pos, aft, gd⟩ K ⟨e, L, H⟩ := b_assign rfl h
theorem b_moveI {k : IntKind} {n : Int} (h : K ⟨(dd, .val (.int k n)) :: e, L, H⟩) : opX P cfg ⟨some dd, .move (.const (.int k n)), ty, pos, aft, gd⟩ K ⟨e, L, H⟩ := b_move rfl h
theorem b_assignN (h : K ⟨(dd, .val .slnil) :: e, L, H⟩) : opX P cfg ⟨some dd, .assign (.const (.slice none 0 0)), ty, pos, aft, gd⟩ K ⟨e, L, H⟩ := b_assign rfl h
theorem a_consF {id : Nat} {xs : List Operand} {acc : List AV} {b : Nat} (hb : (decide (b < 2 ^ 64) && !isNaN b) = true) (h : argK P cfg id xs (acc ++ [.flt b]) dd K ⟨e, L, H⟩) : argK P cfg id (.const (.float .f64 b) :: xs) acc dd K ⟨e, L, H⟩ :=
  a_cons (by show EV.val (aOf (.float .f64 b)) = _; rw [aOf_cF hb]) h

/-! ### a call of a value -/
theorem b_callV {f : Operand} {id : Nat} {first caps : List AV} {args : Array Operand} {ts : Array TypeId} (hf : St.ev ⟨e, L, H⟩ f = .val (.func id first caps)) (h : gK args.toList [] (fun vs => callK P cfg id (first ++ vs ++ caps) dd K ⟨e, L, H⟩) ⟨e, L, H⟩) :
    opX P cfg ⟨some dd, .call { callee := .value f, args := args, argTypes := ts }, ty, pos, aft, gd⟩ K ⟨e, L, H⟩ := by
  obtain ⟨vs, ha, r, H', h1, h2, h3⟩ := h
  simp only [opX, opE, hf, ha]
  exact ⟨r, H', by simpa using h1, h2, h3⟩
theorem b_mkF {f : Nat} {first caps : Array Operand} (h : gK first.toList [] (fun vs => gK caps.toList [] (fun us => K ⟨(dd, .val (.func f vs us)) :: e, L, H⟩) ⟨e, L, H⟩) ⟨e, L, H⟩) :
    opX P cfg ⟨some dd, .makeFunc (.func f) first caps, ty, pos, aft, gd⟩ K ⟨e, L, H⟩ := by
  obtain ⟨vs, h1, us, h2, h⟩ := h
  rw [op_pure P cfg e L H K _ _ _ _ _ _ rfl]
  unfold argsX at h1 h2
  simp only [pureV, h1, h2, pureK]
  simp only [List.nil_append] at h
  exact ⟨trivial, h⟩

theorem l_nA {t : TypeId} {A N : List (List AV)} {n j g o len sz off k : Nat} {cs l : List AV} [i : TyI P t k true] (hA : A.length = n) (hj : N[j]? = some cs) (hg : cs.length = g) (hl : gc cs (o + off) k = some l) (hk : K ⟨(dd, .val (.agg l)) :: e, L, A ++ N⟩) : loadK P t dd K ⟨e, L, A ++ N⟩ (.val (.eptr (.slm (n + j) g o len sz) off)) :=
  l_ptrA (by simp only [sread, hg_new hA hj, Option.bind_some, hg, if_true]; exact hl) hk
theorem l_n1 {t : TypeId} {A N : List (List AV)} {n j g o len sz off : Nat} {cs : List AV} {c : AV} [i : TyI P t 1 false] (hA : A.length = n) (hj : N[j]? = some cs) (hg : cs.length = g) (hl : cs[o + off]? = some c) (hk : K ⟨(dd, .val c) :: e, L, A ++ N⟩) : loadK P t dd K ⟨e, L, A ++ N⟩ (.val (.eptr (.slm (n + j) g o len sz) off)) :=
  l_ptr1 (by simp only [sread, hg_new hA hj, Option.bind_some, hg, if_true]; exact gc_one hl) hk
theorem l_oA {t : TypeId} {A N : List (List AV)} {b g o len sz off k : Nat} {cs l : List AV} [i : TyI P t k true] (hj : A[b]? = some cs) (hg : cs.length = g) (hl : gc cs (o + off) k = some l) (hk : K ⟨(dd, .val (.agg l)) :: e, L, A ++ N⟩) : loadK P t dd K ⟨e, L, A ++ N⟩ (.val (.eptr (.slm b g o len sz) off)) :=
  l_ptrA (by simp only [sread, hg_old hj, Option.bind_some, hg, if_true]; exact hl) hk
theorem l_o1 {t : TypeId} {A N : List (List AV)} {b g o len sz off : Nat} {cs : List AV} {c : AV} [i : TyI P t 1 false] (hj : A[b]? = some cs) (hg : cs.length = g) (hl : cs[o + off]? = some c) (hk : K ⟨(dd, .val c) :: e, L, A ++ N⟩) : loadK P t dd K ⟨e, L, A ++ N⟩ (.val (.eptr (.slm b g o len sz) off)) :=
  l_ptr1 (by simp only [sread, hg_old hj, Option.bind_some, hg, if_true]; exact gc_one hl) hk
theorem a_consI {id : Nat} {xs : List Operand} {acc : List AV} {k : IntKind} {n : Int} (h : argK P cfg id xs (acc ++ [.int k n]) dd K ⟨e, L, H⟩) : argK P cfg id (.const (.int k n) :: xs) acc dd K ⟨e, L, H⟩ := a_cons rfl h

/-! ### a list that grows by one, from nothing on -/
def gV (n i k : Nat) : AV := if k = 0 then .slnil else .slm (n + i) k 0 k 1
def gN (l : List AV) : List (List AV) := if l = [] then [] else [l]
theorem gV_len (n i k : Nat) : slen (gV n i k) = some k := by unfold gV; split <;> simp_all [slen]
theorem b_grow {t tx : TypeId} {s x : Operand} {n i k by_ el' z' : Nat} {z v : AV} {l l' : List AV} {A N₀ : List (List AV)} [ei : EI P t 1 by_ [z]] [si : SlI P tx el' z'] (hs : St.ev ⟨e, L, A ++ (N₀ ++ gN l)⟩ s = .val (gV n i k)) (hx : St.ev ⟨e, L, A ++ (N₀ ++ gN l)⟩ x = .val (.sl none 1 [v]))
    (hA : A.length = n) (hi : N₀.length = i) (hk : l.length = k) (hm : k + 1 ≤ 2 ^ 32) (hn : cfg.n0 = n) (hz : (decide (by_ ≤ 2 ^ 10) && decide (0 < by_)) = true) (hl : l ++ [v] = l')
    (h : K ⟨(dd, .val (gV n i (k + 1))) :: e, L, A ++ (N₀ ++ gN l')⟩) :
    opX P cfg ⟨some dd, .call { callee := .builtin .append, args := #[s, x], argTypes := #[t, tx] }, ty, pos, aft, gd⟩ K ⟨e, L, A ++ (N₀ ++ gN l)⟩ := by
  subst hl
  have e1 : gV n i (k + 1) = .slm (n + i) (k + 1) 0 (k + 1) 1 := by simp [gV]
  have e2 : gN (l ++ [v]) = [l ++ [v]] := by simp [gN]
  rw [e1, e2] at h
  cases l with
  | nil =>
    simp only [List.length_nil] at hk; subst hk
    simp only [gN, if_true, List.append_nil, List.nil_append] at hs hx h ⊢
    exact b_appZ (n := n) (i := i) (xs := [v]) (m := 1) hs hx (src_fz rfl) (by omega) hA hi hz rfl rfl h
  | cons a l =>
    have hk0 : k ≠ 0 := by simp at hk; omega
    have e3 : gV n i k = .slm (n + i) k 0 k 1 := by simp [gV, hk0]
    have e4 : gN (a :: l) = [a :: l] := by simp [gN]
    rw [e3] at hs
    rw [e4] at hs hx ⊢
    subst hi
    exact b_appN (cs := a :: l) (xs := [v]) (m := 1) hs hx hA (by simp) (src_fz rfl) hk rfl hm (.inl (by omega)) hz rfl (by simp) (by simp at hk ⊢; omega) rfl h
/-- .. handed back, as what nobody writes -/
theorem gV_fr {n i k : Nat} {l : List AV} {A N₀ : List (List AV)} (hA : A.length = n) (hi : N₀.length = i) (hk : l.length = k) (hm : mxL l ≤ n) : Fr n [] (A ++ (N₀ ++ gN l)) (gV n i k) (.sl none k l) := by
  cases l with
  | nil =>
    simp only [List.length_nil] at hk; subst hk
    simp only [gV, if_true]; exact Fr.nil
  | cons a l =>
    have hk0 : k ≠ 0 := by simp at hk; omega
    simp only [gV, if_neg hk0]
    have : (A ++ (N₀ ++ gN (a :: l)))[n + i]? = some (a :: l) := by
      refine hg_new hA ?_
      subst hi; simp [gN]
    exact Fr.fz (by omega) (by simp) this hk (gc_all _ (by rw [hk]; omega)) (Frs.old hm)
theorem gV_FL {n i : Nat} {l : List Nat} {A N₀ : List (List AV)} (hA : A.length = n) (hi : N₀.length = i) : FL (A ++ (N₀ ++ gN (fl l))) (gV n i l.length) l := by
  cases l with
  | nil => exact FL.nil _
  | cons a l =>
    have : (A ++ (N₀ ++ gN (fl (a :: l))))[n + i]? = some (fl (a :: l)) := by
      refine hg_new hA ?_
      subst hi; simp [gN, fl]
    simp only [gV, List.length_cons, Nat.add_eq_zero_iff, Nat.succ_ne_zero, and_false, if_false]
    exact FL.old this (by simp) (by simp)
end

/-! ### folds, step by step -/
theorem take_succ' {l : List Nat} {k : Nat} (h : k < l.length) : l.take (k + 1) = l.take k ++ [l.getD k 0] := by
  rw [List.take_add_one]; simp [List.getD, h]
def fo (f : Nat → Nat → Nat) (s : Nat) (l : List Nat) (k : Nat) : Nat := (l.take k).foldl f s
theorem fo_zero (f : Nat → Nat → Nat) (s : Nat) (l : List Nat) : fo f s l 0 = s := by simp [fo]
theorem fo_succ {f : Nat → Nat → Nat} {s : Nat} {l : List Nat} {k : Nat} (h : k < l.length) : fo f s l (k + 1) = f (fo f s l k) (l.getD k 0) := by
  simp only [fo, take_succ' h, List.foldl_append, List.foldl_cons, List.foldl_nil]
theorem fo_all (f : Nat → Nat → Nat) (s : Nat) (l : List Nat) : fo f s l l.length = l.foldl f s := by simp [fo]
/-- the list of what is told of each -/
def mpl (f : Nat → Nat) (l : List Nat) (k : Nat) : List Nat := (l.take k).map f
theorem mpl_zero (f : Nat → Nat) (l : List Nat) : mpl f l 0 = [] := by simp [mpl]
theorem mpl_succ {f : Nat → Nat} {l : List Nat} {k : Nat} (h : k < l.length) : mpl f l (k + 1) = mpl f l k ++ [f (l.getD k 0)] := by simp [mpl, take_succ' h]
theorem mpl_all (f : Nat → Nat) (l : List Nat) : mpl f l l.length = l.map f := by simp [mpl]
@[simp] theorem mpl_len {f : Nat → Nat} {l : List Nat} {k : Nat} (h : k ≤ l.length) : (mpl f l k).length = k := by simp [mpl]; omega
/-! ### without its sign -/
def absF (x : Nat) : Nat := cn (x % 9223372036854775808)
theorem absF_cn (b : Nat) : absF (cn b) = cn (b % 9223372036854775808) := by
  unfold absF
  have key : ∀ b, isNaN (b % 9223372036854775808) = isNaN b := by
    intro b
    have e : ∀ x, isNaN x = decide (9218868437227405312 < x % 9223372036854775808) := by
      intro x
      have e1 : Ieee.double.signWeight = 9223372036854775808 := by decide
      have e2 : Ieee.double.binade = 4503599627370496 := by decide
      have e3 : Ieee.double.infRung = 9218868437227405312 := by decide
      unfold isNaN Ieee.Format.read
      simp only [e1, e2, e3]
      split
      · simp [Ieee.Datum.isNaN]; omega
      · split
        · simp [Ieee.Datum.isNaN]; omega
        · split
          · simp [Ieee.Datum.isNaN]; omega
          · simp [Ieee.Datum.isNaN]; omega
    rw [e, e, Nat.mod_mod]
  rcases cn_cases b with ⟨h1, h2⟩ | ⟨h1, h2⟩
  · rw [h2]
    have h3 : isNaN (b % 9223372036854775808) = true := by rw [key]; exact h1
    have h4 : isNaN (qn % 9223372036854775808) = true := by rw [key]; decide
    simp only [cn, h3, h4, if_true]
  · rw [h2]
/-- the greatest of numbers, and of 0; the first that is none, if there is one -/
def mxF (m x : Nat) : Nat := if flt m x then x else m
theorem mxF_T {m x : Nat} (h : flt m x = true) : mxF m x = x := by simp [mxF, h]
theorem mxF_F {m x : Nat} (h : flt m x = false) : mxF m x = m := by simp [mxF, h]
def greatF (l : List Nat) : Nat :=
  match l.find? (fun x => !feq x x) with
  | some x => x
  | none => l.foldl mxF 0
theorem first_nan : ∀ (l : List Nat), ∃ N, N ≤ l.length ∧ (∀ k, k < N → feq (l.getD k 0) (l.getD k 0) = true) ∧ (N < l.length → feq (l.getD N 0) (l.getD N 0) = false ∧ greatF l = l.getD N 0) ∧ (N = l.length → greatF l = l.foldl mxF 0)
  | l => by
    have key : ∀ l : List Nat, ∃ N, N ≤ l.length ∧ (∀ k, k < N → feq (l.getD k 0) (l.getD k 0) = true) ∧ (N < l.length → feq (l.getD N 0) (l.getD N 0) = false ∧ l.find? (fun x => !feq x x) = some (l.getD N 0)) ∧ (N = l.length → l.find? (fun x => !feq x x) = none) := by
      intro l
      induction l with
      | nil => exact ⟨0, Nat.le_refl _, by simp, by simp, by simp⟩
      | cons a l ih =>
        by_cases h : feq a a = true
        · obtain ⟨N, h1, h2, h3, h4⟩ := ih
          refine ⟨N + 1, by simp; omega, fun k hk => ?_, fun hN => ?_, fun hN => ?_⟩
          · cases k with
            | zero => simpa using h
            | succ k => simpa using h2 k (by omega)
          · have := h3 (by simp at hN; omega)
            refine ⟨by simpa using this.1, ?_⟩
            rw [List.find?_cons_of_neg (by simp [h])]
            simpa using this.2
          · rw [List.find?_cons_of_neg (by simp [h])]
            exact h4 (by simp at hN; omega)
        · refine ⟨0, by omega, by simp, fun _ => ⟨by simpa using h, ?_⟩, by simp⟩
          rw [List.find?_cons_of_pos (by simpa using h)]; simp
    obtain ⟨N, h1, h2, h3, h4⟩ := key l
    refine ⟨N, h1, h2, fun h => ⟨(h3 h).1, ?_⟩, fun h => ?_⟩
    · unfold greatF; rw [(h3 h).2]
    · unfold greatF; rw [h4 h]
def asumF (l : List Nat) : Nat := l.foldl (fun s x => fadd s (absF x)) 0
def sumF (l : List Nat) : Nat := l.foldl fadd 0
theorem asum_sum (l : List Nat) : sumF (l.map absF) = asumF l := by simp [sumF, asumF, List.foldl_map]
theorem andn63 (b : Nat) (h : b < 2 ^ 64) : bitsI .andNot .u64 b 9223372036854775808 = ((b % 9223372036854775808 : Nat) : Int) := by
  have e1 : (BitVec.ofInt 64 (b : Int)).toNat = b := by
    rw [BitVec.toNat_ofInt]
    omega
  have e2 : ~~~(BitVec.ofInt 64 (9223372036854775808 : Int)) = BitVec.ofNat 64 (2 ^ 63 - 1) := by decide
  simp only [bitsI]
  show IntKind.u64.wrap ((BitVec.ofInt 64 (b : Int) &&& ~~~(BitVec.ofInt 64 (9223372036854775808 : Int))).toNat : Int) = _
  rw [e2, BitVec.toNat_and, e1, BitVec.toNat_ofNat]
  have e3 : (2 ^ 63 - 1) % 2 ^ 64 = 2 ^ 63 - 1 := by decide
  rw [e3, Nat.and_two_pow_sub_one_eq_mod]
  rw [wrapU (by omega)]
theorem v_andn {e : List (Nat × EV)} {L : List (Nat × List AV)} {H : List (List AV)} {K : St → Prop} {dd b : Nat} (hb : b < 2 ^ 64) (h : K ⟨(dd, .val (.int .u64 ((b % 9223372036854775808 : Nat) : Int))) :: e, L, H⟩) : valK dd K ⟨e, L, H⟩ (some (True, .int .u64 (bitsI .andNot .u64 (b : Int) 9223372036854775808))) := by
  rw [andn63 b hb]; exact ⟨trivial, h⟩
/-! ### vectors -/
abbrev vt (D : AV) (off n inc : Int) : AV := .agg [D, .int .i64 off, .int .i64 n, .int .i64 inc]
structure VI (m : Nat) (off n inc : Int) : Prop where
  m : m ≤ 9223372036854775807
  o1 : -9223372036854775808 ≤ off
  o2 : off ≤ 9223372036854775807
  n1 : -9223372036854775808 ≤ n
  n2 : n ≤ 9223372036854775807
  i1 : -9223372036854775808 ≤ inc
  i2 : inc ≤ 9223372036854775807
def RightP (m : Nat) (off n inc : Int) : Prop := 0 ≤ n ∧ 1 ≤ inc ∧ 0 ≤ off ∧ (n = 0 ∨ (off < m ∧ (n - 1) * inc ≤ m - 1 - off))
instance (m : Nat) (off n inc : Int) : Decidable (RightP m off n inc) := by unfold RightP; infer_instance
theorem right_at {m : Nat} {off n inc i : Int} (h : RightP m off n inc) (hi : 0 ≤ i) (hi' : i < n) : 0 ≤ i * inc ∧ 0 ≤ off + i * inc ∧ off + i * inc < m ∧ 0 ≤ off ∧ 1 ≤ inc := by
  obtain ⟨h1, h2, h3, h4⟩ := h
  have h7 : i * inc ≤ (n - 1) * inc := Int.mul_le_mul_of_nonneg_right (by omega) (by omega)
  have h8 : 0 ≤ i * inc := Int.mul_nonneg hi (by omega)
  exact ⟨h8, by omega, by omega, h3, h2⟩
/-- the numbers of a vector -/
def vecL (l : List Nat) (off n inc : Int) : List Nat := (List.range n.toNat).map fun (k : Nat) => l.getD (off + (k : Int) * inc).toNat 0
@[simp] theorem vecL_len (l : List Nat) (off n inc : Int) : (vecL l off n inc).length = n.toNat := by simp [vecL]
theorem vecL_get {l : List Nat} {off n inc : Int} {k : Nat} (h : k < n.toNat) : (vecL l off n inc).getD k 0 = l.getD (off + (k : Int) * inc).toNat 0 := by
  simp [vecL, List.getD, h]
end Go.Sx
