/- A part of the proofs of this seat: YF. No condition is set. -/
import Derived.Lib.SlicesCompact
import Derived.Test.YtdlgclpoomlijaaYE
set_option linter.unusedVariables false
set_option linter.unusedSimpArgs false
namespace Go.Sx
section
variable {P : Program} {cfg : Cfg} {e : List (Nat × EV)} {L : List (Nat × List AV)} {H N : List (List AV)} {K : St → Prop}
variable {ty : TypeId} {pos : String} {aft : Array Edge} {gd : Option (Nat × Bool)} {dd : Nat}
theorem zgm {b : Nat} {cs : List AV} (h : b < H.length) : (H.set b cs)[b]? = some cs := by simp [h]
theorem z18 {t : TypeId} {b g o len sz k : Nat} {X : List Nat} [i : TyI P t 1 false] (hb : b < H.length) (hg : X.length = g) (hk : o + k < X.length) (h : K ⟨(dd, .val (.flt (X.getD (o + k) 0))) :: e, L, H.set b (fl X) ++ N⟩) :
    zbo P t dd K ⟨e, L, H.set b (fl X) ++ N⟩ (.val (.eptr (.slm b g o len sz) k)) :=
  zkw (by simp only [zbx, zav (zgm hb), Option.bind_some, zvh, hg, if_true]; exact zkr (zm0 hk)) h
theorem zkh {t : TypeId} {x v : Operand} {b g o len sz k : Nat} {X X' : List Nat} {f : Nat} [ti : TyI P t 1 false] (hx : St.ev ⟨e, L, H.set b (fl X) ++ N⟩ x = .val (.eptr (.slm b g o len sz) k)) (hv : St.ev ⟨e, L, H.set b (fl X) ++ N⟩ v = .val (.flt f)) (hb : b < H.length)
    (hg : X.length = g) (hk : o + k < X.length) (hX : X.set (o + k) f = X') (h : K ⟨e, L, H.set b (fl X') ++ N⟩) : opX P cfg ⟨none, .store t x v, ty, pos, aft, gd⟩ K ⟨e, L, H.set b (fl X) ++ N⟩ := by
  refine zzf hx hv (zgm hb) hg hk hX ?_
  rw [List.set_set]; exact h
theorem zek {x : Operand} {s : AV} {o : Nat} (hx : St.ev ⟨e, L, H⟩ x = .val (.eptr s o)) (h : K ⟨(dd, .val (.eptr s o)) :: e, L, H⟩) : opX P cfg ⟨some dd, .nilCheck x, ty, pos, aft, gd⟩ K ⟨e, L, H⟩ := by
  rw [zbu P cfg e L H K _ _ _ _ _ _ rfl]
  simp only [zas, hx]
  exact ⟨trivial, h⟩
theorem zi7 {m : Nat} {t el : TypeId} {x y : Operand} [si : SlI P t el 1] {s : AV} {k : IntKind} {i : Int} {len : Nat} (hx : St.ev ⟨e, L, H⟩ x = .val s) (hy : St.ev ⟨e, L, H⟩ y = .val (.int k i)) (hl : slen s = some len) (hi : i = (m : Int)) (hm : m < len)
    (h : K ⟨(dd, .val (.eptr s m)) :: e, L, H⟩) : opX P cfg ⟨some dd, .indexAddr t x y, ty, pos, aft, gd⟩ K ⟨e, L, H⟩ :=
  zpc (i := m) hx hy hl hi hm (by simpa using h)
theorem FL.set {b g q : Nat} {X : List Nat} (hb : b < H.length) (hg : g = X.length) (hq : q = X.length) : FL (H.set b (fl X) ++ N) (.slm b g 0 q 1) X :=
  (FL.old (zgm hb) hg hq).app N
end
def zh3 (g : Nat → Nat → Nat) (i k : Nat) : Nat → Nat → Nat := fun i' j => if i' = i then g k j else if i' = k then g i j else g i' j
def znr (g : Nat → Nat → Nat) (i k t : Nat) : Nat → Nat → Nat := fun i' j => if j < t then zh3 g i k i' j else g i' j
theorem zot {g : Nat → Nat → Nat} {i k t : Nat} (i' j : Nat) : zmo (zmo (znr g i k t) i t (g k t)) k t (g i t) i' j = znr g i k (t + 1) i' j := by
  unfold zmo znr zh3
  by_cases h1 : j = t
  · subst h1
    by_cases h2 : i' = k
    · subst h2
      by_cases h3 : i' = i
      · subst h3; simp
      · simp [h3]
    · by_cases h3 : i' = i
      · subst h3; simp [h2]
      · simp [h2, h3]
  · have : (j < t + 1) = (j < t) := by apply propext; omega
    simp [h1, this]
theorem zr9 {g : Nat → Nat → Nat} {i k t : Nat} (hik : i ≠ k) (i' j : Nat) : zmo (zmo (znr g i k t) i t (g k t)) k t (g i t) i' j = znr g i k (t + 1) i' j := zot i' j
theorem zr8 {g : Nat → Nat → Nat} {i : Nat} (i' j : Nat) : zh3 g i i i' j = g i' j := by
  unfold zh3; split
  · rename_i h; rw [h]
  · rfl
def moN (x : List Nat) : Nat → Nat
  | 0 => 0
  | k + 1 => if k = 0 then 0 else if flt (zsm (x.getD (moN x k) 0)) (zsm (x.getD k 0)) then k else moN x k
theorem z3z {x : List Nat} {k : Nat} (hk : 0 < k) (h : flt (zsm (x.getD (moN x k) 0)) (zsm (x.getD k 0)) = true) : moN x (k + 1) = k := by
  simp only [moN]; rw [if_neg (by omega), if_pos h]
theorem z3y {x : List Nat} {k : Nat} (hk : 0 < k) (h : flt (zsm (x.getD (moN x k) 0)) (zsm (x.getD k 0)) = false) : moN x (k + 1) = moN x k := by
  simp only [moN]; rw [if_neg (by omega), h]; rfl
theorem zne (x : List Nat) : ∀ k, 0 < k → moN x k < k
  | 0, h => by omega
  | k + 1, _ => by
    simp only [moN]
    split
    · omega
    · split
      · omega
      · have := zne x k (by omega); omega
def moI (x : List Nat) (k : Nat) : Int := if k = 0 then -1 else (moN x k : Int)
theorem zty (x : List Nat) : moI x 0 = -1 := rfl
theorem zl8 {x : List Nat} {k : Nat} (h : 0 < k) : moI x k = (moN x k : Int) := by unfold moI; rw [if_neg (by omega)]
theorem zxj (x : List Nat) : moI x (0 + 1) = 0 := rfl
theorem zj3 {off ld : Int} {r c n i t : Nat} (hG : zac n off r c ld) (hi : i < r) (ht : t < c) : zrm off (c : Int) (i : Int) + (t : Int) * ld = ((pos off ld i t : Nat) : Int) := by
  have hp := zak hG (i := (i : Int)) (j := (t : Int)) (by omega) (by omega) (by omega) (by omega)
  unfold zrm pos
  rw [if_pos (by omega)]
  omega
theorem zd6 {off ld : Int} {r c n i t : Nat} (hG : zac n off r c ld) (hi : i < r) (ht : t < c) : zcj off (r : Int) ld (t : Int) + (i : Int) = ((pos off ld i t : Nat) : Int) := by
  have hp := zak hG (i := (i : Int)) (j := (t : Int)) (by omega) (by omega) (by omega) (by omega)
  unfold zcj pos
  rw [if_pos (by omega)]
  omega
end Go.Sx
set_option linter.unusedVariables false
set_option linter.unusedSimpArgs false
namespace Go.Sx
open Ieee
theorem zta : Ieee.double.signWeight = 9223372036854775808 := by decide
theorem zyp : Ieee.double.binade = 4503599627370496 := by decide
theorem zps : Ieee.double.infRung = 9218868437227405312 := by decide
theorem z4r : Ieee.double.leastPlace = -1074 := by decide
theorem z5t : Ieee.double.fractionBits = 52 := by decide
theorem zdy (s : Bool) (k : Nat) (h : k ≤ 9218868437227405312) : Ieee.double.read (Ieee.double.word s k) = (if s then (Ieee.double.read k).opposite else Ieee.double.read k) := by
  have hk : k < 9223372036854775808 := by omega
  have h1 : (k / 9223372036854775808 % 2 == 1) = false := by rw [Nat.div_eq_of_lt hk]; rfl
  have h2 : k % 9223372036854775808 = k := Nat.mod_eq_of_lt hk
  cases s with
  | false =>
    have : Ieee.double.word false k = k := by simp [Ieee.Format.word, zta]
    rw [this]; rfl
  | true =>
    have e : Ieee.double.word true k = 9223372036854775808 + k := by simp [Ieee.Format.word, zta]
    rw [e]
    have h3 : ((9223372036854775808 + k) / 9223372036854775808 % 2 == 1) = true := by
      have : (9223372036854775808 + k) / 9223372036854775808 = 1 := by omega
      rw [this]; rfl
    have h4 : (9223372036854775808 + k) % 9223372036854775808 = k := by omega
    unfold Ieee.Format.read
    simp only [zta, zyp, zps, h1, h2, h3, h4, if_true]
    split
    · simp [Ieee.Datum.opposite]
    · split
      · simp [Ieee.Datum.opposite]
      · split
        · simp [Ieee.Datum.opposite]
        · simp [Ieee.Datum.opposite]
def zmh (m : Nat) (p : Int) : Nat :=
  if m = 0 then 0 else
    let last := max (p + m.log2 - 52) (-1074)
    min ((last - (-1074)).toNat * 4503599627370496 + Toward.even.cut false (m <<< (p - last).toNat) (last - p).toNat) 9218868437227405312
theorem zs6 (s : Bool) (n d : Nat) : Toward.even.cut s n d = Toward.even.cut false n d := rfl
theorem zeb (s : Bool) (m : Nat) (p : Int) : Ieee.double.nearest s m p = Ieee.double.word s (zmh m p) := by
  unfold Ieee.Format.nearest zmh
  by_cases h : m = 0
  · simp [h]
  · simp only [h, if_false, z5t, z4r, zyp, zps, zs6 s]
    rfl
theorem zuj (m : Nat) (p : Int) : zmh m p ≤ 9218868437227405312 := by
  unfold zmh
  split
  · omega
  · exact Nat.min_le_right _ _
theorem zxf {n k : Nat} (h1 : 2 ^ k ≤ n) (h2 : n < 2 ^ (k + 1)) : n.log2 = k := by
  have hn : n ≠ 0 := by have := Nat.two_pow_pos k; omega
  exact (Nat.log2_eq_iff hn).2 ⟨h1, h2⟩
theorem zkm {n : Nat} (h : 1 ≤ n) : Toward.even.cut false ((4503599627370496 * n) <<< 0) 52 = n := by
  have hl : 52 ≤ (4503599627370496 * n).log2 := by
    rw [Nat.le_log2 (by omega)]
    have : 2 ^ 52 = 4503599627370496 := by decide
    omega
  unfold Toward.cut
  have e0 : (4503599627370496 * n) <<< 0 = 4503599627370496 * n := rfl
  have e1 : min 52 ((4503599627370496 * n).log2 + 2) = 52 := by omega
  have e2 : (1 : Nat) <<< 52 = 4503599627370496 := by decide
  simp only [e0, e1, e2]
  have e3 : 4503599627370496 * n / 4503599627370496 = n := Nat.mul_div_cancel_left n (by decide)
  have e4 : 4503599627370496 * n % 4503599627370496 = 0 := Nat.mul_mod_right _ _
  rw [e3, e4]
  simp
theorem zgb {k : Nat} (h : k < 9218868437227405312) : ∃ m e, Ieee.double.read k = .number false m e ∧ zmh (4503599627370496 * m) (e + -52) = k := by
  have hk : k < 9223372036854775808 := by omega
  have h1 : (k / 9223372036854775808 % 2 == 1) = false := by rw [Nat.div_eq_of_lt hk]; rfl
  have h2 : k % 9223372036854775808 = k := Nat.mod_eq_of_lt hk
  unfold Ieee.Format.read
  simp only [zta, zyp, zps, z4r, h1, h2]
  by_cases hB : k < 4503599627370496
  · rw [if_pos hB]
    refine ⟨k, -1074, rfl, ?_⟩
    by_cases h0 : k = 0
    · subst h0; decide
    · have hl2 : (4503599627370496 * k).log2 < 104 := by
        rw [Nat.log2_lt (by omega)]
        have : 2 ^ 104 = 4503599627370496 * 4503599627370496 := by decide
        omega
      unfold zmh
      rw [if_neg (by omega)]
      have e1 : max (-1074 + -52 + (((4503599627370496 * k).log2 : Nat) : Int) - 52) (-1074) = -1074 := by omega
      simp only [e1]
      have e2 : ((-1074 : Int) + -52 - -1074).toNat = 0 := by decide
      have e3 : ((-1074 : Int) - (-1074 + -52)).toNat = 52 := by decide
      have e4 : ((-1074 : Int) - -1074).toNat = 0 := by decide
      rw [e2, e3, e4, zkm (by omega)]
      omega
  · rw [if_neg hB, if_pos h]
    refine ⟨_, _, rfl, ?_⟩
    have hd := Nat.div_add_mod k 4503599627370496
    have hm := Nat.mod_lt k (show 0 < 4503599627370496 by decide)
    have hq : 1 ≤ k / 4503599627370496 := (Nat.le_div_iff_mul_le (by decide)).2 (by omega)
    generalize k % 4503599627370496 = r at hd hm
    generalize k / 4503599627370496 = q at hd hq
    have hl : (4503599627370496 * (4503599627370496 + r)).log2 = 104 := by
      apply zxf
      · have : 2 ^ 104 = 4503599627370496 * 4503599627370496 := by decide
        omega
      · have : 2 ^ (104 + 1) = 4503599627370496 * 9007199254740992 := by decide
        omega
    unfold zmh
    rw [if_neg (by omega), hl]
    have e1 : max ((-1074 : Int) + ((q - 1 : Nat) : Int) + -52 + ((104 : Nat) : Int) - 52) (-1074) = -1074 + ((q - 1 : Nat) : Int) := by omega
    simp only [e1]
    have e2 : ((-1074 : Int) + ((q - 1 : Nat) : Int) + -52 - (-1074 + ((q - 1 : Nat) : Int))).toNat = 0 := by omega
    have e3 : ((-1074 : Int) + ((q - 1 : Nat) : Int) - (-1074 + ((q - 1 : Nat) : Int) + -52)).toNat = 52 := by omega
    have e4 : ((-1074 : Int) + ((q - 1 : Nat) : Int) - -1074).toNat = q - 1 := by omega
    rw [e2, e3, e4, zkm (by omega)]
    have : (q - 1) * 4503599627370496 + (4503599627370496 + r) = k := by omega
    rw [this]; omega
theorem zop (y : Nat) : ∃ s : Bool, Ieee.double.read y = (if s then (Ieee.double.read (y % 9223372036854775808)).opposite else Ieee.double.read (y % 9223372036854775808)) := by
  have h2 : y % 9223372036854775808 % 9223372036854775808 = y % 9223372036854775808 := Nat.mod_mod _ _
  have h3 : (y % 9223372036854775808 / 9223372036854775808 % 2 == 1) = false := by rw [Nat.div_eq_of_lt (Nat.mod_lt _ (by decide))]; rfl
  refine ⟨y / 9223372036854775808 % 2 == 1, ?_⟩
  unfold Ieee.Format.read
  simp only [zta, zyp, zps, h2, h3]
  cases (y / 9223372036854775808 % 2 == 1) with
  | false => simp
  | true =>
    simp only [if_true]
    split
    · simp [Ieee.Datum.opposite]
    · split
      · simp [Ieee.Datum.opposite]
      · split
        · simp [Ieee.Datum.opposite]
        · simp [Ieee.Datum.opposite]
theorem zxq (d : Datum) : d.opposite.opposite = d := by cases d <;> simp [Ieee.Datum.opposite]
def zcn : Nat := 13830554455654793216
theorem zmf : Ieee.double.read zcn = .number true 4503599627370496 (-52) := by decide
theorem zoh {y : Nat} (hn : isNaN y = false) : ∃ r, Ieee.double.mul zcn y = some r ∧ Ieee.double.read r = (Ieee.double.read y).opposite := by
  obtain ⟨s, hs⟩ := zop y
  have hk : y % 9223372036854775808 ≤ 9218868437227405312 := by
    rcases Nat.lt_or_ge 9218868437227405312 (y % 9223372036854775808) with h | h
    · have : isNaN y = true := by
        unfold isNaN Ieee.Format.read
        simp only [zta, zyp, zps]
        rw [if_neg (by omega), if_neg (by omega), if_neg (by omega)]
        rfl
      rw [this] at hn; cases hn
    · exact h
  generalize y % 9223372036854775808 = k at hs hk
  unfold Ieee.Format.mul
  rw [zmf, hs]
  rcases Nat.lt_or_ge k 9218868437227405312 with h | h
  · obtain ⟨m, e, h1, h2⟩ := zgb h
    rw [h1]
    have e1 : (-52 + e : Int) = e + -52 := by omega
    cases s with
    | false =>
      refine ⟨Ieee.double.word true k, ?_, ?_⟩
      · simp [Ieee.Datum.product, Ieee.Format.write, zeb, e1, h2]
      · rw [zdy _ _ hk]; simp [h1]
    | true =>
      refine ⟨Ieee.double.word false k, ?_, ?_⟩
      · simp [Ieee.Datum.product, Ieee.Datum.opposite, Ieee.Format.write, zeb, e1, h2]
      · rw [zdy _ _ hk]; simp [h1, Ieee.Datum.opposite]
  · have hke : k = 9218868437227405312 := by omega
    subst hke
    have hi : Ieee.double.read 9218868437227405312 = .infinity false := by decide
    rw [hi]
    cases s with
    | false =>
      refine ⟨Ieee.double.word true 9218868437227405312, ?_, ?_⟩
      · simp [Ieee.Datum.product, Ieee.Format.write, zps]
      · rw [zdy _ _ hk]; simp [hi]
    | true =>
      refine ⟨Ieee.double.word false 9218868437227405312, ?_, ?_⟩
      · simp [Ieee.Datum.product, Ieee.Datum.opposite, Ieee.Format.write, zps]
      · rw [zdy _ _ hk]; simp [hi, Ieee.Datum.opposite]
theorem zmc (a b : Datum) : a.opposite.product b = (a.product b).map Datum.opposite := by
  cases a <;> cases b <;> simp [Ieee.Datum.opposite, Ieee.Datum.product] <;> (try split) <;> simp_all [Ieee.Datum.opposite]
theorem zk8 (a b : Datum) : a.product b = b.product a := by
  cases a <;> cases b <;> simp [Ieee.Datum.product, Bool.xor_comm, Nat.mul_comm, Int.add_comm] <;> (try split) <;> simp_all [Bool.xor_comm]
theorem zse {d : Datum} (h : d.isNaN = false) : Ieee.double.read (Ieee.double.write d.opposite) = (Ieee.double.read (Ieee.double.write d)).opposite ∧ (Ieee.double.read (Ieee.double.write d)).isNaN = false := by
  have nn : ∀ k, k ≤ 9218868437227405312 → (Ieee.double.read k).isNaN = false := by
    intro k hk
    rcases Nat.lt_or_ge k 9218868437227405312 with h | h
    · obtain ⟨m, e, h1, _⟩ := zgb h
      rw [h1]; rfl
    · have : k = 9218868437227405312 := by omega
      subst this; decide
  have on : ∀ d : Datum, d.opposite.isNaN = d.isNaN := by intro d; cases d <;> rfl
  have key : ∀ (s : Bool) (k : Nat), k ≤ 9218868437227405312 → Ieee.double.read (Ieee.double.word (!s) k) = (Ieee.double.read (Ieee.double.word s k)).opposite ∧ (Ieee.double.read (Ieee.double.word s k)).isNaN = false := by
    intro s k hk
    rw [zdy _ _ hk, zdy _ _ hk]
    cases s
    · simp [nn k hk]
    · simp [zxq, on, nn k hk]
  cases d with
  | number s m p =>
    simp only [Ieee.Datum.opposite, Ieee.Format.write, zeb]
    exact key s _ (zuj m p)
  | infinity s =>
    simp only [Ieee.Datum.opposite, Ieee.Format.write, zps]
    exact key s _ (Nat.le_refl _)
  | nan s t => cases h
theorem zlx (b : Nat) : cn (cn b) = cn b := by
  rcases zc3 b with ⟨h1, h2⟩ | ⟨h1, h2⟩
  · rw [h2]; exact z2y
  · rw [h2, h2]
theorem zv3 (a b : Nat) : Ieee.double.add a (cn b) = Ieee.double.add a b := by
  rw [← zo4 a (cn b), zlx, zo4]
theorem zyc (a b : Nat) : Ieee.double.sub a (cn b) = Ieee.double.sub a b := by
  rw [← zr6 a (cn b), zlx, zr6]
theorem zxk (a b : Nat) : Ieee.double.mul (cn a) b = Ieee.double.mul a b := by
  rw [← zqx (cn a) b, zlx, zqx]
theorem zjr (x : Nat) {y : Nat} (h : isNaN y = true) : Ieee.double.mul x y = none ∧ Ieee.double.mul y x = none := by
  obtain ⟨s, t, hr⟩ := zdw h
  unfold Ieee.Format.mul
  rw [hr]
  constructor
  · cases Ieee.double.read x <;> rfl
  · rfl
theorem zjq (x : Nat) {y : Nat} (h : isNaN y = true) : Ieee.double.add x y = none ∧ Ieee.double.sub x y = none := by
  obtain ⟨s, t, hr⟩ := zdw h
  unfold Ieee.Format.add Ieee.Format.sub
  rw [hr]
  constructor <;> cases Ieee.double.read x <;> rfl
theorem qnN : isNaN qn = true := by decide
theorem zm4 {p x y : Nat} : zmy p (zd8 (zd8 zcn y) x) = zoe p (zd8 x y) := by
  have ff : ∀ (f : Nat → Nat → Option Nat) a b, fop f a b = (match f a b with | some r => cn r | none => qn) := fun _ _ _ => rfl
  by_cases hn : isNaN y = true
  · have e1 : zd8 zcn y = qn := by show fop _ _ _ = _; rw [ff, (zjr zcn hn).1]
    have e2 : zd8 qn x = qn := by show fop _ _ _ = _; rw [ff, (zjr x qnN).2]
    have e3 : zd8 x y = qn := by show fop _ _ _ = _; rw [ff, (zjr x hn).1]
    rw [e1, e2, e3]
    show fop _ _ _ = fop _ _ _
    rw [ff, ff, (zjq p qnN).1, (zjq p qnN).2]
  · have hn' : isNaN y = false := by simpa using hn
    obtain ⟨r, h1, h2⟩ := zoh hn'
    have e1 : zd8 zcn y = cn r := by show fop _ _ _ = _; rw [ff, h1]
    rw [e1]
    have e2 : Ieee.double.mul (cn r) x = ((Ieee.double.read x).product (Ieee.double.read y)).map (fun d => Ieee.double.write d.opposite) := by
      rw [zxk]
      unfold Ieee.Format.mul
      rw [h2, zmc, zk8]
      cases (Ieee.double.read x).product (Ieee.double.read y) <;> rfl
    have e3 : Ieee.double.mul x y = ((Ieee.double.read x).product (Ieee.double.read y)).map Ieee.double.write := rfl
    show fop _ p (fop _ _ _) = fop _ p (fop _ _ _)
    simp only [ff]
    rw [e2, e3]
    cases hd : (Ieee.double.read x).product (Ieee.double.read y) with
    | none =>
      simp only [Option.map_none]
      rw [(zjq p qnN).1, (zjq p qnN).2]
    | some d =>
      simp only [Option.map_some]
      rw [zv3, zyc]
      have hdn : d.isNaN = false := by
        revert hd
        cases Ieee.double.read x <;> cases Ieee.double.read y <;> simp [Ieee.Datum.product] <;> first | (intro hh; subst hh; rfl) | (intro _ hh; subst hh; rfl)
      obtain ⟨h3, h4⟩ := zse hdn
      unfold Ieee.Format.add Ieee.Format.sub
      rw [h3]
end Go.Sx
set_option linter.unusedVariables false
set_option linter.unusedSimpArgs false
namespace Go.Sx
theorem zl5 {H N : List (List AV)} {b : Nat} {X Y : List AV} (h : b < H.length) : (H.set b X ++ N).set b Y = H.set b Y ++ N := by
  rw [za9 (by simpa using h), List.set_set]
theorem za7.set2 {H N N' : List (List AV)} {n b : Nat} {X Y : List AV} (hb : b < H.length) (h : n ≤ H.length) (hm : mxL Y ≤ n) : za7 n (H.set b X ++ N) (H.set b Y ++ N') := by
  have := za7.set (A := H.set b X) (N := N) (N' := N') (n := n) (i := b) (cs := Y) (by simpa using h) hm
  rwa [List.set_set] at this
theorem ze8 {H N : List (List AV)} {b : Nat} {X : List AV} (h : b < H.length) : (H.set b X ++ N)[b]? = some X := zav (zgm h)
def zov (g : Nat → Nat → Nat) (k n : Nat) : List Nat := rml (fun i => g (k + i) k) (n - k)
@[simp] theorem z14 (g : Nat → Nat → Nat) (k n : Nat) : (zov g k n).length = n - k := by simp [zov]
def pvK (g : Nat → Nat → Nat) (k n : Nat) : Nat := k + moN (zov g k n) (n - k)
theorem zlb {g : Nat → Nat → Nat} {k n : Nat} (h : k < n) : pvK g k n < n := by
  have := zne (zov g k n) (n - k) (by omega)
  unfold pvK; omega
theorem z04 {g : Nat → Nat → Nat} {k n : Nat} : k ≤ pvK g k n := by unfold pvK; omega
def swK (g : Nat → Nat → Nat) (k n : Nat) : Nat → Nat → Nat := zh3 g k (pvK g k n)
def zgx (g : Nat → Nat → Nat) (k : Nat) : Nat → Nat → Nat := fun i j => if k < i ∧ j = k then fdiv (g i k) (g k k) else g i j
def z2e (g : Nat → Nat → Nat) (k : Nat) : Nat → Nat → Nat := fun i j => if k < i ∧ k < j then zoe (g i j) (zd8 (g i k) (g k j)) else g i j
def elG (g : Nat → Nat → Nat) (k : Nat) : Nat → Nat → Nat := z2e (zgx g k) k
def stG (g : Nat → Nat → Nat) (n : Nat) : Nat → Nat → Nat → Nat
  | 0 => g
  | k + 1 => elG (swK (stG g n k) k n) k
def sgK (g : Nat → Nat → Nat) (n k : Nat) : Bool := feq (swK (stG g n k) k n k k) 0
def pvL (g : Nat → Nat → Nat) (n k : Nat) : List Int := (List.range k).map fun t => (pvK (stG g n t) t n : Int)
@[simp] theorem zhw (g : Nat → Nat → Nat) (n k : Nat) : (pvL g n k).length = k := by simp [pvL]
theorem zue (g : Nat → Nat → Nat) (n : Nat) : pvL g n 0 = [] := rfl
theorem zua (g : Nat → Nat → Nat) (n k : Nat) : pvL g n (k + 1) = pvL g n k ++ [(pvK (stG g n k) k n : Int)] := by simp [pvL, List.range_succ]
def fN (g : Nat → Nat → Nat) (n : Nat) : Nat := (List.range n).findIdx (sgK g n)
theorem z3f (g : Nat → Nat → Nat) (n : Nat) : fN g n ≤ n := by
  have := List.findIdx_le_length (xs := List.range n) (p := sgK g n)
  simpa [fN] using this
theorem zww {g : Nat → Nat → Nat} {n k : Nat} (h : k < fN g n) : sgK g n k = false := by
  have := List.not_of_lt_findIdx (xs := List.range n) (p := sgK g n) (i := k) h
  simpa using this
theorem z3e {g : Nat → Nat → Nat} {n : Nat} (h : fN g n < n) : sgK g n (fN g n) = true := by
  have h' : (List.range n).findIdx (sgK g n) < (List.range n).length := by simpa [fN] using h
  have := List.findIdx_getElem (xs := List.range n) (p := sgK g n) (w := h')
  simpa [fN] using this
theorem zpt {g : Nat → Nat → Nat} {k i j : Nat} (h : i ≤ k) : elG g k i j = g i j := by
  unfold elG z2e zgx
  rw [if_neg (by omega), if_neg (by omega)]
theorem z1a {cs xs : List AV} (h : xs.length = cs.length) : sc cs 0 xs = xs := by
  apply List.ext_getElem?
  intro i
  rw [zrr _ _ _ _ (by omega)]
  by_cases hi : i < xs.length
  · rw [if_pos (by omega)]; simp
  · rw [if_neg (by omega), List.getElem?_eq_none (by omega), List.getElem?_eq_none (by omega)]
section
variable {P : Program} {cfg : Cfg} {e : List (Nat × EV)} {L : List (Nat × List AV)} {H N : List (List AV)} {K : St → Prop}
variable {ty : TypeId} {pos : String} {aft : Array Edge} {gd : Option (Nat × Bool)} {dd : Nat}
theorem zy7 {t tx el el' : TypeId} {z' : Nat} {s x : Operand} {n i g q m : Nat} {tag : Option (Nat × Nat)} {xs cs : List AV} {A N N' : List (List AV)} [si : SlI P t el 1] [sj : SlI P tx el' z'] (hs : St.ev ⟨e, L, A ++ N⟩ s = .val (.slm (n + i) g 0 q 1)) (hx : St.ev ⟨e, L, A ++ N⟩ x = .val (.sl tag m xs))
    (hA : A.length = n) (hc : N[i]? = some cs) (hg : cs.length = g) (hq : q = g) (hm : m = g) (hxl : xs.length = g) (hn : cfg.n0 = n) (hN : N.set i xs = N') (h : K ⟨(dd, .val (.int .i64 (g : Int))) :: e, L, A ++ N'⟩) :
    opX P cfg ⟨some dd, .call { callee := .builtin .copy, args := #[s, x], argTypes := #[t, tx] }, ty, pos, aft, gd⟩ K ⟨e, L, A ++ N⟩ := by
  subst hA
  have hsrc : zlk (A ++ N) 1 (.sl tag m xs) = some (m, xs) := zgu (by omega)
  simp only [opX, opE, List.map_cons, List.map_nil, hs, hx, EV.asV, si.h, si.z, sj.h, sj.z, Option.bind_some, hsrc, zsf, zbg rfl hc]
  refine ⟨by omega, trivial, hg, .inl (by omega), by omega, ?_⟩
  have e1 : sc cs 0 (xs.take (min m q * 1)) = xs := by
    rw [show min m q * 1 = xs.length by omega, List.take_length]
    exact z1a (by omega)
  rw [e1, zea rfl hN, show min m q = g by omega]
  exact h
end
theorem zbk {e : List (Nat × EV)} {L : List (Nat × List AV)} {H : List (List AV)} {K : St → Prop} {dd : Nat} (n' : Int) {n : Int} (hw : -9223372036854775808 ≤ n ∧ n ≤ 9223372036854775807) (hn : n = n') (h : K ⟨(dd, .val (.int .i64 n')) :: e, L, H⟩) : zcq dd K ⟨e, L, H⟩ (some (True, .int .i64 (IntKind.i64.wrap n))) := by
  subst hn; exact v_w hw h
theorem zf8 {n : Nat} {off ld : Int} {r c k j : Nat} (hG : zac n off r c ld) (hk : k < c) (hj : j ≤ r) : zal n (zcj off r ld k + (j : Int)) ((r - j : Nat) : Int) 1 := by
  obtain ⟨h1, h2, h3, h4⟩ := zc4 hG (j := (k : Int)) (by omega) (by omega)
  refine ⟨by omega, by omega, by omega, ?_⟩
  rcases h4 with h4 | h4
  · exact .inl (by omega)
  · by_cases h : j = r
    · exact .inl (by omega)
    · exact .inr (by omega)
theorem zs3 {l : List Nat} {off ld : Int} {r c k j : Nat} (hG : zac l.length off r c ld) (hk : k < c) (hj : j ≤ r) : zsj l (zcj off r ld k + (j : Int)) ((r - j : Nat) : Int) 1 = rml (fun i => mel l off ld (j + i) k) (r - j) := by
  unfold zsj rml
  rw [Int.toNat_natCast]
  refine List.map_congr_left fun i hi => ?_
  have hi' : i < r - j := by simpa using hi
  have := zd6 hG (i := j + i) (t := k) (by omega) hk
  rw [zbr]
  congr 1
  omega
def dvS (g : Nat → Nat → Nat) (k t : Nat) : Nat → Nat → Nat := fun i j => if k < i ∧ i < k + 1 + t ∧ j = k then fdiv (g i k) (g k k) else g i j
theorem zs9 {g : Nat → Nat → Nat} {k : Nat} (i j : Nat) : dvS g k 0 i j = g i j := by unfold dvS; rw [if_neg (by omega)]
theorem zwq {g : Nat → Nat → Nat} {k n : Nat} (h : k < n) (i j : Nat) (hi : i < n) : dvS g k (n - (k + 1)) i j = zgx g k i j := by
  unfold dvS zgx
  by_cases h1 : k < i ∧ j = k
  · rw [if_pos (by omega), if_pos h1]
  · rw [if_neg (by omega), if_neg h1]
theorem zs8 {g : Nat → Nat → Nat} {k t : Nat} (i j : Nat) : zmo (dvS g k t) (k + 1 + t) k (fdiv (dvS g k t (k + 1 + t) k) (g k k)) i j = dvS g k (t + 1) i j := by
  have e1 : dvS g k t (k + 1 + t) k = g (k + 1 + t) k := by unfold dvS; rw [if_neg (by omega)]
  rw [e1]
  unfold zmo dvS
  by_cases h1 : i = k + 1 + t ∧ j = k
  · obtain ⟨rfl, rfl⟩ := h1
    rw [if_pos ⟨rfl, rfl⟩, if_pos (by omega)]
  · rw [if_neg h1]
    by_cases h2 : k < i ∧ i < k + 1 + t ∧ j = k
    · rw [if_pos h2, if_pos (by omega)]
    · rw [if_neg h2, if_neg (by omega)]
theorem zth {l : List AV} (h : l ≠ []) : gN l = [l] := if_neg h
theorem zno {α : Type} {A : List α} {x y : α} {i : Nat} (h : i = A.length) : (A ++ [x]).set i y = A ++ [y] := by
  subst h; rw [List.set_append_right _ _ (Nat.le_refl _)]; simp
theorem zjl {α : Type} {A : List α} {x : α} {i : Nat} (h : i = A.length) : (A ++ [x])[i]? = some x := by
  subst h; simp
def zw1 (g : Nat → Nat → Nat) (a : Nat) (xs ys : Nat → Nat) : Nat → Nat → Nat := fun i j => zmy (g i j) (zd8 (zd8 a (ys j)) (xs i))
def zim (g : Nat → Nat → Nat) (a : Nat) (xs ys : Nat → Nat) (r t : Nat) : Nat → Nat → Nat := fun i j => if j * r + i < t then zw1 g a xs ys i j else g i j
theorem zp8 {g : Nat → Nat → Nat} {a : Nat} {xs ys : Nat → Nat} {r : Nat} (i j : Nat) : zim g a xs ys r 0 i j = g i j := by unfold zim; rw [if_neg (by omega)]
theorem ztk {g : Nat → Nat → Nat} {a : Nat} {xs ys : Nat → Nat} {r c : Nat} (i j : Nat) (hi : i < r) (hj : j < c) : zim g a xs ys r (c * r) i j = zw1 g a xs ys i j := by
  unfold zim; rw [if_pos (zw9 hj hi)]
theorem zw2 {g : Nat → Nat → Nat} {a : Nat} {xs ys : Nat → Nat} {r : Nat} (i j : Nat) : zim g a xs ys r (j * r + i) i j = g i j := by unfold zim; rw [if_neg (by omega)]
theorem zp7 {g : Nat → Nat → Nat} {a : Nat} {xs ys : Nat → Nat} {r i j : Nat} (hi : i < r) (i' j' : Nat) (hi' : i' < r) : zmo (zim g a xs ys r (j * r + i)) i j (zw1 g a xs ys i j) i' j' = zim g a xs ys r (j * r + i + 1) i' j' := by
  unfold zmo zim
  by_cases h : i' = i ∧ j' = j
  · obtain ⟨rfl, rfl⟩ := h
    rw [if_pos ⟨rfl, rfl⟩, if_pos (by omega)]
  · rw [if_neg h]
    by_cases h2 : j' * r + i' < j * r + i
    · rw [if_pos h2, if_pos (by omega)]
    · rw [if_neg h2, if_neg]
      intro h3
      have h4 : j' * r + i' = j * r + i := by omega
      apply h
      have h5 := zm9 (c := r) (i := j') hi'
      have h6 := zm9 (c := r) (i := j) hi
      have h7 := zm8 (c := r) (i := j') hi'
      have h8 := zm8 (c := r) (i := j) hi
      rw [h4] at h5 h7
      exact ⟨by omega, by omega⟩
theorem zcp (g : Nat → Nat → Nat) (n : Nat) : zac (cmA g n n).length 0 (n : Int) (n : Int) ((max n 1 : Nat) : Int) := by
  have := zik n n []
  rw [zd7] at this
  simpa using this
theorem zi9 {g : Nat → Nat → Nat} {n : Nat} (hn : n ≤ 64) : MI (cmA g n n).length 0 (n : Int) (n : Int) ((max n 1 : Nat) : Int) := by
  have := zmw n n hn hn []
  rw [zd7] at this
  simpa using this
theorem zbq {g g' : Nat → Nat → Nat} {r c : Nat} (h : ∀ i j, i < r → j < c → g i j = g' i j) : cmA g r c = cmA g' r c := by
  unfold cmA
  refine zdo fun k hk => ?_
  have hr : 0 < r := by rcases Nat.eq_zero_or_pos r with h0 | h0; · subst h0; simp at hk
                        · exact h0
  exact h _ _ (Nat.mod_lt _ hr) (Nat.div_lt_of_lt_mul hk)
theorem zvu {n i j : Nat} (hn : 0 < n) : pos 0 ((max n 1 : Nat) : Int) i j = i + j * n := by
  unfold pos
  rw [show max n 1 = n by omega, ← Int.natCast_mul]
  omega
theorem zvb {n i j : Nat} (hi : i < n) (hj : j < n) : i + j * n < n * n := by
  have := zw9 hj hi; omega
theorem zlw {g : Nat → Nat → Nat} {n i j : Nat} (hi : i < n) (hj : j < n) : (cmA g n n).getD (i + j * n) 0 = g i j := by
  rw [cmA, zew (zvb hi hj), Nat.add_comm, zm9 hi, zm8 hi]
theorem zgq {g : Nat → Nat → Nat} {n i j : Nat} (hi : i < n) (hj : j < n) : mel (cmA g n n) 0 ((max n 1 : Nat) : Int) i j = g i j := by
  rw [zbr, zvu (by omega), zlw hi hj]
theorem zmk {g g' : Nat → Nat → Nat} {n : Nat} : zah (cmA g n n) 0 ((max n 1 : Nat) : Int) n n g' = cmA g' n n := by
  unfold zah cmA
  rw [zrp]
  refine zdo fun p hp => ?_
  have hn : 0 < n := by rcases Nat.eq_zero_or_pos n with h0 | h0; · subst h0; simp at hp
                        · exact h0
  have e : p = pos 0 ((max n 1 : Nat) : Int) (p % n) (p / n) := by
    rw [zvu hn]; have := Nat.div_add_mod p n; rw [Nat.mul_comm] at this; omega
  have hl := zfg (zcp g n) (i := p % n) (j := p / n) (Nat.mod_lt _ hn) (Nat.div_lt_of_lt_mul hp)
  rw [← e] at hl
  rw [hl]
theorem zn7 {g g' : Nat → Nat → Nat} {k n : Nat} (h : ∀ i j, i < n → j < n → g i j = g' i j) (hk : k < n) : zov g k n = zov g' k n := by
  unfold zov
  exact zdo fun i hi => h _ _ (by omega) hk
theorem zla {g g' : Nat → Nat → Nat} {k n : Nat} (h : ∀ i j, i < n → j < n → g i j = g' i j) (hk : k < n) : pvK g k n = pvK g' k n := by
  unfold pvK; rw [zn7 h hk]
theorem zlo {g g' : Nat → Nat → Nat} {k n : Nat} (h : ∀ i j, i < n → j < n → g i j = g' i j) (hk : k < n) (i j : Nat) (hi : i < n) (hj : j < n) : swK g k n i j = swK g' k n i j := by
  unfold swK
  rw [zla h hk]
  have := zlb (g := g') hk
  unfold zh3
  split
  · exact h _ _ this hj
  · split
    · exact h _ _ hk hj
    · exact h _ _ hi hj
theorem zoa {g g' : Nat → Nat → Nat} {k n : Nat} (h : ∀ i j, i < n → j < n → g i j = g' i j) (hk : k < n) (i j : Nat) (hi : i < n) (hj : j < n) : zgx g k i j = zgx g' k i j := by
  unfold zgx
  rw [h _ _ hi hk, h _ _ hk hk, h _ _ hi hj]
theorem zdx {m : Nat} {off ld : Int} {r c i0 j0 r' c' : Nat} (hG : zac m off r c ld) (hi : i0 + r' ≤ r) (hj : j0 + c' ≤ c) (hr : 0 < r') (hc : 0 < c') : zac m (off + ((i0 : Int) + (j0 : Int) * ld)) r' c' ld := by
  have h1 := zak hG (i := ((i0 + (r' - 1) : Nat) : Int)) (j := ((j0 + (c' - 1) : Nat) : Int)) (by omega) (by omega) (by omega) (by omega)
  have h2 := zak hG (i := (i0 : Int)) (j := (j0 : Int)) (by omega) (by omega) (by omega) (by omega)
  obtain ⟨g1, g2, g3, g4, g5, g6⟩ := hG
  have e : ((j0 + (c' - 1) : Nat) : Int) * ld = (j0 : Int) * ld + ((c' : Int) - 1) * ld := by
    rw [← Int.add_mul]; congr 1; omega
  have h3 : 0 ≤ ((c' : Int) - 1) * ld := Int.mul_nonneg (by omega) (by omega)
  refine ⟨by omega, by omega, by omega, g4, by omega, .inr (.inr ⟨by omega, by omega, by omega⟩)⟩
theorem zev {m : Nat} {off ld : Int} {r c i0 j0 r' c' : Nat} (hI : MI m off r c ld) (hG : zac m off r c ld) (hi : i0 + r' ≤ r) (hj : j0 + c' ≤ c) (hr : 0 < r') (hc : 0 < c') : MI m (off + ((i0 : Int) + (j0 : Int) * ld)) r' c' ld := by
  have h2 := zak hG (i := (i0 : Int)) (j := (j0 : Int)) (by omega) (by omega) (by omega) (by omega)
  obtain ⟨h1, ho1, ho2, hr1, hr2, hc1, hc2, hl1, hl2⟩ := hI
  refine ⟨h1, by omega, by omega, by omega, by omega, by omega, by omega, hl1, hl2⟩
def lcK (g : Nat → Nat → Nat) (k n : Nat) : List Nat := rml (fun i => g (k + 1 + i) k) (n - (k + 1))
def urK (g : Nat → Nat → Nat) (k t : Nat) : List Nat := rml (fun j => g k (k + 1 + j)) t
@[simp] theorem z3w (g : Nat → Nat → Nat) (k n : Nat) : (lcK g k n).length = n - (k + 1) := by simp [lcK]
@[simp] theorem zyh (g : Nat → Nat → Nat) (k t : Nat) : (urK g k t).length = t := by simp [urK]
theorem zpp {h : Nat → Nat → Nat} {k n : Nat} (hk : k < n) : ((cmA h n n).drop (k * n + (k + 1))).take (n - (k + 1)) = lcK h k n := by
  have hkn : k * n + n ≤ n * n := by
    have := Nat.mul_le_mul_right n (show k + 1 ≤ n by omega)
    rw [Nat.add_mul] at this; omega
  apply List.ext_getElem
  · simp; omega
  · intro i h1 h2
    have hi : i < n - (k + 1) := by simpa using h2
    have e := zlw (g := h) (i := k + 1 + i) (j := k) (n := n) (by omega) hk
    have hl : k * n + (k + 1) + i < (cmA h n n).length := by simp; omega
    rw [show k + 1 + i + k * n = k * n + (k + 1) + i by omega, List.getD_eq_getElem?_getD, List.getElem?_eq_getElem hl] at e
    simp only [List.getElem_take, List.getElem_drop, lcK, rml, List.getElem_map, List.getElem_range]
    simpa using e
def z4z (p : List Int) : Prop := ∀ k, k < p.length → ((k : Int) ≤ p.getD k 0 ∧ p.getD k 0 < p.length)
instance (p : List Int) : Decidable (z4z p) := by unfold z4z; infer_instance
theorem zkp (q : Nat → Prop) [DecidablePred q] : ∀ n, ∃ N, N ≤ n ∧ (∀ k, k < N → q k) ∧ (N < n → ¬ q N)
  | 0 => ⟨0, Nat.le_refl _, fun k hk => by omega, fun h => by omega⟩
  | n + 1 => by
    obtain ⟨N, h1, h2, h3⟩ := zkp q n
    by_cases h : N < n
    · exact ⟨N, by omega, h2, fun _ => h3 h⟩
    · have : N = n := by omega
      subst this
      by_cases hq : q N
      · exact ⟨N + 1, Nat.le_refl _, fun k hk => by rcases Nat.lt_succ_iff_lt_or_eq.1 hk with h | h; exact h2 k h; exact h ▸ hq, fun h => by omega⟩
      · exact ⟨N, by omega, h2, fun _ => hq⟩
theorem zoc {la lb : List Int} (hl : la.length = lb.length) (h : ∀ k, k < la.length → la.getD k 0 = lb.getD k 0) : la = lb := by
  apply List.ext_getElem hl
  intro i h1 h2
  have := h i h1
  simpa [List.getD, h1, h2] using this
def zow (f : Nat → Nat) (i x : Nat) : Nat → Nat := fun k => if k = i then x else f k
def lo1 (a : Nat → Nat → Nat) (f : Nat → Nat) : Nat → Nat → Nat
  | 0 => f
  | j + 1 => fun i => if j < i then zoe (lo1 a f j i) (zd8 (a i j) (lo1 a f j j)) else lo1 a f j i
def ziq (a : Nat → Nat → Nat) (f : Nat → Nat) (j i : Nat) : Nat → Nat := fun i' => if i' < i then lo1 a f (j + 1) i' else lo1 a f j i'
theorem zgp {a : Nat → Nat → Nat} {f : Nat → Nat} {j i : Nat} (h : i ≤ j) : lo1 a f (j + 1) i = lo1 a f j i := by
  show (if j < i then _ else _) = _
  rw [if_neg (by omega)]
theorem zhq {a : Nat → Nat → Nat} {f : Nat → Nat} {j i : Nat} (h : j < i) : lo1 a f (j + 1) i = zoe (lo1 a f j i) (zd8 (a i j) (lo1 a f j j)) := by
  show (if j < i then _ else _) = _
  rw [if_pos h]
theorem zjn {a : Nat → Nat → Nat} {f : Nat → Nat} {j i : Nat} (h : i ≤ j) : lo1 a f j i = lo1 a f i i := by
  induction j with
  | zero => have : i = 0 := by omega
            subst this; rfl
  | succ j ih =>
    by_cases e : i = j + 1
    · subst e; rfl
    · rw [zgp (by omega), ih (by omega)]
theorem zog {a : Nat → Nat → Nat} {f : Nat → Nat} {j : Nat} (i' : Nat) : ziq a f j (j + 1) i' = lo1 a f j i' := by
  unfold ziq
  split
  · rw [zgp (by omega)]
  · rfl
theorem zqr {a : Nat → Nat → Nat} {f : Nat → Nat} {j i : Nat} (h : j < i) (i' : Nat) :
    zow (ziq a f j i) i (zoe (ziq a f j i i) (zd8 (a i j) (ziq a f j i j))) i' = ziq a f j (i + 1) i' := by
  unfold zow
  split
  · rename_i e; subst e
    have e1 : ziq a f j i' i' = lo1 a f j i' := by unfold ziq; rw [if_neg (by omega)]
    have e2 : ziq a f j i' j = lo1 a f j j := by unfold ziq; rw [if_pos (by omega), zgp (by omega)]
    have e3 : ziq a f j (i' + 1) i' = lo1 a f (j + 1) i' := by unfold ziq; rw [if_pos (by omega)]
    rw [e1, e2, e3, zhq h]
  · rename_i e
    unfold ziq
    by_cases h1 : i' < i
    · rw [if_pos h1, if_pos (by omega)]
    · rw [if_neg h1, if_neg (by omega)]
theorem zqq {a : Nat → Nat → Nat} {f : Nat → Nat} {j n : Nat} (i' : Nat) (h : i' < n) : ziq a f j n i' = lo1 a f (j + 1) i' := by
  unfold ziq; rw [if_pos h]
def zaw (l : List Nat) (off inc : Int) (n : Nat) (f : Nat → Nat) : List Nat := zah l off inc 1 n (fun _ j => f j)
def vf (l : List Nat) (off inc : Int) : Nat → Nat := fun j => mel l off inc 0 j
@[simp] theorem z2d (l : List Nat) (off inc : Int) (n : Nat) (f : Nat → Nat) : (zaw l off inc n f).length = l.length := by simp [zaw]
theorem zal.good {m : Nat} {off n inc : Int} (h : zal m off n inc) : zac m off 1 n inc := by
  obtain ⟨h1, h2, h3, h4⟩ := h
  refine ⟨by omega, h1, h3, h2, h2, ?_⟩
  rcases h4 with h4 | ⟨h4, h5⟩
  · exact .inr (.inl h4)
  · exact .inr (.inr ⟨h4, by omega, by omega⟩)
theorem zal.goodN {m n : Nat} {off inc : Int} (h : zal m off n inc) : zac m off ((1 : Nat) : Int) (n : Int) inc := h.good
theorem VI.mat {m : Nat} {off n inc : Int} (h : VI m off n inc) : MI m off 1 n inc := by
  obtain ⟨a, b, c, d, e, f, g⟩ := h
  exact ⟨a, b, c, by omega, by omega, d, e, f, g⟩
section
variable {l : List Nat} {off inc : Int} {n : Nat} (hR : zal l.length off n inc)
theorem zrv (h3 : 0 ≤ off) (h4 : 1 ≤ inc) : zaw l off inc n (vf l off inc) = l := by
  have h := zd3 (L := l) (off := off) (ld := inc) (r := 1) (c := n) h4 h3
  rw [← h]
  unfold zaw
  rw [h]
  refine (zam h4 h3 fun i j hi hj => ?_).trans h
  have : i = 0 := by omega
  subst this; rfl
theorem zbh (h3 : 0 ≤ off) (h4 : 1 ≤ inc) {f g : Nat → Nat} (h : ∀ i, i < n → f i = g i) : zaw l off inc n f = zaw l off inc n g :=
  zam h4 h3 fun i j hi hj => h j hj
include hR in
theorem zg8 {f : Nat → Nat} {i x : Nat} (hi : i < n) : (zaw l off inc n f).set (pos off inc 0 i) x = zaw l off inc n (zow f i x) := by
  have h := zf5 (L := l) (g := fun _ j => f j) (r := 1) (c := n) hR.goodN (i := 0) (j := i) (x := x) (by omega) hi
  unfold zaw
  rw [h]
  refine zam hR.2.1 hR.2.2.1 fun i' j' hi' hj' => ?_
  have : i' = 0 := by omega
  subst this
  simp [zmo, zow]
include hR in
theorem znn {f : Nat → Nat} {k : Nat} (hk : k < n) : (zaw l off inc n f).getD (pos off inc 0 k) 0 = f k := by
  have h := zc6 (L := l) (g := fun _ j => f j) (r := 1) (c := n) hR.goodN (i := 0) (j := k) (by omega) hk
  exact h
include hR in
theorem zeh {k : Nat} (hk : k < n) : pos off inc 0 k < l.length := zb2 (r := 1) (c := n) hR.goodN (by omega) hk
include hR in
theorem zyl {k : Nat} (hk : k < n) : off + (k : Int) * inc = ((pos off inc 0 k : Nat) : Int) := by
  have h := zbv hR (i := (k : Int)) (by omega) (by omega)
  unfold pos
  omega
end
def zuz (a b c d : Int) : Prop := a ≤ b ∧ c ≤ d ∧ a ≤ d ∧ c ≤ b
instance (a b c d : Int) : Decidable (zuz a b c d) := by unfold zuz; infer_instance
theorem zoq {L : List Nat} {off ld : Int} {r c p : Nat} {g : Nat → Nat → Nat} (h3 : 0 ≤ off) (h4 : 1 ≤ ld) (h : ∀ i j, i < r → j < c → p ≠ pos off ld i j) : (zah L off ld r c g).getD p 0 = L.getD p 0 := by
  by_cases hp : p < L.length
  · unfold zah
    rw [zew hp]
    cases e : loc off ld r c p with
    | none => rfl
    | some q =>
      obtain ⟨i, j⟩ := q
      obtain ⟨h1, h2, h5⟩ := zd2 h4 h3 e
      exact absurd h5 (h i j h1 h2)
  · have h1 : (zah L off ld r c g).length ≤ p := by simp; omega
    simp only [List.getD_eq_getElem?_getD, List.getElem?_eq_none h1, List.getElem?_eq_none (show L.length ≤ p by omega)]
theorem zly {H : List (List AV)} {b g : Nat} {l : List Nat} (h : H[b]? = some (fl l)) (hg : l.length = g) : zls H b g = true := by
  simp [zls, h, hg]
theorem znk {H : List (List AV)} {b c g g' o o' s s' z z' : Nat} {l l' : List Nat} (hb : H[b]? = some (fl l)) (hg : l.length = g) (hc : H[c]? = some (fl l')) (hg' : l'.length = g') (hn : b ≠ c) : ptrEq H (.slm b g o s z) 0 (.slm c g' o' s' z') 0 = some false := by
  simp [ptrEq, zly hb hg, zly hc hg', hn]
theorem zj0 {H : List (List AV)} {b g : Nat} {l : List Nat} (hb : H[b]? = some (fl l)) (hg : l.length = g) : ptrEq H (.slm b g 0 g 1) 0 (.slm b g 0 g 1) 0 = some true := by
  simp [ptrEq, zly hb hg]
def z4p (i0 j0 i j : Nat) : Prop := i < i0 ∨ (i = i0 ∧ j < j0)
instance (i0 j0 i j : Nat) : Decidable (z4p i0 j0 i j) := by unfold z4p; infer_instance
theorem zaa.spec {P : Program} {f : Nat} {a : List AV} {H H' : List (List AV)} {r : AV} (he : Enters P f) (h : zaa P f a H r H') : Spec P f a H r H' := by
  rcases h with ⟨_, h⟩ | ⟨_, h⟩
  · exact h
  · intro w g c hw hl
    obtain ⟨v, h1, _⟩ := h w g c hl
    rw [he] at h1; cases h1
theorem zaa.args {P : Program} {f : Nat} {a a' : List AV} {H H' : List (List AV)} {r : AV} (h : zaa P f a H r H') (ha : ∀ w g vs, zba w g a' vs → zba w g a vs) : zaa P f a' H r H' := by
  rcases h with ⟨he, h⟩ | ⟨he, h⟩
  · exact .inl ⟨he, fun w g c hw hl => h w g c hw (ha _ _ _ hl)⟩
  · exact .inr ⟨he, fun w g c hl => h w g c (ha _ _ _ hl)⟩
theorem zpn (b : Nat) : cn (cn b) = cn b := by
  rcases zc3 b with ⟨h1, h2⟩ | ⟨h1, h2⟩
  · rw [h2]; decide
  · rw [h2, h2]
theorem zwi {b : Nat} (h : b < 2 ^ 64) : cn b < 2 ^ 64 := by
  unfold cn; split
  · decide
  · exact h
theorem ziz : ∀ {l m : List Int}, l.Pairwise (· < ·) → m.Pairwise (· < ·) → (∀ x, x ∈ l ↔ x ∈ m) → l = m
  | [], [], _, _, _ => rfl
  | [], y :: m, _, _, h => by have := (h y).2 (by simp); simp at this
  | x :: l, [], _, _, h => by have := (h x).1 (by simp); simp at this
  | x :: l, y :: m, hl, hm, h => by
    have hl' := List.pairwise_cons.1 hl
    have hm' := List.pairwise_cons.1 hm
    have e : x = y := by
      have h1 := (h x).1 (by simp)
      have h2 := (h y).2 (by simp)
      rcases List.mem_cons.1 h1 with h1 | h1
      · exact h1
      · rcases List.mem_cons.1 h2 with h2 | h2
        · exact h2.symm
        · have := hm'.1 x h1; have := hl'.1 y h2; omega
    subst e
    congr 1
    refine ziz hl'.2 hm'.2 fun z => ⟨fun hz => ?_, fun hz => ?_⟩
    · rcases List.mem_cons.1 ((h z).1 (List.mem_cons_of_mem _ hz)) with rfl | h3
      · have := hl'.1 z hz; omega
      · exact h3
    · rcases List.mem_cons.1 ((h z).2 (List.mem_cons_of_mem _ hz)) with rfl | h3
      · have := hm'.1 z hz; omega
      · exact h3
def srt (l : List Int) : List Int := l.mergeSort fun x y => decide (x ≤ y)
theorem zmm (l : List Int) : (srt l).length = l.length := List.length_mergeSort _
theorem zya {l : List Int} {x : Int} : x ∈ srt l ↔ x ∈ l := List.mem_mergeSort
theorem zi0 (l : List Int) : (srt l).Pairwise (· ≤ ·) := by
  have h := List.pairwise_mergeSort (le := fun (x y : Int) => decide (x ≤ y)) (fun a b c h1 h2 => by simp at *; omega) (fun a b => by simp; omega) l
  exact h.imp (by intro a b hab; simpa using hab)
theorem zel (s : List Int) (hs : s.Pairwise (· ≤ ·)) : ∀ m, m ≤ s.length →
    (Lib.compactUpTo s.toArray m).Pairwise (· < ·) ∧ (∀ x, x ∈ Lib.compactUpTo s.toArray m ↔ ∃ j, j < m ∧ s.getD j 0 = x) ∧ (Lib.compactUpTo s.toArray m).length ≤ m
  | 0, _ => by simp [Lib.compactUpTo]
  | m + 1, hm => by
    obtain ⟨h1, h2, h3⟩ := zel s hs m (by omega)
    have hg : ∀ j, j < s.length → s.toArray[j]! = s.getD j 0 := fun j hj => by simp [List.getD, hj, getElem!_def]
    have hle : ∀ i j, i ≤ j → j < s.length → s.getD i 0 ≤ s.getD j 0 := by
      intro i j hij hj
      rcases Nat.eq_or_lt_of_le hij with rfl | hlt
      · exact Int.le_refl _
      · have := List.pairwise_iff_getElem.1 hs i j (by omega) hj hlt
        simpa [List.getD, hj, show i < s.length by omega] using this
    rw [Lib.compactUpTo_succ]
    by_cases hk : Lib.keeps s.toArray m = true
    · rw [if_pos hk, hg m (by omega)]
      refine ⟨?_, ?_, by simp; omega⟩
      · rw [List.pairwise_append]
        refine ⟨h1, by simp, fun x hx y hy => ?_⟩
        simp only [List.mem_singleton] at hy; subst hy
        obtain ⟨j, hj, rfl⟩ := (h2 x).1 hx
        have hm0 : m ≠ 0 := by omega
        have h4 : s.getD m 0 ≠ s.getD (m - 1) 0 := by
          have : m = 0 ∨ s.toArray[m]! ≠ s.toArray[m - 1]! := by simpa [Lib.keeps] using hk
          rcases this with h | h
          · exact absurd h hm0
          · rwa [hg m (by omega), hg (m - 1) (by omega)] at h
        have h5 := hle j (m - 1) (by omega) (by omega)
        have h6 := hle (m - 1) m (by omega) (by omega)
        omega
      · intro x
        simp only [List.mem_append, List.mem_singleton]
        constructor
        · rintro (hx | rfl)
          · obtain ⟨j, hj, e⟩ := (h2 x).1 hx; exact ⟨j, by omega, e⟩
          · exact ⟨m, by omega, rfl⟩
        · rintro ⟨j, hj, rfl⟩
          by_cases e : j = m
          · subst e; exact .inr rfl
          · exact .inl ((h2 _).2 ⟨j, by omega, rfl⟩)
    · rw [if_neg hk, List.append_nil]
      refine ⟨h1, fun x => ?_, by omega⟩
      rw [h2 x]
      have h4 : ¬ (m = 0) ∧ s.getD m 0 = s.getD (m - 1) 0 := by
        have : ¬ (m = 0 ∨ s.toArray[m]! ≠ s.toArray[m - 1]!) := by simpa [Lib.keeps] using hk
        refine ⟨fun h => this (.inl h), ?_⟩
        have h5 : s.toArray[m]! = s.toArray[m - 1]! := Decidable.not_not.1 fun h => this (.inr h)
        rwa [hg m (by omega), hg (m - 1) (by omega)] at h5
      constructor
      · rintro ⟨j, hj, e⟩; exact ⟨j, by omega, e⟩
      · rintro ⟨j, hj, rfl⟩
        by_cases e : j = m
        · subst e; exact ⟨j - 1, by omega, h4.2.symm⟩
        · exact ⟨j, by omega, rfl⟩
theorem zgh (s : List Int) (hs : s.Pairwise (· ≤ ·)) : (Lib.compact s).Pairwise (· < ·) ∧ (∀ x, x ∈ Lib.compact s ↔ x ∈ s) ∧ (Lib.compact s).length ≤ s.length := by
  obtain ⟨h1, h2, h3⟩ := zel s hs s.length (Nat.le_refl _)
  refine ⟨h1, fun x => ?_, h3⟩
  show x ∈ Lib.compactUpTo s.toArray s.length ↔ _
  rw [h2 x, List.mem_iff_getElem]
  constructor
  · rintro ⟨j, hj, rfl⟩; exact ⟨j, hj, by simp [List.getD, hj]⟩
  · rintro ⟨j, hj, rfl⟩; exact ⟨j, hj, by simp [List.getD, hj]⟩
theorem zib (s : List Int) : (Lib.compact s).length ≤ s.length := by
  have : ∀ m, (Lib.compactUpTo s.toArray m).length ≤ m := by
    intro m
    unfold Lib.compactUpTo
    rw [List.length_map]
    exact Nat.le_trans (List.length_filter_le _ _) (by simp)
  exact this _
def cI (n m k : Nat) : List Int := (n : Int) :: (List.range k).map fun i => ((i * m : Nat) : Int)
def okB (n : Nat) (x : Int) : Bool := decide (0 ≤ x ∧ x ≤ n)
def cM (n m K : Nat) (more : List Int) (j : Nat) : List Int := cI n m K ++ (more.take j).filter (okB n)
def zyo (n m : Nat) (more : List Int) (k : Int) : Prop := k = n ∨ (∃ i : Nat, i * m < n ∧ k = ((i * m : Nat) : Int)) ∨ (k ∈ more ∧ 0 ≤ k ∧ k ≤ n)
theorem zzq {n m : Nat} (hm : 0 < m) (more : List Int) (x : Int) : x ∈ cM n m ((n + m - 1) / m) more more.length ↔ zyo n m more x := by
  unfold cM cI zyo okB
  rw [List.take_length]
  simp only [List.mem_append, List.mem_cons, List.mem_map, List.mem_range, List.mem_filter, decide_eq_true_eq]
  have hK : ∀ i, i < (n + m - 1) / m ↔ i * m < n := by
    intro i
    rw [Nat.lt_iff_add_one_le, Nat.le_div_iff_mul_le hm, Nat.add_mul]
    omega
  constructor
  · rintro ((rfl | ⟨i, hi, rfl⟩) | h)
    · exact .inl rfl
    · exact .inr (.inl ⟨i, (hK i).1 hi, rfl⟩)
    · exact .inr (.inr h)
  · rintro (rfl | ⟨i, hi, rfl⟩ | h)
    · exact .inl (.inl rfl)
    · exact .inl (.inr ⟨i, (hK i).2 hi, rfl⟩)
    · exact .inr h
def dL (n m : Nat) (more : List Int) : List Int := Lib.compact (srt (cM n m ((n + m - 1) / m) more more.length))
def zka : List Int → List (Int × Int)
  | [] => []
  | [_] => []
  | x :: y :: l => (x, y - x) :: zka (y :: l)
theorem zf1 : ∀ l : List Int, (zka l).length = l.length - 1
  | [] => rfl
  | [_] => rfl
  | x :: y :: l => by
    have := zf1 (y :: l)
    simp only [zka, List.length_cons] at *; omega
theorem zjz : ∀ (l : List Int) (j : Nat), j + 1 < l.length → (zka l)[j]? = some (l.getD j 0, l.getD (j + 1) 0 - l.getD j 0)
  | [], j, h => by simp at h
  | [_], j, h => by simp at h
  | x :: y :: l, 0, h => by simp [zka, List.getD]
  | x :: y :: l, j + 1, h => by
    have := zjz (y :: l) j (by simp at h ⊢; omega)
    simp only [zka, List.getElem?_cons_succ, this, List.getD_cons_succ]
open Classical in
noncomputable def zsh (S : Int → Prop) : Nat → List Int
  | 0 => [0]
  | k + 1 => if S ((k + 1 : Nat) : Int) then zsh S k ++ [((k + 1 : Nat) : Int)] else zsh S k
theorem zf4 (S : Int → Prop) (h0 : S 0) : ∀ k, (zsh S k).Pairwise (· < ·) ∧ (∀ x, x ∈ zsh S k ↔ (0 ≤ x ∧ x ≤ k ∧ S x)) ∧ zsh S k ≠ []
  | 0 => by
    refine ⟨by simp [zsh], fun x => ?_, by simp [zsh]⟩
    simp only [zsh, List.mem_singleton]
    constructor
    · rintro rfl; exact ⟨by omega, by omega, h0⟩
    · rintro ⟨h1, h2, _⟩; omega
  | k + 1 => by
    obtain ⟨h1, h2, h3⟩ := zf4 S h0 k
    unfold zsh
    split
    · rename_i hS
      refine ⟨?_, fun x => ?_, by simp⟩
      · rw [List.pairwise_append]
        refine ⟨h1, by simp, fun x hx y hy => ?_⟩
        simp only [List.mem_singleton] at hy; subst hy
        have := (h2 x).1 hx; omega
      · simp only [List.mem_append, List.mem_singleton, h2 x]
        constructor
        · rintro (⟨a, b, c⟩ | rfl)
          · exact ⟨a, by omega, c⟩
          · exact ⟨by omega, by omega, hS⟩
        · rintro ⟨a, b, c⟩
          by_cases e : x = ((k + 1 : Nat) : Int)
          · exact .inr e
          · exact .inl ⟨a, by omega, c⟩
    · rename_i hS
      refine ⟨h1, fun x => ?_, h3⟩
      rw [h2 x]
      constructor
      · rintro ⟨a, b, c⟩; exact ⟨a, by omega, c⟩
      · rintro ⟨a, b, c⟩
        by_cases e : x = ((k + 1 : Nat) : Int)
        · subst e; exact absurd c hS
        · exact ⟨a, by omega, c⟩
theorem zro {n m : Nat} (hm : 0 < m) (hn : 0 < n) (more : List Int) : zsh (zyo n m more) n = dL n m more := by
  have h0 : zyo n m more 0 := .inr (.inl ⟨0, by omega, by simp⟩)
  obtain ⟨h1, h2, h3⟩ := zf4 _ h0 n
  obtain ⟨h4, h5, h6⟩ := zgh _ (zi0 (cM n m ((n + m - 1) / m) more more.length))
  refine ziz h1 h4 fun x => ?_
  unfold dL
  rw [h2 x, h5 x, zya, zzq hm]
  constructor
  · exact fun h => h.2.2
  · intro h
    rcases h with rfl | ⟨i, hi, rfl⟩ | ⟨h, h', h''⟩
    · exact ⟨by omega, by omega, .inl rfl⟩
    · exact ⟨by omega, by omega, .inr (.inl ⟨i, hi, rfl⟩)⟩
    · exact ⟨h', h'', .inr (.inr ⟨h, h', h''⟩)⟩
end Go.Sx
namespace Go.Sx
@[simp] theorem zzp (n m k : Nat) : (cI n m k).length = k + 1 := by simp [cI]
theorem zwg (n m k : Nat) : il (cI n m k) ++ [.int .i64 ((k * m : Nat) : Int)] = il (cI n m (k + 1)) := by
  simp [il, cI, List.range_succ]
theorem zwh (n m K : Nat) (more : List Int) : cM n m K more 0 = cI n m K := by simp [cM]
theorem z2w {n m K : Nat} {more : List Int} {j : Nat} (hj : j < more.length) (h : 0 ≤ more.getD j 0 ∧ more.getD j 0 ≤ n) : cM n m K more (j + 1) = cM n m K more j ++ [more.getD j 0] := by
  have e : more.getD j 0 = more[j] := by simp [List.getD, hj]
  rw [e] at h ⊢
  simp only [cM, List.take_add_one, List.getElem?_eq_getElem hj, Option.toList_some, List.filter_append, List.append_assoc]
  have : okB n more[j] = true := decide_eq_true h
  simp [this]
theorem z2v {n m K : Nat} {more : List Int} {j : Nat} (hj : j < more.length) (h : ¬ (0 ≤ more.getD j 0 ∧ more.getD j 0 ≤ n)) : cM n m K more (j + 1) = cM n m K more j := by
  have e : more.getD j 0 = more[j] := by simp [List.getD, hj]
  rw [e] at h
  simp only [cM, List.take_add_one, List.getElem?_eq_getElem hj, Option.toList_some, List.filter_append]
  have : okB n more[j] = false := decide_eq_false h
  simp [this]
theorem zpj (n m K : Nat) (more : List Int) (j : Nat) : (cM n m K more j).length ≤ K + 1 + more.length := by
  simp only [cM, List.length_append, zzp]
  have h1 := List.length_filter_le (okB n) (more.take j)
  have h2 : (more.take j).length ≤ more.length := by simp; omega
  omega
theorem K_le {n m : Nat} (hm : 0 < m) : (n + m - 1) / m ≤ n := by
  rcases Nat.eq_zero_or_pos n with rfl | hn
  · rw [Nat.div_eq_of_lt (by omega)]; omega
  · refine Nat.div_le_of_le_mul ?_
    have h1 : n - 1 ≤ m * (n - 1) := Nat.le_mul_of_pos_left _ hm
    have h2 : m * n = m * (n - 1) + m := by rw [← Nat.mul_succ]; congr 1; omega
    omega
theorem z5d {n m i : Nat} (hm : 0 < m) : i < (n + m - 1) / m ↔ i * m < n := by
  rw [Nat.lt_iff_add_one_le, Nat.le_div_iff_mul_le hm, Nat.add_mul]
  omega
theorem zja {n m : Nat} (hm : 0 < m) (hn : 0 < n) (more : List Int) : 2 ≤ (dL n m more).length ∧ (dL n m more).length ≤ (cM n m ((n + m - 1) / m) more more.length).length ∧
    (∀ j, j < (dL n m more).length → 0 ≤ (dL n m more).getD j 0 ∧ (dL n m more).getD j 0 ≤ n) ∧ (dL n m more).Pairwise (· < ·) := by
  obtain ⟨h4, h5, h6⟩ := zgh _ (zi0 (cM n m ((n + m - 1) / m) more more.length))
  have h0 : zyo n m more 0 := .inr (.inl ⟨0, by omega, by simp⟩)
  obtain ⟨h1, h2, h3⟩ := zf4 _ h0 n
  rw [zro hm hn] at h1 h2 h3
  have m0 := (h2 0).2 ⟨by omega, by omega, h0⟩
  have mn := (h2 n).2 ⟨by omega, by omega, .inl rfl⟩
  refine ⟨?_, by rw [zmm] at h6; exact h6, fun j hj => ?_, h1⟩
  · match hd : dL n m more with
    | [] => rw [hd] at m0; simp at m0
    | [x] => rw [hd] at m0 mn; simp at m0 mn; omega
    | _ :: _ :: _ => simp
  · have e : (dL n m more).getD j 0 = (dL n m more)[j] := by simp [List.getD, hj]
    rw [e]
    have := (h2 _).1 (List.getElem_mem hj)
    exact ⟨this.1, this.2.1⟩
theorem zus {d : List Int} {j : Nat} (h : j + 1 < d.length) : (zka d).take j ++ [(d.getD j 0, d.getD (j + 1) 0 - d.getD j 0)] = (zka d).take (j + 1) := by
  rw [List.take_add_one, zjz d j h]; rfl
theorem zur {d : List Int} : (zka d).take (d.length - 1) = zka d := by
  rw [← zf1]; exact List.take_length
theorem zh1 {d : List Int} (hd : d.Pairwise (· < ·)) {k : Nat} (hk : k + 1 < d.length) {y : Int} (hy : y ∈ d) (h : d.getD k 0 < y) : d.getD (k + 1) 0 ≤ y := by
  obtain ⟨j, hj, rfl⟩ := List.mem_iff_getElem.1 hy
  have e1 : d.getD k 0 = d[k] := by simp [List.getD, show k < d.length by omega]
  have e2 : d.getD (k + 1) 0 = d[k + 1] := by simp [List.getD, hk]
  rw [e1] at h; rw [e2]
  rcases Nat.lt_or_ge j (k + 1) with hlt | hge
  · rcases Nat.eq_or_lt_of_le (Nat.le_of_lt_succ hlt) with rfl | hl
    · omega
    · have := List.pairwise_iff_getElem.1 hd j k hj (by omega) hl; omega
  · rcases Nat.eq_or_lt_of_le hge with rfl | hl
    · exact Int.le_refl _
    · have := List.pairwise_iff_getElem.1 hd (k + 1) j hk hj hl; omega
theorem zwp {n m : Nat} (hm : 0 < m) (hn : 0 < n) (more : List Int) : (dL n m more).getD 0 0 = 0 ∧ (dL n m more).getD ((dL n m more).length - 1) 0 = n ∧
    ∀ k, k + 1 < (dL n m more).length → (dL n m more).getD k 0 < (dL n m more).getD (k + 1) 0 ∧ (dL n m more).getD (k + 1) 0 - (dL n m more).getD k 0 ≤ m := by
  obtain ⟨g1, g2, g3, g4⟩ := zja (n := n) (m := m) hm hn more
  have h0 : zyo n m more 0 := .inr (.inl ⟨0, by omega, by simp⟩)
  obtain ⟨h1, h2, h3⟩ := zf4 _ h0 n
  rw [zro hm hn] at h1 h2 h3
  have m0 := (h2 0).2 ⟨by omega, by omega, h0⟩
  have mn := (h2 n).2 ⟨by omega, by omega, .inl rfl⟩
  have hge : ∀ j, (hj : j < (dL n m more).length) → (dL n m more).getD j 0 = (dL n m more)[j] := fun j hj => by simp [List.getD, hj]
  have hmono : ∀ i j, i < j → (hj : j < (dL n m more).length) → (dL n m more).getD i 0 < (dL n m more).getD j 0 := fun i j hij hj => by
    rw [hge i (by omega), hge j hj]; exact List.pairwise_iff_getElem.1 g4 i j (by omega) hj hij
  refine ⟨?_, ?_, fun k hk => ⟨hmono k (k + 1) (by omega) hk, ?_⟩⟩
  · obtain ⟨j, hj, e⟩ := List.mem_iff_getElem.1 m0
    rw [← hge j hj] at e
    rcases Nat.eq_zero_or_pos j with rfl | hp
    · exact e
    · have := hmono 0 j hp hj; have := g3 0 (by omega); omega
  · obtain ⟨j, hj, e⟩ := List.mem_iff_getElem.1 mn
    rw [← hge j hj] at e
    rcases Nat.eq_or_lt_of_le (show j ≤ (dL n m more).length - 1 by omega) with rfl | hp
    · exact e
    · have := hmono j _ hp (by omega); have := g3 ((dL n m more).length - 1) (by omega); omega
  · obtain ⟨a1, a2⟩ := g3 k (by omega)
    have hlt : (dL n m more).getD k 0 < n := by have := hmono k (k + 1) (by omega) hk; have := g3 (k + 1) hk; omega
    obtain ⟨x, hx⟩ : ∃ x : Nat, (dL n m more).getD k 0 = (x : Int) := ⟨((dL n m more).getD k 0).toNat, by omega⟩
    have hdm := Nat.div_add_mod x m
    have hml := Nat.mod_lt x hm
    have he : (x / m + 1) * m = m * (x / m) + m := by rw [Nat.add_mul, Nat.one_mul, Nat.mul_comm]
    by_cases hc : (x / m + 1) * m < n
    · have hin : (((x / m + 1) * m : Nat) : Int) ∈ dL n m more := (h2 _).2 ⟨by omega, by omega, .inr (.inl ⟨x / m + 1, hc, rfl⟩)⟩
      have := zh1 g4 hk hin (by omega)
      omega
    · have := zh1 g4 hk mn (by omega)
      omega
end Go.Sx
set_option linter.unusedVariables false
set_option linter.unusedSimpArgs false
namespace Go.Sx
structure DV where
  neg : Bool
  l : List Int
  e : Int
def z5b : List Int → Int
  | [] => 0
  | d :: l => d + 65536 * z5b l
def zv0 (l : List Int) : Prop := ∀ d ∈ l, 0 ≤ d ∧ d < 65536
def z2z (l : List Int) (a b : Nat) : List Int := (l.drop a).take (l.length - a - b)
@[simp] theorem z15 (l : List Int) (a b : Nat) : (z2z l a b).length = l.length - a - b := by simp only [z2z, List.length_take, List.length_drop]; omega
structure Strip (l : List Int) (a b : Nat) : Prop where
  lt : a + b < l.length
  fst : ∀ k, k < a → l.getD k 0 = 0
  fne : l.getD a 0 ≠ 0
  lst : ∀ k, k < b → l.getD (l.length - 1 - k) 0 = 0
  lne : l.getD (l.length - 1 - b) 0 ≠ 0
def lead : List Int → Nat
  | [] => 0
  | d :: l => if d = 0 then lead l + 1 else 0
def mk (l : List Int) : List Int := z2z l (lead l) (lead l.reverse)
def mn (neg : Bool) (l : List Int) : Bool := if lead l = l.length then false else neg
def p2 (k : Int) : Rat := (2 : Rat) ^ k
def pw (e : Int) : Rat := p2 (16 * e)
def mag (d : DV) : Rat := ((z5b d.l : Int) : Rat) * pw d.e
def sgn (b : Bool) (x : Rat) : Rat := if b then -x else x
def V (d : DV) : Rat := sgn d.neg (mag d)
structure In (d : DV) (B : Int) : Prop where
  dig : zv0 d.l
  nil : d.l = [] → d.neg = false ∧ d.e = 0
  ne : d.l ≠ [] → d.l.getD 0 0 ≠ 0 ∧ d.l.getD (d.l.length - 1) 0 ≠ 0
  lo : d.l ≠ [] → -B ≤ d.e
  hi : d.l ≠ [] → d.e + d.l.length ≤ B
theorem In.mono {d : DV} {B C : Int} (h : In d B) (hBC : B ≤ C) : In d C :=
  ⟨h.dig, h.nil, h.ne, fun hl => by have := h.lo hl; omega, fun hl => by have := h.hi hl; omega⟩
theorem In.len {d : DV} {B : Int} (h : In d B) (h0 : 0 ≤ B) (hB : B ≤ 2 ^ 19) : d.l.length ≤ 2 ^ 20 := by
  by_cases hl : d.l = []
  · rw [hl]; simp
  · have := h.lo hl; have := h.hi hl; omega
theorem zv0.drop {l : List Int} (h : zv0 l) (k : Nat) : zv0 (l.drop k) := fun d hd => h d (List.mem_of_mem_drop hd)
theorem zv0.take {l : List Int} (h : zv0 l) (k : Nat) : zv0 (l.take k) := fun d hd => h d (List.mem_of_mem_take hd)
section
variable {a b : Nat → Int} (ha : ∀ j, 0 ≤ a j ∧ a j < 65536) (hb : ∀ j, 0 ≤ b j ∧ b j < 65536)
include ha hb in
end
def z4y (b : Nat) : Bool := decide ((b : Int) / 9223372036854775808 = 1)
def pE₀ (b : Nat) : Int := (b : Int) / 4503599627370496 % 2048
def pM₀ (b : Nat) : Int := (b : Int) % 4503599627370496
def pM (b : Nat) : Int := if pE₀ b = 2047 then 0 else if pE₀ b = 0 then pM₀ b else pM₀ b + 4503599627370496
def pE (b : Nat) : Int := if pE₀ b = 2047 then 0 else if pE₀ b = 0 then -1074 else pE₀ b - 1075
def pK (b : Nat) : Int := if pE₀ b = 2047 ∧ pM₀ b = 0 then 1 else if pE₀ b = 2047 then 2 else 0
end Go.Sx
