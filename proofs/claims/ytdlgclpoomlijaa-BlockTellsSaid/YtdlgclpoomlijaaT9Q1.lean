/-
  BlockTells: whatever the input, the law returns true and each argument reads as it read before.
  No condition is set.
-/
import Derived.Test.YtdlgclpoomlijaaRows
import Derived.Test.YtdlgclpoomlijaaYF
import Derived.Test.YtdlgclpoomlijaaYH
set_option linter.unusedVariables false
namespace Go.Proofs.Ytdlgclpoomlijaa.blockTells
open Go.Sx Go.ChangeShapes Go.WideShapes Go.ChangeAt Go.RowKit Go.Deep
theorem own : ownKnob Try.prog.godebug = none := by kernel_rfl
theorem laid : laidOutB Try.prog = true := by kernel_rfl
set_option maxRecDepth 100000 in
theorem lifted (os : Os) (started : os.Started) (H : Type) (enc : TypeId × Value → H) :
    ReturnsInHanded {} Try.checked os 3 .any (Rows.blockTellsSpec.pre6 enc Try.prog Try.f3 Rows.blockTellsRow.domain false) (Rows.blockTellsSpec.post enc Try.prog Try.f3 false true false false) := by
  refine returnsInHanded_of_change (C := Try.checked) own started (by kernel_rfl) Try.func3
    (ChangeSpec.witness6 (enc := enc) (C := Try.checked) false ⟨#[], #[.agg #[.int .i64 0, .int .i64 0, .int .i64 0], .float .f64 0, .agg #[.slice none 0 0, .int .i64 0, .int .i64 0, .int .i64 0, .int .i64 0], .agg #[.slice none 0 0, .int .i64 0, .int .i64 0, .int .i64 0, .int .i64 0], .float .f64 0, .agg #[.slice none 0 0, .int .i64 0, .int .i64 0, .int .i64 0, .int .i64 0], .int .i64 0], []⟩ 8 (by kernel_rfl) (by kernel_rfl) (by kernel_rfl) (by kernel_rfl)) ?_
  intro W base args ds gs before hval0 hW hcnd _
  have hval : ∀ (j : Nat) t v, Try.f3.params[j]? = some t → args[j]? = some v → Value.okWide Try.prog W .any base t v := hval0
  have hW' := hW
  obtain ⟨p, q, hA0, hV, rfl, hfz, hnd⟩ := hW
  have hA : DataW.TrodAll enc Try.prog W 0 (fun _ => true) true Try.f3.params.toList args.toList ds p := hA0
  rw [show Try.f3.params = #[22, 23, 26, 26, 23, 26, 3] from by kernel_rfl] at hA hval
  obtain ⟨v0, vs0, d0, ds0, p0, q0, hargs, rfl, rfl, h0, r0⟩ := trodAll_cons hA
  obtain ⟨v1, vs1, d1, ds1, p1, q1, rfl, rfl, rfl, h1, r1⟩ := trodAll_cons r0
  obtain ⟨v2, vs2, d2, ds2, p2, q2, rfl, rfl, rfl, h2, r2⟩ := trodAll_cons r1
  obtain ⟨v3, vs3, d3, ds3, p3, q3, rfl, rfl, rfl, h3, r3⟩ := trodAll_cons r2
  obtain ⟨v4, vs4, d4, ds4, p4, q4, rfl, rfl, rfl, h4, r4⟩ := trodAll_cons r3
  obtain ⟨v5, vs5, d5, ds5, p5, q5, rfl, rfl, rfl, h5, r5⟩ := trodAll_cons r4
  obtain ⟨v6, vs6, d6, ds6, p6, q6, rfl, rfl, rfl, h6, r6⟩ := trodAll_cons r5
  obtain ⟨rfl, rfl, rfl⟩ := trodAll_nil r6
  obtain rfl : args = #[v0, v1, v2, v3, v4, v5, v6] := by cases args; simp_all
  obtain ⟨rfl, rfl⟩ := trodVars_none hV
  obtain ⟨i0, j0, k0, hi0, hj0, hk0, e0⟩ := zqg (P := Try.prog) Try.underlying22 Try.underlying3 (by kernel_rfl) (by kernel_rfl) (hval 0 22 v0 rfl rfl) h0
  obtain ⟨x1, e1⟩ := zlj (P := Try.prog) Try.underlying23 (hval 1 23 v1 rfl rfl) h1
  obtain ⟨a2, l2, off2, rows2, cols2, ld2, hI2, e2⟩ := zif (P := Try.prog) Try.underlying26 (by kernel_rfl) (by kernel_rfl) (by kernel_rfl) Try.underlying24 Try.underlying23 (by kernel_rfl) Try.underlying3 (hval 2 26 v2 rfl rfl) h2
  obtain ⟨a3, l3, off3, rows3, cols3, ld3, hI3, e3⟩ := zif (P := Try.prog) Try.underlying26 (by kernel_rfl) (by kernel_rfl) (by kernel_rfl) Try.underlying24 Try.underlying23 (by kernel_rfl) Try.underlying3 (hval 3 26 v3 rfl rfl) h3
  obtain ⟨x4, e4⟩ := zlj (P := Try.prog) Try.underlying23 (hval 4 23 v4 rfl rfl) h4
  obtain ⟨a5, l5, off5, rows5, cols5, ld5, hI5, e5⟩ := zif (P := Try.prog) Try.underlying26 (by kernel_rfl) (by kernel_rfl) (by kernel_rfl) Try.underlying24 Try.underlying23 (by kernel_rfl) Try.underlying3 (hval 5 26 v5 rfl rfl) h5
  obtain ⟨i6, e6, lo6, hi6⟩ := zqh (P := Try.prog) Try.underlying3 (hval 6 3 v6 rfl rfl) h6
  refine (zte (zi3 [] a2 l2 off2 rows2 cols2 ld2 a3 l3 off3 rows3 cols3 ld3 a5 l5 off5 rows5 cols5 ld5 hI2 hI3 hI5 i0 j0 k0 hi0 hj0 hk0 x1 x4 i6 lo6 hi6) (W := W) (cargs := #[v0, v1, v2, v3, v4, v5, v6]) ?_).mono fun e W' ⟨he, hg⟩ => ?_
  · simp only [za7]
    exact ⟨_, _, rfl, e0, ⟨_, _, rfl, e1, ⟨_, _, rfl, e2, ⟨_, _, rfl, e3, ⟨_, _, rfl, e4, ⟨_, _, rfl, e5, ⟨_, _, rfl, e6, rfl⟩⟩⟩⟩⟩⟩⟩
  · subst he
    exact ⟨_, rfl, zp9 hW' rfl hg (tb := 4) (by kernel_rfl) Try.underlying4 rfl laid (by
      rw [show Try.f3.params = #[22, 23, 26, 26, 23, 26, 3] from by kernel_rfl]
      intro t ht
      simp only [List.mem_cons, List.not_mem_nil, or_false] at ht
      rcases ht with rfl | rfl | rfl | rfl | rfl | rfl | rfl <;> exact ⟨by kernel_rfl, of_decide_eq_true (by kernel_rfl)⟩)⟩
theorem over : Rows.blockTellsRow.holds Try.pinned (OpenSpec.ofChange Rows.blockTellsSpec) :=
  OpenClaim.holds_of_wide 3 Try.f3 rfl rfl rfl rfl rfl rfl rfl ⟨rfl, rfl, rfl, rfl, rfl⟩ rfl rfl rfl rfl rfl (by kernel_rfl) Try.func3 (by kernel_rfl)
    (of_decide_eq_true (by kernel_rfl)) (by unfold Func.isWrapper; rw [if_neg (of_decide_eq_false (by kernel_rfl))]; exact ⟨rfl, rfl⟩)
    (fun os started H enc _ => lifted os started H enc)
theorem proved : Rows.BlockTellsSaid := over
#print axioms proved
end Go.Proofs.Ytdlgclpoomlijaa.blockTells
