/-
  FerrTells: whatever the input, the law returns true and each argument reads as it read before.
  No condition is set.
-/
import Derived.Test.YthjjpbcmimpjbaaGreatRows
import Derived.Test.YthjjpbcmimpjbaaGreatYE
import Derived.Test.YthjjpbcmimpjbaaGreatYM
set_option linter.unusedVariables false
namespace Go.Proofs.YthjjpbcmimpjbaaGreat.ferrTells
open Go.Sx Go.ChangeShapes Go.WideShapes Go.ChangeAt Go.RowKit Go.Deep
theorem own : ownKnob Tryz.prog.godebug = none := by kernel_rfl
theorem laid : laidOutB Tryz.prog = true := by kernel_rfl
set_option maxRecDepth 100000 in
theorem lifted (os : Os) (started : os.Started) (H : Type) (enc : TypeId × Value → H) :
    ReturnsInHanded {} Tryz.checked os 4 .any (Rows.ferrTellsSpec.pre6 enc Tryz.prog Tryz.f4 Rows.ferrTellsRow.domain false) (Rows.ferrTellsSpec.post enc Tryz.prog Tryz.f4 false true false false) := by
  refine returnsInHanded_of_change (C := Tryz.checked) own started (by kernel_rfl) Tryz.func4
    (ChangeSpec.witness6 (enc := enc) (C := Tryz.checked) false ⟨#[], #[.agg #[.slice none 0 0, .int .i64 0, .int .i64 0, .int .i64 0, .int .i64 0], .agg #[.slice none 0 0, .int .i64 0, .int .i64 0, .int .i64 0, .int .i64 0, .slice none 0 0], .slice none 0 0, .slice none 0 0, .slice none 0 0, .slice none 0 0], []⟩ 8 (by kernel_rfl) (by kernel_rfl) (by kernel_rfl) (by kernel_rfl)) ?_
  intro W base args ds gs before hval0 hW hcnd _
  have hval : ∀ (j : Nat) t v, Tryz.f4.params[j]? = some t → args[j]? = some v → Value.okWide Tryz.prog W .any base t v := hval0
  have hW' := hW
  obtain ⟨p, q, hA0, hV, rfl, hfz, hnd⟩ := hW
  have hA : DataW.TrodAll enc Tryz.prog W 0 (fun _ => true) true Tryz.f4.params.toList args.toList ds p := hA0
  rw [show Tryz.f4.params = #[24, 27, 25, 25, 22, 22] from by kernel_rfl] at hA hval
  obtain ⟨v0, vs0, d0, ds0, p0, q0, hargs, rfl, rfl, h0, r0⟩ := trodAll_cons hA
  obtain ⟨v1, vs1, d1, ds1, p1, q1, rfl, rfl, rfl, h1, r1⟩ := trodAll_cons r0
  obtain ⟨v2, vs2, d2, ds2, p2, q2, rfl, rfl, rfl, h2, r2⟩ := trodAll_cons r1
  obtain ⟨v3, vs3, d3, ds3, p3, q3, rfl, rfl, rfl, h3, r3⟩ := trodAll_cons r2
  obtain ⟨v4, vs4, d4, ds4, p4, q4, rfl, rfl, rfl, h4, r4⟩ := trodAll_cons r3
  obtain ⟨v5, vs5, d5, ds5, p5, q5, rfl, rfl, rfl, h5, r5⟩ := trodAll_cons r4
  obtain ⟨rfl, rfl, rfl⟩ := trodAll_nil r5
  obtain rfl : args = #[v0, v1, v2, v3, v4, v5] := by cases args; simp_all
  obtain ⟨rfl, rfl⟩ := trodVars_none hV
  obtain ⟨a0, l0, off0, rows0, cols0, ld0, hI0, e0⟩ := zv8 (P := Tryz.prog) Tryz.underlying24 (by kernel_rfl) (by kernel_rfl) (by kernel_rfl) Tryz.underlying22 Tryz.underlying30 (by kernel_rfl) Tryz.underlying3 (hval 0 24 v0 rfl rfl) h0
  obtain ⟨as1, D1, e1⟩ := z0q (P := Tryz.prog) (l := z9m) Tryz.underlying27 (by kernel_rfl) (hval 1 27 v1 rfl rfl) h1
  obtain ⟨a1, l1, off1, rows1, cols1, ld1, q1, m1, hI1, hm1, hx1, rfl⟩ := zzp D1
  obtain ⟨a2, l2, hl2, e2⟩ := zow (P := Tryz.prog) Tryz.underlying25 Tryz.underlying3 (by kernel_rfl) (hval 2 25 v2 rfl rfl) h2
  obtain ⟨a3, l3, hl3, e3⟩ := zow (P := Tryz.prog) Tryz.underlying25 Tryz.underlying3 (by kernel_rfl) (hval 3 25 v3 rfl rfl) h3
  obtain ⟨a4, l4, hl4, e4⟩ := zov (P := Tryz.prog) Tryz.underlying22 Tryz.underlying30 (by kernel_rfl) (hval 4 22 v4 rfl rfl) h4
  obtain ⟨a5, l5, hl5, e5⟩ := zov (P := Tryz.prog) Tryz.underlying22 Tryz.underlying30 (by kernel_rfl) (hval 5 22 v5 rfl rfl) h5
  refine (zz7 (zmx [] a0 l0 off0 rows0 cols0 ld0 hI0 a1 l1 off1 rows1 cols1 ld1 hI1 q1 m1 hm1 a2 l2 hl2.1 a3 l3 hl3.1 a4 l4 hl4 a5 l5 hl5) (W := W) (cargs := #[v0, v1, v2, v3, v4, v5]) ?_).mono fun e W' ⟨he, hg⟩ => ?_
  · simp only [zbq]
    exact ⟨_, _, rfl, e0, ⟨_, _, rfl, e1, ⟨_, _, rfl, e2, ⟨_, _, rfl, e3, ⟨_, _, rfl, e4, ⟨_, _, rfl, e5, rfl⟩⟩⟩⟩⟩⟩
  · subst he
    exact ⟨_, rfl, zvx hW' rfl hg (tb := 4) (by kernel_rfl) Tryz.underlying4 rfl laid (by
      rw [show Tryz.f4.params = #[24, 27, 25, 25, 22, 22] from by kernel_rfl]
      intro t ht
      simp only [List.mem_cons, List.not_mem_nil, or_false] at ht
      rcases ht with rfl | rfl | rfl | rfl | rfl | rfl <;> exact ⟨by kernel_rfl, of_decide_eq_true (by kernel_rfl)⟩)⟩
theorem over : Rows.ferrTellsRow.holds Tryz.pinned (OpenSpec.ofChange Rows.ferrTellsSpec) :=
  OpenClaim.holds_of_wide 4 Tryz.f4 rfl rfl rfl rfl rfl rfl rfl ⟨rfl, rfl, rfl, rfl, rfl⟩ rfl rfl rfl rfl rfl (by kernel_rfl) Tryz.func4 (by kernel_rfl)
    (of_decide_eq_true (by kernel_rfl)) (by unfold Func.isWrapper; rw [if_neg (of_decide_eq_false (by kernel_rfl))]; exact ⟨rfl, rfl⟩)
    (fun os started H enc _ => lifted os started H enc)
/-- THE STATEMENT -/
theorem proved : Rows.FerrTellsSaid := over
#print axioms proved
end Go.Proofs.YthjjpbcmimpjbaaGreat.ferrTells
