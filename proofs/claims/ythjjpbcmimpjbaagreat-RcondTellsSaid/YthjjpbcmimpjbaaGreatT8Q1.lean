/-
  RcondTells: whatever the input, the law returns true and each argument reads as it read before.
  No condition is set.
-/
import Derived.Test.YthjjpbcmimpjbaaGreatRows
import Derived.Test.YthjjpbcmimpjbaaGreatYA
import Derived.Test.YthjjpbcmimpjbaaGreatYG
set_option linter.unusedVariables false
namespace Go.Proofs.YthjjpbcmimpjbaaGreat.rcondTells
open Go.Sx Go.ChangeShapes Go.WideShapes Go.ChangeAt Go.RowKit Go.Deep
theorem own : ownKnob Tryz.prog.godebug = none := by kernel_rfl
theorem laid : laidOutB Tryz.prog = true := by kernel_rfl
set_option maxRecDepth 100000 in
theorem lifted (os : Os) (started : os.Started) (H : Type) (enc : TypeId × Value → H) :
    ReturnsInHanded {} Tryz.checked os 3 .any (Rows.rcondTellsSpec.pre6 enc Tryz.prog Tryz.f3 Rows.rcondTellsRow.domain false) (Rows.rcondTellsSpec.post enc Tryz.prog Tryz.f3 false true false false) := by
  refine returnsInHanded_of_change (C := Tryz.checked) own started (by kernel_rfl) Tryz.func3
    (ChangeSpec.witness6 (enc := enc) (C := Tryz.checked) false ⟨#[], #[.agg #[.slice none 0 0, .int .i64 0, .int .i64 0, .int .i64 0, .int .i64 0], .agg #[.slice none 0 0, .int .i64 0, .int .i64 0, .int .i64 0, .int .i64 0, .slice none 0 0]], []⟩ 8 (by kernel_rfl) (by kernel_rfl) (by kernel_rfl) (by kernel_rfl)) ?_
  intro W base args ds gs before hval0 hW hcnd _
  have hval : ∀ (j : Nat) t v, Tryz.f3.params[j]? = some t → args[j]? = some v → Value.okWide Tryz.prog W .any base t v := hval0
  have hW' := hW
  obtain ⟨p, q, hA0, hV, rfl, hfz, hnd⟩ := hW
  have hA : DataW.TrodAll enc Tryz.prog W 0 (fun _ => true) true Tryz.f3.params.toList args.toList ds p := hA0
  rw [show Tryz.f3.params = #[24, 27] from by kernel_rfl] at hA hval
  obtain ⟨v0, vs0, d0, ds0, p0, q0, hargs, rfl, rfl, h0, r0⟩ := trodAll_cons hA
  obtain ⟨v1, vs1, d1, ds1, p1, q1, rfl, rfl, rfl, h1, r1⟩ := trodAll_cons r0
  obtain ⟨rfl, rfl, rfl⟩ := trodAll_nil r1
  obtain rfl : args = #[v0, v1] := by cases args; simp_all
  obtain ⟨rfl, rfl⟩ := trodVars_none hV
  obtain ⟨a0, l0, off0, rows0, cols0, ld0, hI0, e0⟩ := open_mat (P := Tryz.prog) Tryz.underlying24 (by kernel_rfl) (by kernel_rfl) (by kernel_rfl) Tryz.underlying22 Tryz.underlying30 (by kernel_rfl) Tryz.underlying3 (hval 0 24 v0 rfl rfl) h0
  obtain ⟨as1, D1, e1⟩ := open_st (P := Tryz.prog) (l := facS) Tryz.underlying27 (by kernel_rfl) (hval 1 27 v1 rfl rfl) h1
  obtain ⟨a1, l1, off1, rows1, cols1, ld1, q1, m1, hI1, hm1, hx1, rfl⟩ := dom_fac D1
  refine (law_run (rcondTells_s [] a0 l0 off0 rows0 cols0 ld0 hI0 a1 l1 off1 rows1 cols1 ld1 hI1 q1 m1 hm1) (W := W) (cargs := #[v0, v1]) ?_).mono fun e W' ⟨he, hg⟩ => ?_
  · simp only [LRep]
    exact ⟨_, _, rfl, e0, ⟨_, _, rfl, e1, rfl⟩⟩
  · subst he
    exact ⟨_, rfl, law_post hW' rfl hg (tb := 4) (by kernel_rfl) Tryz.underlying4 rfl laid (by
      rw [show Tryz.f3.params = #[24, 27] from by kernel_rfl]
      intro t ht
      simp only [List.mem_cons, List.not_mem_nil, or_false] at ht
      rcases ht with rfl | rfl <;> exact ⟨by kernel_rfl, of_decide_eq_true (by kernel_rfl)⟩)⟩
theorem over : Rows.rcondTellsRow.holds Tryz.pinned (OpenSpec.ofChange Rows.rcondTellsSpec) :=
  OpenClaim.holds_of_wide 3 Tryz.f3 rfl rfl rfl rfl rfl rfl rfl ⟨rfl, rfl, rfl, rfl, rfl⟩ rfl rfl rfl rfl rfl (by kernel_rfl) Tryz.func3 (by kernel_rfl)
    (of_decide_eq_true (by kernel_rfl)) (by unfold Func.isWrapper; rw [if_neg (of_decide_eq_false (by kernel_rfl))]; exact ⟨rfl, rfl⟩)
    (fun os started H enc _ => lifted os started H enc)
/-- THE STATEMENT -/
theorem proved : Rows.RcondTellsSaid := over
#print axioms proved
end Go.Proofs.YthjjpbcmimpjbaaGreat.rcondTells
