/-
  LuClose: whatever the input, the law returns true and each argument reads as it read before.
  No condition is set.
-/
import Derived.Test.YtfnjkmdcmokciaaRows
import Derived.Test.YtfnjkmdcmokciaaXR
import Derived.Test.YtfnjkmdcmokciaaYE
set_option linter.unusedVariables false
namespace Go.Proofs.Ytfnjkmdcmokciaa.luClose
open Go.Sx Go.ChangeShapes Go.WideShapes Go.ChangeAt Go.RowKit Go.Deep
theorem own : ownKnob Try.prog.godebug = none := by kernel_rfl
theorem laid : laidOutB Try.prog = true := by kernel_rfl
set_option maxRecDepth 100000 in
theorem lifted (os : Os) (started : os.Started) (H : Type) (enc : TypeId × Value → H) :
    ReturnsInHanded {} Try.checked os 8 .any (Rows.luCloseSpec.pre6 enc Try.prog Try.f8 Rows.luCloseRow.domain false) (Rows.luCloseSpec.post enc Try.prog Try.f8 false true false false) := by
  refine returnsInHanded_of_change (C := Try.checked) own started (by kernel_rfl) Try.func8
    (ChangeSpec.witness6 (enc := enc) (C := Try.checked) false ⟨#[], #[.agg #[.slice none 0 0, .int .i64 0, .int .i64 0, .int .i64 0, .int .i64 0]], []⟩ 8 (by kernel_rfl) (by kernel_rfl) (by kernel_rfl) (by kernel_rfl)) ?_
  intro W base args ds gs before hval0 hW hcnd _
  have hval : ∀ (j : Nat) t v, Try.f8.params[j]? = some t → args[j]? = some v → Value.okWide Try.prog W .any base t v := hval0
  have hW' := hW
  obtain ⟨p, q, hA0, hV, rfl, hfz, hnd⟩ := hW
  have hA : DataW.TrodAll enc Try.prog W 0 (fun _ => true) true Try.f8.params.toList args.toList ds p := hA0
  rw [show Try.f8.params = #[24] from by kernel_rfl] at hA hval
  obtain ⟨v0, vs0, d0, ds0, p0, q0, hargs, rfl, rfl, h0, r0⟩ := trodAll_cons hA
  obtain ⟨rfl, rfl, rfl⟩ := trodAll_nil r0
  obtain rfl : args = #[v0] := by cases args; simp_all
  obtain ⟨rfl, rfl⟩ := trodVars_none hV
  obtain ⟨a0, l0, off0, rows0, cols0, ld0, hI0, e0⟩ := open_mat (P := Try.prog) Try.underlying24 (by kernel_rfl) (by kernel_rfl) (by kernel_rfl) Try.underlying22 Try.underlying29 (by kernel_rfl) Try.underlying3 (hval 0 24 v0 rfl rfl) h0
  refine (law_run (lclose [] a0 l0 off0 rows0 cols0 ld0 hI0) (W := W) (cargs := #[v0]) ?_).mono fun e W' ⟨he, hg⟩ => ?_
  · simp only [LRep]
    exact ⟨_, _, rfl, e0, rfl⟩
  · subst he
    exact ⟨_, rfl, law_post hW' rfl hg (tb := 4) (by kernel_rfl) Try.underlying4 rfl laid (by
      rw [show Try.f8.params = #[24] from by kernel_rfl]
      intro t ht
      simp only [List.mem_cons, List.not_mem_nil, or_false] at ht
      have hh := ht; subst hh <;> exact ⟨by kernel_rfl, of_decide_eq_true (by kernel_rfl)⟩)⟩
theorem over : Rows.luCloseRow.holds Try.pinned (OpenSpec.ofChange Rows.luCloseSpec) :=
  OpenClaim.holds_of_wide 8 Try.f8 rfl rfl rfl rfl rfl rfl rfl ⟨rfl, rfl, rfl, rfl, rfl⟩ rfl rfl rfl rfl rfl (by kernel_rfl) Try.func8 (by kernel_rfl)
    (of_decide_eq_true (by kernel_rfl)) (by unfold Func.isWrapper; rw [if_neg (of_decide_eq_false (by kernel_rfl))]; exact ⟨rfl, rfl⟩)
    (fun os started H enc _ => lifted os started H enc)
/-- THE STATEMENT -/
theorem proved : Rows.LuCloseSaid := over
#print axioms proved
end Go.Proofs.Ytfnjkmdcmokciaa.luClose
