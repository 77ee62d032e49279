/-
  PackBlocks: whatever the input, the law returns true and each argument reads as it read before.
  No condition is set.
-/
import Derived.Test.YtfnjkmdcmokciaaRows
import Derived.Test.YtfnjkmdcmokciaaXR
import Derived.Test.YtfnjkmdcmokciaaYB
set_option linter.unusedVariables false
namespace Go.Proofs.Ytfnjkmdcmokciaa.packBlocks
open Go.Sx Go.ChangeShapes Go.WideShapes Go.ChangeAt Go.RowKit Go.Deep
theorem own : ownKnob Try.prog.godebug = none := by kernel_rfl
theorem laid : laidOutB Try.prog = true := by kernel_rfl
set_option maxRecDepth 100000 in
theorem lifted (os : Os) (started : os.Started) (H : Type) (enc : TypeId × Value → H) :
    ReturnsInHanded {} Try.checked os 14 .any (Rows.packBlocksSpec.pre6 enc Try.prog Try.f14 Rows.packBlocksRow.domain false) (Rows.packBlocksSpec.post enc Try.prog Try.f14 false true false false) := by
  refine returnsInHanded_of_change (C := Try.checked) own started (by kernel_rfl) Try.func14
    (ChangeSpec.witness6 (enc := enc) (C := Try.checked) false ⟨#[], #[.int .i64 0, .int .i64 0, .slice none 0 0], []⟩ 8 (by kernel_rfl) (by kernel_rfl) (by kernel_rfl) (by kernel_rfl)) ?_
  intro W base args ds gs before hval0 hW hcnd _
  have hval : ∀ (j : Nat) t v, Try.f14.params[j]? = some t → args[j]? = some v → Value.okWide Try.prog W .any base t v := hval0
  have hW' := hW
  obtain ⟨p, q, hA0, hV, rfl, hfz, hnd⟩ := hW
  have hA : DataW.TrodAll enc Try.prog W 0 (fun _ => true) true Try.f14.params.toList args.toList ds p := hA0
  rw [show Try.f14.params = #[3, 3, 47] from by kernel_rfl] at hA hval
  obtain ⟨v0, vs0, d0, ds0, p0, q0, hargs, rfl, rfl, h0, r0⟩ := trodAll_cons hA
  obtain ⟨v1, vs1, d1, ds1, p1, q1, rfl, rfl, rfl, h1, r1⟩ := trodAll_cons r0
  obtain ⟨v2, vs2, d2, ds2, p2, q2, rfl, rfl, rfl, h2, r2⟩ := trodAll_cons r1
  obtain ⟨rfl, rfl, rfl⟩ := trodAll_nil r2
  obtain rfl : args = #[v0, v1, v2] := by cases args; simp_all
  obtain ⟨rfl, rfl⟩ := trodVars_none hV
  obtain ⟨i0, e0, lo0, hi0⟩ := open_i64 (P := Try.prog) Try.underlying3 (hval 0 3 v0 rfl rfl) h0
  obtain ⟨i1, e1, lo1, hi1⟩ := open_i64 (P := Try.prog) Try.underlying3 (hval 1 3 v1 rfl rfl) h1
  obtain ⟨a2, l2, hl2, e2⟩ := open_ils (P := Try.prog) Try.underlying47 Try.underlying3 (by kernel_rfl) (hval 2 47 v2 rfl rfl) h2
  refine (law_run (packBlocks_s [] a2 l2 hl2.1 i0 i1 ⟨lo0, hi0⟩ ⟨lo1, hi1⟩) (W := W) (cargs := #[v0, v1, v2]) ?_).mono fun e W' ⟨he, hg⟩ => ?_
  · simp only [LRep]
    exact ⟨_, _, rfl, e0, ⟨_, _, rfl, e1, ⟨_, _, rfl, e2, rfl⟩⟩⟩
  · subst he
    exact ⟨_, rfl, law_post hW' rfl hg (tb := 4) (by kernel_rfl) Try.underlying4 rfl laid (by
      rw [show Try.f14.params = #[3, 3, 47] from by kernel_rfl]
      intro t ht
      simp only [List.mem_cons, List.not_mem_nil, or_false] at ht
      rcases ht with rfl | rfl | rfl <;> exact ⟨by kernel_rfl, of_decide_eq_true (by kernel_rfl)⟩)⟩
theorem over : Rows.packBlocksRow.holds Try.pinned (OpenSpec.ofChange Rows.packBlocksSpec) :=
  OpenClaim.holds_of_wide 14 Try.f14 rfl rfl rfl rfl rfl rfl rfl ⟨rfl, rfl, rfl, rfl, rfl⟩ rfl rfl rfl rfl rfl (by kernel_rfl) Try.func14 (by kernel_rfl)
    (of_decide_eq_true (by kernel_rfl)) (by unfold Func.isWrapper; rw [if_neg (of_decide_eq_false (by kernel_rfl))]; exact ⟨rfl, rfl⟩)
    (fun os started H enc _ => lifted os started H enc)
/-- THE STATEMENT -/
theorem proved : Rows.PackBlocksSaid := over
#print axioms proved
end Go.Proofs.Ytfnjkmdcmokciaa.packBlocks
