/-
  BlockluAlike: whatever the input, the law returns true and each argument reads as it read before.
  No condition is set.
-/
import Derived.Test.YtdlgclpoomlijaaRows
import Derived.Test.YtdlgclpoomlijaaYE
import Derived.Test.YtdlgclpoomlijaaYJ
set_option linter.unusedVariables false
namespace Go.Proofs.Ytdlgclpoomlijaa.blockluAlike
open Go.Sx Go.ChangeShapes Go.WideShapes Go.ChangeAt Go.RowKit Go.Deep
theorem own : ownKnob Try.prog.godebug = none := by kernel_rfl
theorem laid : laidOutB Try.prog = true := by kernel_rfl
set_option maxRecDepth 100000 in
theorem lifted (os : Os) (started : os.Started) (H : Type) (enc : TypeId × Value → H) :
    ReturnsInHanded {} Try.checked os 6 .any (Rows.blockluAlikeSpec.pre6 enc Try.prog Try.f6 Rows.blockluAlikeRow.domain false) (Rows.blockluAlikeSpec.post enc Try.prog Try.f6 false true false false) := by
  refine returnsInHanded_of_change (C := Try.checked) own started (by kernel_rfl) Try.func6
    (ChangeSpec.witness6 (enc := enc) (C := Try.checked) false ⟨#[], #[.agg #[.slice none 0 0, .int .i64 0, .int .i64 0, .int .i64 0, .int .i64 0], .int .u8 0, .int .u8 0], []⟩ 8 (by kernel_rfl) (by kernel_rfl) (by kernel_rfl) (by kernel_rfl)) ?_
  intro W base args ds gs before hval0 hW hcnd _
  have hval : ∀ (j : Nat) t v, Try.f6.params[j]? = some t → args[j]? = some v → Value.okWide Try.prog W .any base t v := hval0
  have hW' := hW
  obtain ⟨p, q, hA0, hV, rfl, hfz, hnd⟩ := hW
  have hA : DataW.TrodAll enc Try.prog W 0 (fun _ => true) true Try.f6.params.toList args.toList ds p := hA0
  rw [show Try.f6.params = #[26, 5, 5] from by kernel_rfl] at hA hval
  obtain ⟨v0, vs0, d0, ds0, p0, q0, hargs, rfl, rfl, h0, r0⟩ := trodAll_cons hA
  obtain ⟨v1, vs1, d1, ds1, p1, q1, rfl, rfl, rfl, h1, r1⟩ := trodAll_cons r0
  obtain ⟨v2, vs2, d2, ds2, p2, q2, rfl, rfl, rfl, h2, r2⟩ := trodAll_cons r1
  obtain ⟨rfl, rfl, rfl⟩ := trodAll_nil r2
  obtain rfl : args = #[v0, v1, v2] := by cases args; simp_all
  obtain ⟨rfl, rfl⟩ := trodVars_none hV
  obtain ⟨a0, l0, off0, rows0, cols0, ld0, hI0, e0⟩ := zt5 (P := Try.prog) Try.underlying26 (by kernel_rfl) (by kernel_rfl) (by kernel_rfl) Try.underlying24 Try.underlying23 (by kernel_rfl) Try.underlying3 (hval 0 26 v0 rfl rfl) h0
  obtain ⟨i1, e1, lo1, hi1⟩ := zk3 (P := Try.prog) Try.underlying5 (hval 1 5 v1 rfl rfl) h1
  obtain ⟨i2, e2, lo2, hi2⟩ := zk3 (P := Try.prog) Try.underlying5 (hval 2 5 v2 rfl rfl) h2
  refine (zxb (zh9 [] a0 l0 off0 rows0 cols0 ld0 hI0 i1 i2 lo1 hi1 lo2 hi2) (W := W) (cargs := #[v0, v1, v2]) ?_).mono fun e W' ⟨he, hg⟩ => ?_
  · simp only [zba]
    exact ⟨_, _, rfl, e0, ⟨_, _, rfl, e1, ⟨_, _, rfl, e2, rfl⟩⟩⟩
  · subst he
    exact ⟨_, rfl, ztx hW' rfl hg (tb := 4) (by kernel_rfl) Try.underlying4 rfl laid (by
      rw [show Try.f6.params = #[26, 5, 5] from by kernel_rfl]
      intro t ht
      simp only [List.mem_cons, List.not_mem_nil, or_false] at ht
      rcases ht with rfl | rfl | rfl <;> exact ⟨by kernel_rfl, of_decide_eq_true (by kernel_rfl)⟩)⟩
theorem over : Rows.blockluAlikeRow.holds Try.pinned (OpenSpec.ofChange Rows.blockluAlikeSpec) :=
  OpenClaim.holds_of_wide 6 Try.f6 rfl rfl rfl rfl rfl rfl rfl ⟨rfl, rfl, rfl, rfl, rfl⟩ rfl rfl rfl rfl rfl (by kernel_rfl) Try.func6 (by kernel_rfl)
    (of_decide_eq_true (by kernel_rfl)) (by unfold Func.isWrapper; rw [if_neg (of_decide_eq_false (by kernel_rfl))]; exact ⟨rfl, rfl⟩)
    (fun os started H enc _ => lifted os started H enc)
theorem proved : Rows.BlockluAlikeSaid := over
#print axioms proved
end Go.Proofs.Ytdlgclpoomlijaa.blockluAlike
