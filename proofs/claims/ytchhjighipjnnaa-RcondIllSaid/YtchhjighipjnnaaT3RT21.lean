/- A part of the proofs of this seat: T3RT21. No condition is set. -/
import Derived.Test.YtchhjighipjnnaaRG
import Derived.Test.YtchhjighipjnnaaT3Tin
set_option linter.unusedVariables false
set_option maxRecDepth 20000
namespace Go.Sx
open Go.Proofs
def escL : List Nat := [101, 109, 110, 141, 174, 198, 200, 202, 204]
def ordL : List (Nat × Nat × List Nat × (Bool × List Nat) × List Nat × List (Nat × DFl)) := [(52, 7, [], (false, []), [14], [(0, .lt), (1, .ld true), (2, .lt), (3, .lt), (4, .lt), (5, .lt), (6, .lt), (7, .lt), (8, .lt), (9, .ld true), (10, .lt), (11, .lt), (12, .lt), (13, .lt), (14, .mn false)]),
  (53, 23, [], (false, []), [12], [(0, .ld true), (1, .lt), (2, .lt), (3, .lt), (4, .ld true), (5, .lt), (6, .lt), (7, .lt), (8, .lt), (9, .lt), (10, .lt), (11, .mn true), (12, .mn false)]),
  (57, 6, [], (false, []), [3, 4], [(0, .lt), (1, .ld false), (2, .ld true), (3, .mn false), (4, .mn false)]),
  (59, 3, [], (false, []), [], [(0, .lt), (1, .lt), (2, .lt), (3, .lt), (4, .lt), (5, .lt), (6, .ld true), (7, .lt), (8, .lt), (9, .ld true), (10, .lt), (11, .ld true), (12, .lt), (13, .lt), (14, .lt), (15, .lt), (16, .lt), (17, .lt), (18, .lt), (19, .lt), (20, .lt), (21, .lt), (22, .lt), (23, .lt)]),
  (79, 3, [], (false, []), [], [(0, .lt), (1, .ld true), (2, .lt), (3, .ld true), (4, .lt), (5, .ld true), (6, .lt), (7, .lt), (8, .ld true), (9, .lt), (10, .lt), (11, .lt), (12, .ld true), (13, .lt), (14, .lt), (15, .lt), (16, .lt), (17, .lt)]),
  (109, 5, [], (false, [5, 6, 7]), [], [(0, .ld true), (2, .ld true), (1, .mn true), (3, .mn true), (4, .lt), (5, .ld true), (7, .ld true), (6, .mn true), (8, .mn true), (9, .lt), (10, .lt)]),
  (116, 6, [], (false, []), [], [(0, .ld true), (2, .ld true), (1, .mn true), (3, .mn true), (4, .lt)]),
  (116, 10, [8], (false, []), [], [(0, .ld true), (1, .ld true), (2, .lt), (3, .lt), (4, .ld true), (5, .bx), (6, .mn true), (7, .lt)]),
  (116, 19, [], (false, []), [7], [(0, .ld true), (1, .lt), (2, .lt), (3, .ld true), (4, .lt), (5, .lt), (6, .mn true), (7, .mn false)]),
  (116, 25, [], (false, []), [11], [(0, .ld true), (1, .lt), (5, .ld true), (6, .lt), (7, .lt), (2, .mn true), (3, .lt), (4, .ld true), (8, .mn true), (9, .lt), (10, .lt), (11, .mn false)]),
  (116, 29, [], (false, []), [7], [(0, .ld true), (1, .lt), (2, .lt), (3, .ld true), (4, .lt), (5, .lt), (6, .mn true), (7, .mn false)]),
  (116, 38, [], (false, []), [7], [(0, .ld true), (1, .lt), (2, .lt), (3, .ld true), (4, .lt), (5, .lt), (6, .mn true), (7, .mn false)]),
  (116, 46, [], (false, []), [7], [(0, .ld true), (1, .lt), (2, .lt), (3, .ld true), (4, .lt), (5, .lt), (6, .mn true), (7, .mn false)]),
  (116, 48, [], (false, []), [11], [(0, .ld true), (1, .lt), (5, .ld true), (6, .lt), (7, .lt), (2, .mn true), (3, .lt), (4, .ld true), (8, .mn true), (9, .lt), (10, .lt), (11, .mn false)]),
  (136, 1, [], (false, []), [], [(0, .ld true), (1, .ld true), (3, .lt), (4, .ld true), (5, .lt), (6, .ld true), (7, .lt), (8, .ld true), (9, .lt), (10, .ld true), (11, .lt), (12, .ld true), (13, .lt), (2, .mn true), (14, .mn true), (15, .lt)]),
  (137, 7, [], (false, []), [], [(0, .lt), (1, .ld true), (2, .lt), (3, .ld true), (4, .lt), (5, .lt), (6, .ld true), (7, .lt), (8, .lt), (9, .lt), (10, .lt), (11, .ld true), (12, .lt), (13, .ld true), (14, .lt), (15, .lt), (16, .lt), (17, .ld true), (18, .lt), (19, .ld true), (20, .lt), (21, .lt), (22, .lt), (23, .lt), (24, .lt)]),
  (137, 8, [], (false, []), [9, 11], [(0, .lt), (1, .lt), (2, .lt), (3, .lt), (4, .ld true), (5, .lt), (6, .lt), (7, .ld true), (8, .lt), (9, .mn false), (10, .lt), (11, .mn false)]),
  (149, 7, [], (false, []), [], [(0, .lt), (1, .lt), (2, .lt), (3, .ld true), (4, .lt), (7, .ld true), (8, .lt), (5, .mn true), (6, .mn true), (9, .mn true), (10, .mn true), (11, .lt), (12, .lt)]),
  (150, 4, [], (false, []), [6], [(0, .ld true), (1, .lt), (3, .ld true), (4, .lt), (2, .mn true), (5, .mn true), (6, .mn false)]),
  (155, 0, [], (false, []), [], [(0, .ld true), (1, .lt), (2, .ld true), (3, .lt), (4, .ld true), (5, .lt), (6, .lt), (7, .ld true), (8, .lt), (9, .lt), (10, .lt), (11, .ld true), (12, .lt), (13, .lt)]),
  (155, 1, [], (false, []), [18], [(0, .lt), (1, .lt), (2, .ld true), (3, .lt), (4, .lt), (5, .ld true), (6, .lt), (7, .ld true), (8, .lt), (9, .lt), (10, .ld true), (11, .lt), (12, .lt), (13, .lt), (14, .ld true), (15, .lt), (16, .lt), (17, .lt), (18, .mn false)]),
  (166, 1, [], (false, []), [14], [(0, .ld true), (1, .lt), (5, .lt), (6, .ld true), (7, .lt), (2, .mn true), (3, .lt), (4, .ld true), (8, .mn true), (9, .lt), (10, .ld true), (11, .lt), (12, .lt), (13, .lt), (14, .mn false)]),
  (174, 10, [], (false, [2]), [4, 7, 10], [(0, .ld false), (1, .ld false), (2, .lt), (3, .lt), (4, .mn false), (5, .lt), (6, .lt), (7, .mn false), (8, .lt), (9, .lt), (10, .mn false)]),
  (174, 14, [], (false, [2]), [9], [(0, .ld true), (1, .lt), (2, .mn true), (3, .mn true), (4, .lt), (5, .lt), (6, .lt), (7, .lt), (8, .lt), (9, .mn false)]),
  (174, 26, [], (false, [2]), [9], [(0, .ld true), (1, .lt), (2, .mn true), (3, .mn true), (4, .lt), (5, .lt), (6, .lt), (7, .lt), (8, .lt), (9, .mn false)]),
  (174, 27, [], (false, [2]), [], [(0, .lt), (1, .lt), (2, .lt), (3, .ld true), (5, .lt), (6, .ld true), (7, .lt), (8, .lt), (9, .ld true), (10, .lt), (11, .ld true), (4, .mn true), (12, .mn true), (13, .ld true), (14, .lt), (15, .ld true), (16, .lt), (17, .lt), (18, .ld true), (19, .lt), (20, .lt)]),
  (174, 32, [], (false, [2]), [11], [(0, .ld true), (1, .lt), (2, .ld true), (3, .lt), (4, .lt), (5, .ld true), (6, .lt), (7, .lt), (8, .lt), (9, .lt), (10, .lt), (11, .mn false)]),
  (177, 4, [], (false, []), [], [(0, .lt), (1, .ld true), (2, .lt), (3, .ld true), (4, .lt), (5, .lt), (6, .ld true), (7, .lt), (8, .lt), (9, .lt), (10, .lt), (11, .ld true), (12, .lt), (13, .ld true), (14, .lt), (15, .lt), (16, .ld true), (17, .lt), (18, .lt), (19, .lt), (20, .lt), (21, .lt)]),
  (177, 5, [], (false, []), [9, 11], [(0, .lt), (1, .lt), (2, .lt), (3, .lt), (4, .ld true), (5, .lt), (6, .lt), (7, .ld true), (8, .lt), (9, .mn false), (10, .lt), (11, .mn false)]),
  (198, 1, [], (false, [3]), [3, 9], [(0, .ld false), (1, .lt), (2, .mn true), (3, .mn false), (4, .lt), (5, .lt), (6, .lt), (7, .lt), (8, .lt), (9, .mn false)]),
  (203, 6, [], (false, []), [], [(0, .lt), (1, .lt), (2, .lt), (3, .ld true), (4, .lt), (5, .lt), (6, .lt), (7, .ld true), (8, .ld true)])]
def frzL : List Nat := [83, 202]
def intrT (f : Nat) (args : List AV) : Option AV :=
  if Nat.beq f 88 then (match args with
    | [.fraw b] => some (.int .u64 b)
    | [.flt b] => if isNaN b then none else some (.int .u64 b)
    | _ => none)
  else if Nat.beq f 148 then (match args with
    | [.int .u64 n] => if 0 ≤ n ∧ n ≤ 18446744073709551615 then some (.fraw n.toNat) else none
    | _ => none)
  else none
def runT : RunT := ⟨fun f => escL.contains f, ordF ordL, intrT, fun _ => [], fun f => !frzL.contains f⟩
theorem intr_ok (f : Nat) (args : List AV) (r : AV) (H : List (List AV)) (h : intrT f args = some r) : CSpec Try.prog f args H r H := by
  unfold intrT at h
  split at h
  · rename_i hb
    have := Nat.eq_of_beq_eq_true hb; subst this
    split at h
    · cases h; exact xbits_raw Try.func88 (by kernel_rfl) (by kernel_rfl) (by kernel_rfl) (by kernel_rfl) H _
    · split at h
      · cases h
      · rename_i hn; cases h; exact xbits_flt Try.func88 (by kernel_rfl) (by kernel_rfl) (by kernel_rfl) (by kernel_rfl) H _ hn
    · cases h
  · split at h
    · rename_i hb
      have := Nat.eq_of_beq_eq_true hb; subst this
      split at h
      · split at h
        · rename_i hn; cases h; exact xfrom Try.func148 (by kernel_rfl) (by kernel_rfl) (by kernel_rfl) (by kernel_rfl) H _ hn
        · cases h
      · cases h
    · cases h
theorem run_47 : runF Try.prog runT 100000 60 47 [] [] = some (.bool true, []) := by kernel_rfl
theorem run_47_c (H : List (List AV)) : CSpec Try.prog 47 [] H (.bool true) H := runF_c fol intr_ok 100000 60 47 _ _ (by kernel_rfl) (by kernel_rfl) run_47 H
theorem run_102 : runF Try.prog runT 100000 60 102 [.int .i64 (-52)] [] = some (.flt 4372995238176751616, []) := by kernel_rfl
theorem run_102_c (H : List (List AV)) : CSpec Try.prog 102 [.int .i64 (-52)] H (.flt 4372995238176751616) H := runF_c fol intr_ok 100000 60 102 _ _ (by kernel_rfl) (by kernel_rfl) run_102 H
theorem run_49 : runF Try.prog runT 100000 60 49 [.flt 4607182418800017408, .int .i64 (-52)] [] = some (.fraw 4372995238176751616, []) := by kernel_rfl
theorem run_49_c (H : List (List AV)) : CSpec Try.prog 49 [.flt 4607182418800017408, .int .i64 (-52)] H (.flt 4372995238176751616) H := (runF_c fol intr_ok 100000 60 49 _ _ (by kernel_rfl) (by kernel_rfl) run_49 H).fl (by decide)
end Go.Sx
