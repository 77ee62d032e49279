/- A part of the proofs of this seat: YF. No condition is set. -/
import Derived.KernelRfl
import Derived.Lib.SlicesCompact
import Derived.Test.YthjjpbcmimpjbaaGreatProg
import Derived.Test.YthjjpbcmimpjbaaGreatYE
set_option maxRecDepth 20000
namespace Go.Sx
open Go.Proofs
instance : TyI Tryz.prog 0 1 false := ⟨by kernel_rfl, by kernel_rfl⟩
instance : TyI Tryz.prog 1 1 false := ⟨by kernel_rfl, by kernel_rfl⟩
instance : ZI Tryz.prog 1 [.raw .nilFunc] := ⟨by kernel_rfl⟩
instance : TyI Tryz.prog 2 1 false := ⟨by kernel_rfl, by kernel_rfl⟩
instance : ZI Tryz.prog 2 [.int .i64 0] := ⟨by kernel_rfl⟩
instance : UI Tryz.prog 2 (.int .i64) := ⟨by kernel_rfl⟩
instance : TyI Tryz.prog 3 1 false := ⟨by kernel_rfl, by kernel_rfl⟩
instance : ZI Tryz.prog 3 [.int .i64 0] := ⟨by kernel_rfl⟩
instance : UI Tryz.prog 3 (.int .i64) := ⟨by kernel_rfl⟩
instance : TyI Tryz.prog 4 1 false := ⟨by kernel_rfl, by kernel_rfl⟩
instance : ZI Tryz.prog 4 [.bool false] := ⟨by kernel_rfl⟩
instance : UI Tryz.prog 4 (.bool) := ⟨by kernel_rfl⟩
instance : TyI Tryz.prog 5 1 false := ⟨by kernel_rfl, by kernel_rfl⟩
instance : ZI Tryz.prog 5 [.int .u8 0] := ⟨by kernel_rfl⟩
instance : UI Tryz.prog 5 (.int .u8) := ⟨by kernel_rfl⟩
instance : TyI Tryz.prog 6 1 false := ⟨by kernel_rfl, by kernel_rfl⟩
instance : ZI Tryz.prog 6 [.int .u8 0] := ⟨by kernel_rfl⟩
instance : UI Tryz.prog 6 (.int .u8) := ⟨by kernel_rfl⟩
instance : TyI Tryz.prog 7 4 true := ⟨by kernel_rfl, by kernel_rfl⟩
instance : FldI Tryz.prog 7 0 0 2 := ⟨by kernel_rfl, by kernel_rfl⟩
instance : FldI Tryz.prog 7 1 1 3 := ⟨by kernel_rfl, by kernel_rfl⟩
instance : FldI Tryz.prog 7 2 2 4 := ⟨by kernel_rfl, by kernel_rfl⟩
instance : FldI Tryz.prog 7 3 3 6 := ⟨by kernel_rfl, by kernel_rfl⟩
instance : ZI Tryz.prog 7 [.int .i64 0, .int .i64 0, .bool false, .int .u8 0] := ⟨by kernel_rfl⟩
instance : BdI Tryz.prog 7 [.int .i64 0, .int .i64 0, .bool false, .int .u8 0] [(0, 1), (1, 1), (2, 1), (3, 1)] := ⟨by kernel_rfl⟩
instance : TyI Tryz.prog 8 4 true := ⟨by kernel_rfl, by kernel_rfl⟩
instance : FldI Tryz.prog 8 0 0 2 := ⟨by kernel_rfl, by kernel_rfl⟩
instance : FldI Tryz.prog 8 1 1 3 := ⟨by kernel_rfl, by kernel_rfl⟩
instance : FldI Tryz.prog 8 2 2 4 := ⟨by kernel_rfl, by kernel_rfl⟩
instance : FldI Tryz.prog 8 3 3 6 := ⟨by kernel_rfl, by kernel_rfl⟩
instance : ZI Tryz.prog 8 [.int .i64 0, .int .i64 0, .bool false, .int .u8 0] := ⟨by kernel_rfl⟩
instance : BdI Tryz.prog 8 [.int .i64 0, .int .i64 0, .bool false, .int .u8 0] [(0, 1), (1, 1), (2, 1), (3, 1)] := ⟨by kernel_rfl⟩
instance : TyI Tryz.prog 9 1 false := ⟨by kernel_rfl, by kernel_rfl⟩
instance : ZI Tryz.prog 9 [.str .empty] := ⟨by kernel_rfl⟩
instance : UI Tryz.prog 9 (.string) := ⟨by kernel_rfl⟩
instance : TyI Tryz.prog 10 1 false := ⟨by kernel_rfl, by kernel_rfl⟩
instance : ZI Tryz.prog 10 [.str .empty] := ⟨by kernel_rfl⟩
instance : UI Tryz.prog 10 (.string) := ⟨by kernel_rfl⟩
instance : TyI Tryz.prog 11 1 false := ⟨by kernel_rfl, by kernel_rfl⟩
instance : ZI Tryz.prog 11 [.str .empty] := ⟨by kernel_rfl⟩
instance : UI Tryz.prog 11 (.string) := ⟨by kernel_rfl⟩
instance : TyI Tryz.prog 12 1 false := ⟨by kernel_rfl, by kernel_rfl⟩
instance : ZI Tryz.prog 12 [.int .u64 0] := ⟨by kernel_rfl⟩
instance : UI Tryz.prog 12 (.int .u64) := ⟨by kernel_rfl⟩
instance : TyI Tryz.prog 13 2 true := ⟨by kernel_rfl, by kernel_rfl⟩
instance : FldI Tryz.prog 13 0 0 9 := ⟨by kernel_rfl, by kernel_rfl⟩
instance : FldI Tryz.prog 13 1 1 12 := ⟨by kernel_rfl, by kernel_rfl⟩
instance : ZI Tryz.prog 13 [.str .empty, .int .u64 0] := ⟨by kernel_rfl⟩
instance : BdI Tryz.prog 13 [.str .empty, .int .u64 0] [(0, 1), (1, 1)] := ⟨by kernel_rfl⟩
instance : TyI Tryz.prog 14 2 true := ⟨by kernel_rfl, by kernel_rfl⟩
instance : FldI Tryz.prog 14 0 0 9 := ⟨by kernel_rfl, by kernel_rfl⟩
instance : FldI Tryz.prog 14 1 1 12 := ⟨by kernel_rfl, by kernel_rfl⟩
instance : ZI Tryz.prog 14 [.str .empty, .int .u64 0] := ⟨by kernel_rfl⟩
instance : BdI Tryz.prog 14 [.str .empty, .int .u64 0] [(0, 1), (1, 1)] := ⟨by kernel_rfl⟩
instance : TyI Tryz.prog 15 1 false := ⟨by kernel_rfl, by kernel_rfl⟩
instance : ZI Tryz.prog 15 [.raw (.pointer none)] := ⟨by kernel_rfl⟩
instance : PtI Tryz.prog 15 := ⟨by kernel_rfl⟩
instance : TyI Tryz.prog 16 1 false := ⟨by kernel_rfl, by kernel_rfl⟩
instance : ZI Tryz.prog 16 [.raw (.pointer none)] := ⟨by kernel_rfl⟩
instance : TyI Tryz.prog 17 1 false := ⟨by kernel_rfl, by kernel_rfl⟩
instance : ZI Tryz.prog 17 [.raw (.pointer none)] := ⟨by kernel_rfl⟩
instance : PtI Tryz.prog 17 := ⟨by kernel_rfl⟩
instance : TyI Tryz.prog 18 1 true := ⟨by kernel_rfl, by kernel_rfl⟩
instance : FldI Tryz.prog 18 0 0 17 := ⟨by kernel_rfl, by kernel_rfl⟩
instance : ZI Tryz.prog 18 [.raw (.pointer none)] := ⟨by kernel_rfl⟩
instance : BdI Tryz.prog 18 [.raw (.pointer none)] [(0, 1)] := ⟨by kernel_rfl⟩
instance : TyI Tryz.prog 19 1 true := ⟨by kernel_rfl, by kernel_rfl⟩
instance : FldI Tryz.prog 19 0 0 17 := ⟨by kernel_rfl, by kernel_rfl⟩
instance : ZI Tryz.prog 19 [.raw (.pointer none)] := ⟨by kernel_rfl⟩
instance : BdI Tryz.prog 19 [.raw (.pointer none)] [(0, 1)] := ⟨by kernel_rfl⟩
instance : TyI Tryz.prog 20 1 false := ⟨by kernel_rfl, by kernel_rfl⟩
instance : ZI Tryz.prog 20 [.raw .nilIface] := ⟨by kernel_rfl⟩
instance : TyI Tryz.prog 21 1 false := ⟨by kernel_rfl, by kernel_rfl⟩
instance : ZI Tryz.prog 21 [.int .i32 0] := ⟨by kernel_rfl⟩
instance : UI Tryz.prog 21 (.int .i32) := ⟨by kernel_rfl⟩
instance : TyI Tryz.prog 22 1 false := ⟨by kernel_rfl, by kernel_rfl⟩
instance : SlI Tryz.prog 22 30 1 := ⟨by kernel_rfl, by kernel_rfl⟩
instance : EI Tryz.prog 22 1 8 [.flt 0] := ⟨by kernel_rfl⟩
instance : ZI Tryz.prog 22 [.slnil] := ⟨by kernel_rfl⟩
instance : TyI Tryz.prog 23 5 true := ⟨by kernel_rfl, by kernel_rfl⟩
instance : FldI Tryz.prog 23 0 0 22 := ⟨by kernel_rfl, by kernel_rfl⟩
instance : FldI Tryz.prog 23 1 1 3 := ⟨by kernel_rfl, by kernel_rfl⟩
instance : FldI Tryz.prog 23 2 2 3 := ⟨by kernel_rfl, by kernel_rfl⟩
instance : FldI Tryz.prog 23 3 3 3 := ⟨by kernel_rfl, by kernel_rfl⟩
instance : FldI Tryz.prog 23 4 4 3 := ⟨by kernel_rfl, by kernel_rfl⟩
instance : ZI Tryz.prog 23 [.slnil, .int .i64 0, .int .i64 0, .int .i64 0, .int .i64 0] := ⟨by kernel_rfl⟩
instance : BdI Tryz.prog 23 [.slnil, .int .i64 0, .int .i64 0, .int .i64 0, .int .i64 0] [(0, 1), (1, 1), (2, 1), (3, 1), (4, 1)] := ⟨by kernel_rfl⟩
instance : TyI Tryz.prog 24 5 true := ⟨by kernel_rfl, by kernel_rfl⟩
instance : FldI Tryz.prog 24 0 0 22 := ⟨by kernel_rfl, by kernel_rfl⟩
instance : FldI Tryz.prog 24 1 1 3 := ⟨by kernel_rfl, by kernel_rfl⟩
instance : FldI Tryz.prog 24 2 2 3 := ⟨by kernel_rfl, by kernel_rfl⟩
instance : FldI Tryz.prog 24 3 3 3 := ⟨by kernel_rfl, by kernel_rfl⟩
instance : FldI Tryz.prog 24 4 4 3 := ⟨by kernel_rfl, by kernel_rfl⟩
instance : ZI Tryz.prog 24 [.slnil, .int .i64 0, .int .i64 0, .int .i64 0, .int .i64 0] := ⟨by kernel_rfl⟩
instance : BdI Tryz.prog 24 [.slnil, .int .i64 0, .int .i64 0, .int .i64 0, .int .i64 0] [(0, 1), (1, 1), (2, 1), (3, 1), (4, 1)] := ⟨by kernel_rfl⟩
instance : TyI Tryz.prog 25 1 false := ⟨by kernel_rfl, by kernel_rfl⟩
instance : SlI Tryz.prog 25 3 1 := ⟨by kernel_rfl, by kernel_rfl⟩
instance : EI Tryz.prog 25 1 8 [.int .i64 0] := ⟨by kernel_rfl⟩
instance : ZI Tryz.prog 25 [.slnil] := ⟨by kernel_rfl⟩
instance : TyI Tryz.prog 26 6 true := ⟨by kernel_rfl, by kernel_rfl⟩
instance : FldI Tryz.prog 26 0 0 24 := ⟨by kernel_rfl, by kernel_rfl⟩
instance : FldI Tryz.prog 26 1 5 25 := ⟨by kernel_rfl, by kernel_rfl⟩
instance : ZI Tryz.prog 26 [.slnil, .int .i64 0, .int .i64 0, .int .i64 0, .int .i64 0, .slnil] := ⟨by kernel_rfl⟩
instance : BdI Tryz.prog 26 [.slnil, .int .i64 0, .int .i64 0, .int .i64 0, .int .i64 0, .slnil] [(0, 5), (5, 1)] := ⟨by kernel_rfl⟩
instance : TyI Tryz.prog 27 6 true := ⟨by kernel_rfl, by kernel_rfl⟩
instance : FldI Tryz.prog 27 0 0 24 := ⟨by kernel_rfl, by kernel_rfl⟩
instance : FldI Tryz.prog 27 1 5 25 := ⟨by kernel_rfl, by kernel_rfl⟩
instance : ZI Tryz.prog 27 [.slnil, .int .i64 0, .int .i64 0, .int .i64 0, .int .i64 0, .slnil] := ⟨by kernel_rfl⟩
instance : BdI Tryz.prog 27 [.slnil, .int .i64 0, .int .i64 0, .int .i64 0, .int .i64 0, .slnil] [(0, 5), (5, 1)] := ⟨by kernel_rfl⟩
instance : TyI Tryz.prog 28 1 false := ⟨by kernel_rfl, by kernel_rfl⟩
instance : ZI Tryz.prog 28 [.raw .nilFunc] := ⟨by kernel_rfl⟩
instance : TyI Tryz.prog 29 1 false := ⟨by kernel_rfl, by kernel_rfl⟩
instance : ZI Tryz.prog 29 [.raw .nilFunc] := ⟨by kernel_rfl⟩
instance : TyI Tryz.prog 30 1 false := ⟨by kernel_rfl, by kernel_rfl⟩
instance : ZI Tryz.prog 30 [.flt 0] := ⟨by kernel_rfl⟩
instance : UI Tryz.prog 30 (.float .f64) := ⟨by kernel_rfl⟩
instance : TyI Tryz.prog 31 1 false := ⟨by kernel_rfl, by kernel_rfl⟩
instance : ZI Tryz.prog 31 [.int .i64 0] := ⟨by kernel_rfl⟩
instance : UI Tryz.prog 31 (.int .i64) := ⟨by kernel_rfl⟩
instance : TyI Tryz.prog 32 1 false := ⟨by kernel_rfl, by kernel_rfl⟩
instance : TyI Tryz.prog 33 1 false := ⟨by kernel_rfl, by kernel_rfl⟩
instance : ZI Tryz.prog 33 [.raw .nilFunc] := ⟨by kernel_rfl⟩
instance : TyI Tryz.prog 34 1 false := ⟨by kernel_rfl, by kernel_rfl⟩
instance : TyI Tryz.prog 35 1 false := ⟨by kernel_rfl, by kernel_rfl⟩
instance : ZI Tryz.prog 35 [.raw .nilFunc] := ⟨by kernel_rfl⟩
instance : TyI Tryz.prog 36 1 false := ⟨by kernel_rfl, by kernel_rfl⟩
instance : ZI Tryz.prog 36 [.raw .nilFunc] := ⟨by kernel_rfl⟩
instance : TyI Tryz.prog 37 3 true := ⟨by kernel_rfl, by kernel_rfl⟩
instance : FldI Tryz.prog 37 0 0 3 := ⟨by kernel_rfl, by kernel_rfl⟩
instance : FldI Tryz.prog 37 1 1 3 := ⟨by kernel_rfl, by kernel_rfl⟩
instance : FldI Tryz.prog 37 2 2 22 := ⟨by kernel_rfl, by kernel_rfl⟩
instance : ZI Tryz.prog 37 [.int .i64 0, .int .i64 0, .slnil] := ⟨by kernel_rfl⟩
instance : BdI Tryz.prog 37 [.int .i64 0, .int .i64 0, .slnil] [(0, 1), (1, 1), (2, 1)] := ⟨by kernel_rfl⟩
instance : TyI Tryz.prog 38 3 true := ⟨by kernel_rfl, by kernel_rfl⟩
instance : FldI Tryz.prog 38 0 0 3 := ⟨by kernel_rfl, by kernel_rfl⟩
instance : FldI Tryz.prog 38 1 1 3 := ⟨by kernel_rfl, by kernel_rfl⟩
instance : FldI Tryz.prog 38 2 2 22 := ⟨by kernel_rfl, by kernel_rfl⟩
instance : ZI Tryz.prog 38 [.int .i64 0, .int .i64 0, .slnil] := ⟨by kernel_rfl⟩
instance : BdI Tryz.prog 38 [.int .i64 0, .int .i64 0, .slnil] [(0, 1), (1, 1), (2, 1)] := ⟨by kernel_rfl⟩
instance : TyI Tryz.prog 39 1 false := ⟨by kernel_rfl, by kernel_rfl⟩
instance : ZI Tryz.prog 39 [.raw .nilFunc] := ⟨by kernel_rfl⟩
instance : TyI Tryz.prog 40 1 false := ⟨by kernel_rfl, by kernel_rfl⟩
instance : ZI Tryz.prog 40 [.raw .nilFunc] := ⟨by kernel_rfl⟩
instance : TyI Tryz.prog 41 1 false := ⟨by kernel_rfl, by kernel_rfl⟩
instance : TyI Tryz.prog 42 1 false := ⟨by kernel_rfl, by kernel_rfl⟩
instance : ZI Tryz.prog 42 [.raw .nilFunc] := ⟨by kernel_rfl⟩
instance : TyI Tryz.prog 43 1 false := ⟨by kernel_rfl, by kernel_rfl⟩
instance : ZI Tryz.prog 43 [.raw .nilFunc] := ⟨by kernel_rfl⟩
instance : TyI Tryz.prog 44 1 false := ⟨by kernel_rfl, by kernel_rfl⟩
instance : ZI Tryz.prog 44 [.raw .nilFunc] := ⟨by kernel_rfl⟩
instance : TyI Tryz.prog 45 1 false := ⟨by kernel_rfl, by kernel_rfl⟩
instance : ZI Tryz.prog 45 [.raw .nilFunc] := ⟨by kernel_rfl⟩
instance : TyI Tryz.prog 46 1 false := ⟨by kernel_rfl, by kernel_rfl⟩
instance : ZI Tryz.prog 46 [.raw .nilFunc] := ⟨by kernel_rfl⟩
instance : TyI Tryz.prog 47 1 false := ⟨by kernel_rfl, by kernel_rfl⟩
instance : ZI Tryz.prog 47 [.raw .nilFunc] := ⟨by kernel_rfl⟩
instance : TyI Tryz.prog 48 13 true := ⟨by kernel_rfl, by kernel_rfl⟩
instance : FldI Tryz.prog 48 0 0 24 := ⟨by kernel_rfl, by kernel_rfl⟩
instance : FldI Tryz.prog 48 1 5 27 := ⟨by kernel_rfl, by kernel_rfl⟩
instance : FldI Tryz.prog 48 2 11 25 := ⟨by kernel_rfl, by kernel_rfl⟩
instance : FldI Tryz.prog 48 3 12 25 := ⟨by kernel_rfl, by kernel_rfl⟩
instance : ZI Tryz.prog 48 [.slnil, .int .i64 0, .int .i64 0, .int .i64 0, .int .i64 0, .slnil, .int .i64 0, .int .i64 0, .int .i64 0, .int .i64 0, .slnil, .slnil, .slnil] := ⟨by kernel_rfl⟩
instance : BdI Tryz.prog 48 [.slnil, .int .i64 0, .int .i64 0, .int .i64 0, .int .i64 0, .slnil, .int .i64 0, .int .i64 0, .int .i64 0, .int .i64 0, .slnil, .slnil, .slnil] [(0, 5), (5, 6), (11, 1), (12, 1)] := ⟨by kernel_rfl⟩
instance : TyI Tryz.prog 49 13 true := ⟨by kernel_rfl, by kernel_rfl⟩
instance : FldI Tryz.prog 49 0 0 24 := ⟨by kernel_rfl, by kernel_rfl⟩
instance : FldI Tryz.prog 49 1 5 27 := ⟨by kernel_rfl, by kernel_rfl⟩
instance : FldI Tryz.prog 49 2 11 25 := ⟨by kernel_rfl, by kernel_rfl⟩
instance : FldI Tryz.prog 49 3 12 25 := ⟨by kernel_rfl, by kernel_rfl⟩
instance : ZI Tryz.prog 49 [.slnil, .int .i64 0, .int .i64 0, .int .i64 0, .int .i64 0, .slnil, .int .i64 0, .int .i64 0, .int .i64 0, .int .i64 0, .slnil, .slnil, .slnil] := ⟨by kernel_rfl⟩
instance : BdI Tryz.prog 49 [.slnil, .int .i64 0, .int .i64 0, .int .i64 0, .int .i64 0, .slnil, .int .i64 0, .int .i64 0, .int .i64 0, .int .i64 0, .slnil, .slnil, .slnil] [(0, 5), (5, 6), (11, 1), (12, 1)] := ⟨by kernel_rfl⟩
instance : TyI Tryz.prog 50 9 true := ⟨by kernel_rfl, by kernel_rfl⟩
instance : FldI Tryz.prog 50 0 0 38 := ⟨by kernel_rfl, by kernel_rfl⟩
instance : FldI Tryz.prog 50 1 3 38 := ⟨by kernel_rfl, by kernel_rfl⟩
instance : FldI Tryz.prog 50 2 6 25 := ⟨by kernel_rfl, by kernel_rfl⟩
instance : FldI Tryz.prog 50 3 7 25 := ⟨by kernel_rfl, by kernel_rfl⟩
instance : FldI Tryz.prog 50 4 8 25 := ⟨by kernel_rfl, by kernel_rfl⟩
instance : ZI Tryz.prog 50 [.int .i64 0, .int .i64 0, .slnil, .int .i64 0, .int .i64 0, .slnil, .slnil, .slnil, .slnil] := ⟨by kernel_rfl⟩
instance : BdI Tryz.prog 50 [.int .i64 0, .int .i64 0, .slnil, .int .i64 0, .int .i64 0, .slnil, .slnil, .slnil, .slnil] [(0, 3), (3, 3), (6, 1), (7, 1), (8, 1)] := ⟨by kernel_rfl⟩
instance : TyI Tryz.prog 51 9 true := ⟨by kernel_rfl, by kernel_rfl⟩
instance : FldI Tryz.prog 51 0 0 38 := ⟨by kernel_rfl, by kernel_rfl⟩
instance : FldI Tryz.prog 51 1 3 38 := ⟨by kernel_rfl, by kernel_rfl⟩
instance : FldI Tryz.prog 51 2 6 25 := ⟨by kernel_rfl, by kernel_rfl⟩
instance : FldI Tryz.prog 51 3 7 25 := ⟨by kernel_rfl, by kernel_rfl⟩
instance : FldI Tryz.prog 51 4 8 25 := ⟨by kernel_rfl, by kernel_rfl⟩
instance : ZI Tryz.prog 51 [.int .i64 0, .int .i64 0, .slnil, .int .i64 0, .int .i64 0, .slnil, .slnil, .slnil, .slnil] := ⟨by kernel_rfl⟩
instance : BdI Tryz.prog 51 [.int .i64 0, .int .i64 0, .slnil, .int .i64 0, .int .i64 0, .slnil, .slnil, .slnil, .slnil] [(0, 3), (3, 3), (6, 1), (7, 1), (8, 1)] := ⟨by kernel_rfl⟩
instance : TyI Tryz.prog 52 1 false := ⟨by kernel_rfl, by kernel_rfl⟩
instance : TyI Tryz.prog 53 1 false := ⟨by kernel_rfl, by kernel_rfl⟩
instance : ZI Tryz.prog 53 [.raw .nilFunc] := ⟨by kernel_rfl⟩
instance : TyI Tryz.prog 54 1 false := ⟨by kernel_rfl, by kernel_rfl⟩
instance : ZI Tryz.prog 54 [.raw .nilFunc] := ⟨by kernel_rfl⟩
instance : TyI Tryz.prog 55 1 false := ⟨by kernel_rfl, by kernel_rfl⟩
instance : ZI Tryz.prog 55 [.raw .nilFunc] := ⟨by kernel_rfl⟩
instance : TyI Tryz.prog 56 1 false := ⟨by kernel_rfl, by kernel_rfl⟩
instance : ZI Tryz.prog 56 [.raw .nilFunc] := ⟨by kernel_rfl⟩
instance : TyI Tryz.prog 57 1 false := ⟨by kernel_rfl, by kernel_rfl⟩
instance : TyI Tryz.prog 58 1 false := ⟨by kernel_rfl, by kernel_rfl⟩
instance : ZI Tryz.prog 58 [.raw .nilFunc] := ⟨by kernel_rfl⟩
instance : TyI Tryz.prog 59 1 false := ⟨by kernel_rfl, by kernel_rfl⟩
instance : ZI Tryz.prog 59 [.raw .nilFunc] := ⟨by kernel_rfl⟩
instance : TyI Tryz.prog 60 1 false := ⟨by kernel_rfl, by kernel_rfl⟩
instance : ZI Tryz.prog 60 [.raw .nilFunc] := ⟨by kernel_rfl⟩
instance : TyI Tryz.prog 61 1 false := ⟨by kernel_rfl, by kernel_rfl⟩
instance : SlI Tryz.prog 61 63 3 := ⟨by kernel_rfl, by kernel_rfl⟩
instance : EI Tryz.prog 61 3 40 [.bool false, .slnil, .int .i64 0] := ⟨by kernel_rfl⟩
instance : ZI Tryz.prog 61 [.slnil] := ⟨by kernel_rfl⟩
instance : TyI Tryz.prog 62 3 true := ⟨by kernel_rfl, by kernel_rfl⟩
instance : FldI Tryz.prog 62 0 0 4 := ⟨by kernel_rfl, by kernel_rfl⟩
instance : FldI Tryz.prog 62 1 1 25 := ⟨by kernel_rfl, by kernel_rfl⟩
instance : FldI Tryz.prog 62 2 2 3 := ⟨by kernel_rfl, by kernel_rfl⟩
instance : ZI Tryz.prog 62 [.bool false, .slnil, .int .i64 0] := ⟨by kernel_rfl⟩
instance : BdI Tryz.prog 62 [.bool false, .slnil, .int .i64 0] [(0, 1), (1, 1), (2, 1)] := ⟨by kernel_rfl⟩
instance : TyI Tryz.prog 63 3 true := ⟨by kernel_rfl, by kernel_rfl⟩
instance : FldI Tryz.prog 63 0 0 4 := ⟨by kernel_rfl, by kernel_rfl⟩
instance : FldI Tryz.prog 63 1 1 25 := ⟨by kernel_rfl, by kernel_rfl⟩
instance : FldI Tryz.prog 63 2 2 3 := ⟨by kernel_rfl, by kernel_rfl⟩
instance : ZI Tryz.prog 63 [.bool false, .slnil, .int .i64 0] := ⟨by kernel_rfl⟩
instance : BdI Tryz.prog 63 [.bool false, .slnil, .int .i64 0] [(0, 1), (1, 1), (2, 1)] := ⟨by kernel_rfl⟩
instance : TyI Tryz.prog 64 1 false := ⟨by kernel_rfl, by kernel_rfl⟩
instance : ZI Tryz.prog 64 [.raw .nilFunc] := ⟨by kernel_rfl⟩
instance : TyI Tryz.prog 65 1 false := ⟨by kernel_rfl, by kernel_rfl⟩
instance : ZI Tryz.prog 65 [.raw .nilFunc] := ⟨by kernel_rfl⟩
instance : TyI Tryz.prog 66 1 false := ⟨by kernel_rfl, by kernel_rfl⟩
instance : ZI Tryz.prog 66 [.raw .nilFunc] := ⟨by kernel_rfl⟩
instance : TyI Tryz.prog 67 1 false := ⟨by kernel_rfl, by kernel_rfl⟩
instance : ZI Tryz.prog 67 [.raw .nilFunc] := ⟨by kernel_rfl⟩
instance : TyI Tryz.prog 68 1 false := ⟨by kernel_rfl, by kernel_rfl⟩
instance : ZI Tryz.prog 68 [.raw .nilFunc] := ⟨by kernel_rfl⟩
instance : TyI Tryz.prog 69 1 false := ⟨by kernel_rfl, by kernel_rfl⟩
instance : ZI Tryz.prog 69 [.raw .nilFunc] := ⟨by kernel_rfl⟩
instance : TyI Tryz.prog 70 1 false := ⟨by kernel_rfl, by kernel_rfl⟩
instance : ZI Tryz.prog 70 [.raw .nilFunc] := ⟨by kernel_rfl⟩
instance : TyI Tryz.prog 71 1 false := ⟨by kernel_rfl, by kernel_rfl⟩
instance : ZI Tryz.prog 71 [.raw .nilFunc] := ⟨by kernel_rfl⟩
instance : TyI Tryz.prog 72 1 false := ⟨by kernel_rfl, by kernel_rfl⟩
instance : ZI Tryz.prog 72 [.raw .nilFunc] := ⟨by kernel_rfl⟩
instance : TyI Tryz.prog 73 1 false := ⟨by kernel_rfl, by kernel_rfl⟩
instance : TyI Tryz.prog 74 1 false := ⟨by kernel_rfl, by kernel_rfl⟩
instance : ZI Tryz.prog 74 [.raw .nilFunc] := ⟨by kernel_rfl⟩
instance : TyI Tryz.prog 75 1 false := ⟨by kernel_rfl, by kernel_rfl⟩
instance : ZI Tryz.prog 75 [.raw .nilFunc] := ⟨by kernel_rfl⟩
instance : TyI Tryz.prog 76 1 false := ⟨by kernel_rfl, by kernel_rfl⟩
instance : ZI Tryz.prog 76 [.raw .nilFunc] := ⟨by kernel_rfl⟩
instance : TyI Tryz.prog 77 1 false := ⟨by kernel_rfl, by kernel_rfl⟩
instance : ZI Tryz.prog 77 [.raw (.pointer none)] := ⟨by kernel_rfl⟩
instance : PtI Tryz.prog 77 := ⟨by kernel_rfl⟩
instance : TyI Tryz.prog 78 1 false := ⟨by kernel_rfl, by kernel_rfl⟩
instance : TyI Tryz.prog 79 1 false := ⟨by kernel_rfl, by kernel_rfl⟩
instance : ZI Tryz.prog 79 [.raw .nilFunc] := ⟨by kernel_rfl⟩
instance : TyI Tryz.prog 80 1 false := ⟨by kernel_rfl, by kernel_rfl⟩
instance : ZI Tryz.prog 80 [.raw .nilFunc] := ⟨by kernel_rfl⟩
instance : TyI Tryz.prog 81 4 true := ⟨by kernel_rfl, by kernel_rfl⟩
instance : FldI Tryz.prog 81 0 0 22 := ⟨by kernel_rfl, by kernel_rfl⟩
instance : FldI Tryz.prog 81 1 1 3 := ⟨by kernel_rfl, by kernel_rfl⟩
instance : FldI Tryz.prog 81 2 2 3 := ⟨by kernel_rfl, by kernel_rfl⟩
instance : FldI Tryz.prog 81 3 3 3 := ⟨by kernel_rfl, by kernel_rfl⟩
instance : ZI Tryz.prog 81 [.slnil, .int .i64 0, .int .i64 0, .int .i64 0] := ⟨by kernel_rfl⟩
instance : BdI Tryz.prog 81 [.slnil, .int .i64 0, .int .i64 0, .int .i64 0] [(0, 1), (1, 1), (2, 1), (3, 1)] := ⟨by kernel_rfl⟩
instance : TyI Tryz.prog 82 4 true := ⟨by kernel_rfl, by kernel_rfl⟩
instance : FldI Tryz.prog 82 0 0 22 := ⟨by kernel_rfl, by kernel_rfl⟩
instance : FldI Tryz.prog 82 1 1 3 := ⟨by kernel_rfl, by kernel_rfl⟩
instance : FldI Tryz.prog 82 2 2 3 := ⟨by kernel_rfl, by kernel_rfl⟩
instance : FldI Tryz.prog 82 3 3 3 := ⟨by kernel_rfl, by kernel_rfl⟩
instance : ZI Tryz.prog 82 [.slnil, .int .i64 0, .int .i64 0, .int .i64 0] := ⟨by kernel_rfl⟩
instance : BdI Tryz.prog 82 [.slnil, .int .i64 0, .int .i64 0, .int .i64 0] [(0, 1), (1, 1), (2, 1), (3, 1)] := ⟨by kernel_rfl⟩
instance : TyI Tryz.prog 83 1 false := ⟨by kernel_rfl, by kernel_rfl⟩
instance : ZI Tryz.prog 83 [.raw .nilFunc] := ⟨by kernel_rfl⟩
instance : TyI Tryz.prog 84 1 false := ⟨by kernel_rfl, by kernel_rfl⟩
instance : ZI Tryz.prog 84 [.raw .nilFunc] := ⟨by kernel_rfl⟩
instance : TyI Tryz.prog 85 1 false := ⟨by kernel_rfl, by kernel_rfl⟩
instance : ZI Tryz.prog 85 [.raw .nilFunc] := ⟨by kernel_rfl⟩
instance : TyI Tryz.prog 86 1 false := ⟨by kernel_rfl, by kernel_rfl⟩
instance : ZI Tryz.prog 86 [.raw .nilFunc] := ⟨by kernel_rfl⟩
instance : TyI Tryz.prog 87 1 false := ⟨by kernel_rfl, by kernel_rfl⟩
instance : ZI Tryz.prog 87 [.raw .nilFunc] := ⟨by kernel_rfl⟩
instance : TyI Tryz.prog 88 1 false := ⟨by kernel_rfl, by kernel_rfl⟩
instance : ZI Tryz.prog 88 [.raw .nilFunc] := ⟨by kernel_rfl⟩
instance : TyI Tryz.prog 89 1 false := ⟨by kernel_rfl, by kernel_rfl⟩
instance : ZI Tryz.prog 89 [.raw .nilFunc] := ⟨by kernel_rfl⟩
instance : TyI Tryz.prog 90 1 false := ⟨by kernel_rfl, by kernel_rfl⟩
instance : ZI Tryz.prog 90 [.raw .nilFunc] := ⟨by kernel_rfl⟩
instance : TyI Tryz.prog 91 1 false := ⟨by kernel_rfl, by kernel_rfl⟩
instance : ZI Tryz.prog 91 [.raw .nilFunc] := ⟨by kernel_rfl⟩
instance : TyI Tryz.prog 92 1 false := ⟨by kernel_rfl, by kernel_rfl⟩
instance : ZI Tryz.prog 92 [.raw (.pointer none)] := ⟨by kernel_rfl⟩
instance : PtI Tryz.prog 92 := ⟨by kernel_rfl⟩
instance : TyI Tryz.prog 93 7 true := ⟨by kernel_rfl, by kernel_rfl⟩
instance : FldI Tryz.prog 93 0 0 3 := ⟨by kernel_rfl, by kernel_rfl⟩
instance : FldI Tryz.prog 93 1 1 3 := ⟨by kernel_rfl, by kernel_rfl⟩
instance : FldI Tryz.prog 93 2 2 30 := ⟨by kernel_rfl, by kernel_rfl⟩
instance : FldI Tryz.prog 93 3 3 22 := ⟨by kernel_rfl, by kernel_rfl⟩
instance : FldI Tryz.prog 93 4 4 22 := ⟨by kernel_rfl, by kernel_rfl⟩
instance : FldI Tryz.prog 93 5 5 3 := ⟨by kernel_rfl, by kernel_rfl⟩
instance : FldI Tryz.prog 93 6 6 3 := ⟨by kernel_rfl, by kernel_rfl⟩
instance : ZI Tryz.prog 93 [.int .i64 0, .int .i64 0, .flt 0, .slnil, .slnil, .int .i64 0, .int .i64 0] := ⟨by kernel_rfl⟩
instance : BdI Tryz.prog 93 [.int .i64 0, .int .i64 0, .flt 0, .slnil, .slnil, .int .i64 0, .int .i64 0] [(0, 1), (1, 1), (2, 1), (3, 1), (4, 1), (5, 1), (6, 1)] := ⟨by kernel_rfl⟩
instance : TyI Tryz.prog 94 7 true := ⟨by kernel_rfl, by kernel_rfl⟩
instance : FldI Tryz.prog 94 0 0 3 := ⟨by kernel_rfl, by kernel_rfl⟩
instance : FldI Tryz.prog 94 1 1 3 := ⟨by kernel_rfl, by kernel_rfl⟩
instance : FldI Tryz.prog 94 2 2 30 := ⟨by kernel_rfl, by kernel_rfl⟩
instance : FldI Tryz.prog 94 3 3 22 := ⟨by kernel_rfl, by kernel_rfl⟩
instance : FldI Tryz.prog 94 4 4 22 := ⟨by kernel_rfl, by kernel_rfl⟩
instance : FldI Tryz.prog 94 5 5 3 := ⟨by kernel_rfl, by kernel_rfl⟩
instance : FldI Tryz.prog 94 6 6 3 := ⟨by kernel_rfl, by kernel_rfl⟩
instance : ZI Tryz.prog 94 [.int .i64 0, .int .i64 0, .flt 0, .slnil, .slnil, .int .i64 0, .int .i64 0] := ⟨by kernel_rfl⟩
instance : BdI Tryz.prog 94 [.int .i64 0, .int .i64 0, .flt 0, .slnil, .slnil, .int .i64 0, .int .i64 0] [(0, 1), (1, 1), (2, 1), (3, 1), (4, 1), (5, 1), (6, 1)] := ⟨by kernel_rfl⟩
instance : TyI Tryz.prog 95 1 false := ⟨by kernel_rfl, by kernel_rfl⟩
instance : TyI Tryz.prog 96 1 false := ⟨by kernel_rfl, by kernel_rfl⟩
instance : ZI Tryz.prog 96 [.raw .nilFunc] := ⟨by kernel_rfl⟩
instance : TyI Tryz.prog 97 1 false := ⟨by kernel_rfl, by kernel_rfl⟩
instance : TyI Tryz.prog 98 1 false := ⟨by kernel_rfl, by kernel_rfl⟩
instance : ZI Tryz.prog 98 [.raw .nilFunc] := ⟨by kernel_rfl⟩
instance : TyI Tryz.prog 99 1 false := ⟨by kernel_rfl, by kernel_rfl⟩
instance : ZI Tryz.prog 99 [.int .u64 0] := ⟨by kernel_rfl⟩
instance : UI Tryz.prog 99 (.int .u64) := ⟨by kernel_rfl⟩
instance : TyI Tryz.prog 100 1 false := ⟨by kernel_rfl, by kernel_rfl⟩
instance : TyI Tryz.prog 101 1 false := ⟨by kernel_rfl, by kernel_rfl⟩
instance : ZI Tryz.prog 101 [.raw .nilFunc] := ⟨by kernel_rfl⟩
instance : TyI Tryz.prog 102 1 false := ⟨by kernel_rfl, by kernel_rfl⟩
instance : ZI Tryz.prog 102 [.raw .nilFunc] := ⟨by kernel_rfl⟩
instance : TyI Tryz.prog 103 1 false := ⟨by kernel_rfl, by kernel_rfl⟩
instance : ZI Tryz.prog 103 [.raw .nilFunc] := ⟨by kernel_rfl⟩
instance : TyI Tryz.prog 104 1 false := ⟨by kernel_rfl, by kernel_rfl⟩
instance : ZI Tryz.prog 104 [.raw .nilFunc] := ⟨by kernel_rfl⟩
instance : TyI Tryz.prog 105 1 false := ⟨by kernel_rfl, by kernel_rfl⟩
instance : ZI Tryz.prog 105 [.raw .nilFunc] := ⟨by kernel_rfl⟩
instance : TyI Tryz.prog 106 1 false := ⟨by kernel_rfl, by kernel_rfl⟩
instance : TyI Tryz.prog 107 1 false := ⟨by kernel_rfl, by kernel_rfl⟩
instance : ZI Tryz.prog 107 [.raw .nilFunc] := ⟨by kernel_rfl⟩
instance : TyI Tryz.prog 108 1 false := ⟨by kernel_rfl, by kernel_rfl⟩
instance : TyI Tryz.prog 109 1 false := ⟨by kernel_rfl, by kernel_rfl⟩
instance : ZI Tryz.prog 109 [.raw .nilFunc] := ⟨by kernel_rfl⟩
instance : TyI Tryz.prog 110 1 false := ⟨by kernel_rfl, by kernel_rfl⟩
instance : ZI Tryz.prog 110 [.raw .nilFunc] := ⟨by kernel_rfl⟩
instance : TyI Tryz.prog 111 1 false := ⟨by kernel_rfl, by kernel_rfl⟩
instance : ZI Tryz.prog 111 [.raw .nilFunc] := ⟨by kernel_rfl⟩
instance : TyI Tryz.prog 112 1 false := ⟨by kernel_rfl, by kernel_rfl⟩
instance : TyI Tryz.prog 113 1 false := ⟨by kernel_rfl, by kernel_rfl⟩
instance : ZI Tryz.prog 113 [.raw .nilFunc] := ⟨by kernel_rfl⟩
instance : TyI Tryz.prog 114 1 false := ⟨by kernel_rfl, by kernel_rfl⟩
instance : ZI Tryz.prog 114 [.raw .nilFunc] := ⟨by kernel_rfl⟩
instance : TyI Tryz.prog 115 1 false := ⟨by kernel_rfl, by kernel_rfl⟩
instance : ZI Tryz.prog 115 [.raw .nilFunc] := ⟨by kernel_rfl⟩
instance : TyI Tryz.prog 116 1 false := ⟨by kernel_rfl, by kernel_rfl⟩
instance : ZI Tryz.prog 116 [.raw .nilFunc] := ⟨by kernel_rfl⟩
instance : TyI Tryz.prog 117 1 false := ⟨by kernel_rfl, by kernel_rfl⟩
instance : ZI Tryz.prog 117 [.raw .nilFunc] := ⟨by kernel_rfl⟩
instance : TyI Tryz.prog 118 1 false := ⟨by kernel_rfl, by kernel_rfl⟩
instance : ZI Tryz.prog 118 [.raw .nilFunc] := ⟨by kernel_rfl⟩
instance : TyI Tryz.prog 119 1 false := ⟨by kernel_rfl, by kernel_rfl⟩
instance : ZI Tryz.prog 119 [.raw .nilFunc] := ⟨by kernel_rfl⟩
instance : TyI Tryz.prog 120 1 false := ⟨by kernel_rfl, by kernel_rfl⟩
instance : TyI Tryz.prog 121 1 false := ⟨by kernel_rfl, by kernel_rfl⟩
instance : ZI Tryz.prog 121 [.raw .nilFunc] := ⟨by kernel_rfl⟩
instance : TyI Tryz.prog 122 1 false := ⟨by kernel_rfl, by kernel_rfl⟩
instance : ZI Tryz.prog 122 [.raw .nilFunc] := ⟨by kernel_rfl⟩
instance : TyI Tryz.prog 123 1 false := ⟨by kernel_rfl, by kernel_rfl⟩
instance : ZI Tryz.prog 123 [.raw .nilFunc] := ⟨by kernel_rfl⟩
instance : TyI Tryz.prog 124 1 false := ⟨by kernel_rfl, by kernel_rfl⟩
instance : ZI Tryz.prog 124 [.raw .nilFunc] := ⟨by kernel_rfl⟩
instance : TyI Tryz.prog 125 1 false := ⟨by kernel_rfl, by kernel_rfl⟩
instance : ZI Tryz.prog 125 [.raw .nilFunc] := ⟨by kernel_rfl⟩
instance : TyI Tryz.prog 126 1 false := ⟨by kernel_rfl, by kernel_rfl⟩
instance : TyI Tryz.prog 127 1 false := ⟨by kernel_rfl, by kernel_rfl⟩
instance : ZI Tryz.prog 127 [.raw .nilFunc] := ⟨by kernel_rfl⟩
instance : TyI Tryz.prog 128 1 false := ⟨by kernel_rfl, by kernel_rfl⟩
instance : TyI Tryz.prog 129 1 false := ⟨by kernel_rfl, by kernel_rfl⟩
instance : ZI Tryz.prog 129 [.raw .nilFunc] := ⟨by kernel_rfl⟩
instance : TyI Tryz.prog 130 1 false := ⟨by kernel_rfl, by kernel_rfl⟩
instance : ZI Tryz.prog 130 [.raw .nilFunc] := ⟨by kernel_rfl⟩
instance : TyI Tryz.prog 131 1 false := ⟨by kernel_rfl, by kernel_rfl⟩
instance : ZI Tryz.prog 131 [.raw .nilFunc] := ⟨by kernel_rfl⟩
instance : TyI Tryz.prog 132 1 false := ⟨by kernel_rfl, by kernel_rfl⟩
instance : ZI Tryz.prog 132 [.raw .nilFunc] := ⟨by kernel_rfl⟩
instance : TyI Tryz.prog 133 1 false := ⟨by kernel_rfl, by kernel_rfl⟩
instance : ZI Tryz.prog 133 [.raw .nilFunc] := ⟨by kernel_rfl⟩
instance : TyI Tryz.prog 134 1 false := ⟨by kernel_rfl, by kernel_rfl⟩
instance : ZI Tryz.prog 134 [.raw .nilFunc] := ⟨by kernel_rfl⟩
instance : TyI Tryz.prog 135 7 true := ⟨by kernel_rfl, by kernel_rfl⟩
instance : FldI Tryz.prog 135 0 0 3 := ⟨by kernel_rfl, by kernel_rfl⟩
instance : FldI Tryz.prog 135 1 1 3 := ⟨by kernel_rfl, by kernel_rfl⟩
instance : FldI Tryz.prog 135 2 2 30 := ⟨by kernel_rfl, by kernel_rfl⟩
instance : FldI Tryz.prog 135 3 3 22 := ⟨by kernel_rfl, by kernel_rfl⟩
instance : FldI Tryz.prog 135 4 4 22 := ⟨by kernel_rfl, by kernel_rfl⟩
instance : FldI Tryz.prog 135 5 5 3 := ⟨by kernel_rfl, by kernel_rfl⟩
instance : FldI Tryz.prog 135 6 6 3 := ⟨by kernel_rfl, by kernel_rfl⟩
instance : ZI Tryz.prog 135 [.int .i64 0, .int .i64 0, .flt 0, .slnil, .slnil, .int .i64 0, .int .i64 0] := ⟨by kernel_rfl⟩
instance : BdI Tryz.prog 135 [.int .i64 0, .int .i64 0, .flt 0, .slnil, .slnil, .int .i64 0, .int .i64 0] [(0, 1), (1, 1), (2, 1), (3, 1), (4, 1), (5, 1), (6, 1)] := ⟨by kernel_rfl⟩
instance : TyI Tryz.prog 136 7 true := ⟨by kernel_rfl, by kernel_rfl⟩
instance : FldI Tryz.prog 136 0 0 3 := ⟨by kernel_rfl, by kernel_rfl⟩
instance : FldI Tryz.prog 136 1 1 3 := ⟨by kernel_rfl, by kernel_rfl⟩
instance : FldI Tryz.prog 136 2 2 30 := ⟨by kernel_rfl, by kernel_rfl⟩
instance : FldI Tryz.prog 136 3 3 22 := ⟨by kernel_rfl, by kernel_rfl⟩
instance : FldI Tryz.prog 136 4 4 22 := ⟨by kernel_rfl, by kernel_rfl⟩
instance : FldI Tryz.prog 136 5 5 3 := ⟨by kernel_rfl, by kernel_rfl⟩
instance : FldI Tryz.prog 136 6 6 3 := ⟨by kernel_rfl, by kernel_rfl⟩
instance : ZI Tryz.prog 136 [.int .i64 0, .int .i64 0, .flt 0, .slnil, .slnil, .int .i64 0, .int .i64 0] := ⟨by kernel_rfl⟩
instance : BdI Tryz.prog 136 [.int .i64 0, .int .i64 0, .flt 0, .slnil, .slnil, .int .i64 0, .int .i64 0] [(0, 1), (1, 1), (2, 1), (3, 1), (4, 1), (5, 1), (6, 1)] := ⟨by kernel_rfl⟩
instance : TyI Tryz.prog 137 1 false := ⟨by kernel_rfl, by kernel_rfl⟩
instance : ZI Tryz.prog 137 [.raw .nilFunc] := ⟨by kernel_rfl⟩
instance : TyI Tryz.prog 138 1 false := ⟨by kernel_rfl, by kernel_rfl⟩
instance : ZI Tryz.prog 138 [.raw .nilFunc] := ⟨by kernel_rfl⟩
instance : TyI Tryz.prog 139 1 false := ⟨by kernel_rfl, by kernel_rfl⟩
instance : ZI Tryz.prog 139 [.raw .nilFunc] := ⟨by kernel_rfl⟩
instance : TyI Tryz.prog 140 1 false := ⟨by kernel_rfl, by kernel_rfl⟩
instance : ZI Tryz.prog 140 [.raw .nilFunc] := ⟨by kernel_rfl⟩
instance : TyI Tryz.prog 141 1 false := ⟨by kernel_rfl, by kernel_rfl⟩
instance : ZI Tryz.prog 141 [.raw .nilFunc] := ⟨by kernel_rfl⟩
instance : TyI Tryz.prog 142 1 false := ⟨by kernel_rfl, by kernel_rfl⟩
instance : ZI Tryz.prog 142 [.raw .nilFunc] := ⟨by kernel_rfl⟩
instance : TyI Tryz.prog 143 1 false := ⟨by kernel_rfl, by kernel_rfl⟩
instance : ZI Tryz.prog 143 [.raw .nilFunc] := ⟨by kernel_rfl⟩
instance : TyI Tryz.prog 144 1 false := ⟨by kernel_rfl, by kernel_rfl⟩
instance : ZI Tryz.prog 144 [.raw .nilFunc] := ⟨by kernel_rfl⟩
instance : TyI Tryz.prog 145 1 false := ⟨by kernel_rfl, by kernel_rfl⟩
instance : ZI Tryz.prog 145 [.int .u64 0] := ⟨by kernel_rfl⟩
instance : UI Tryz.prog 145 (.int .u64) := ⟨by kernel_rfl⟩
instance : TyI Tryz.prog 146 1 false := ⟨by kernel_rfl, by kernel_rfl⟩
instance : ZI Tryz.prog 146 [.raw .nilFunc] := ⟨by kernel_rfl⟩
instance : TyI Tryz.prog 147 1 false := ⟨by kernel_rfl, by kernel_rfl⟩
instance : ZI Tryz.prog 147 [.raw .nilFunc] := ⟨by kernel_rfl⟩
instance : TyI Tryz.prog 148 1 false := ⟨by kernel_rfl, by kernel_rfl⟩
instance : ZI Tryz.prog 148 [.raw .nilFunc] := ⟨by kernel_rfl⟩
instance : TyI Tryz.prog 149 1 false := ⟨by kernel_rfl, by kernel_rfl⟩
instance : ZI Tryz.prog 149 [.raw .nilFunc] := ⟨by kernel_rfl⟩
instance : TyI Tryz.prog 150 2 true := ⟨by kernel_rfl, by kernel_rfl⟩
instance : FldI Tryz.prog 150 0 0 115 := ⟨by kernel_rfl, by kernel_rfl⟩
instance : FldI Tryz.prog 150 1 1 149 := ⟨by kernel_rfl, by kernel_rfl⟩
instance : ZI Tryz.prog 150 [.raw .nilFunc, .raw .nilFunc] := ⟨by kernel_rfl⟩
instance : BdI Tryz.prog 150 [.raw .nilFunc, .raw .nilFunc] [(0, 1), (1, 1)] := ⟨by kernel_rfl⟩
instance : TyI Tryz.prog 151 2 true := ⟨by kernel_rfl, by kernel_rfl⟩
instance : FldI Tryz.prog 151 0 0 115 := ⟨by kernel_rfl, by kernel_rfl⟩
instance : FldI Tryz.prog 151 1 1 149 := ⟨by kernel_rfl, by kernel_rfl⟩
instance : ZI Tryz.prog 151 [.raw .nilFunc, .raw .nilFunc] := ⟨by kernel_rfl⟩
instance : BdI Tryz.prog 151 [.raw .nilFunc, .raw .nilFunc] [(0, 1), (1, 1)] := ⟨by kernel_rfl⟩
instance : TyI Tryz.prog 152 1 false := ⟨by kernel_rfl, by kernel_rfl⟩
instance : ZI Tryz.prog 152 [.raw .nilFunc] := ⟨by kernel_rfl⟩
instance : TyI Tryz.prog 153 1 false := ⟨by kernel_rfl, by kernel_rfl⟩
instance : ZI Tryz.prog 153 [.raw .nilFunc] := ⟨by kernel_rfl⟩
instance : TyI Tryz.prog 154 1 false := ⟨by kernel_rfl, by kernel_rfl⟩
instance : ZI Tryz.prog 154 [.raw .nilFunc] := ⟨by kernel_rfl⟩
instance : TyI Tryz.prog 155 1 false := ⟨by kernel_rfl, by kernel_rfl⟩
instance : ZI Tryz.prog 155 [.raw .nilFunc] := ⟨by kernel_rfl⟩
instance : TyI Tryz.prog 156 1 false := ⟨by kernel_rfl, by kernel_rfl⟩
instance : ZI Tryz.prog 156 [.raw .nilFunc] := ⟨by kernel_rfl⟩
instance : TyI Tryz.prog 157 1 false := ⟨by kernel_rfl, by kernel_rfl⟩
instance : ZI Tryz.prog 157 [.raw .nilFunc] := ⟨by kernel_rfl⟩
instance : TyI Tryz.prog 158 1 false := ⟨by kernel_rfl, by kernel_rfl⟩
instance : TyI Tryz.prog 159 1 false := ⟨by kernel_rfl, by kernel_rfl⟩
instance : ZI Tryz.prog 159 [.raw .nilFunc] := ⟨by kernel_rfl⟩
instance : TyI Tryz.prog 160 1 false := ⟨by kernel_rfl, by kernel_rfl⟩
instance : ZI Tryz.prog 160 [.raw .nilFunc] := ⟨by kernel_rfl⟩
instance : TyI Tryz.prog 161 1 false := ⟨by kernel_rfl, by kernel_rfl⟩
instance : ZI Tryz.prog 161 [.raw .nilFunc] := ⟨by kernel_rfl⟩
instance : TyI Tryz.prog 162 1 false := ⟨by kernel_rfl, by kernel_rfl⟩
instance : ZI Tryz.prog 162 [.raw .nilFunc] := ⟨by kernel_rfl⟩
instance : TyI Tryz.prog 163 1 false := ⟨by kernel_rfl, by kernel_rfl⟩
instance : ZI Tryz.prog 163 [.raw .nilFunc] := ⟨by kernel_rfl⟩
instance : TyI Tryz.prog 164 1 false := ⟨by kernel_rfl, by kernel_rfl⟩
instance : ZI Tryz.prog 164 [.raw .nilFunc] := ⟨by kernel_rfl⟩
instance : TyI Tryz.prog 165 1 false := ⟨by kernel_rfl, by kernel_rfl⟩
instance : ZI Tryz.prog 165 [.raw .nilFunc] := ⟨by kernel_rfl⟩
instance : TyI Tryz.prog 166 1 false := ⟨by kernel_rfl, by kernel_rfl⟩
instance : ZI Tryz.prog 166 [.raw (.pointer none)] := ⟨by kernel_rfl⟩
instance : PtI Tryz.prog 166 := ⟨by kernel_rfl⟩
instance : TyI Tryz.prog 167 1 false := ⟨by kernel_rfl, by kernel_rfl⟩
instance : ZI Tryz.prog 167 [.raw .nilFunc] := ⟨by kernel_rfl⟩
instance : TyI Tryz.prog 168 1 false := ⟨by kernel_rfl, by kernel_rfl⟩
instance : ZI Tryz.prog 168 [.raw .nilFunc] := ⟨by kernel_rfl⟩
instance : TyI Tryz.prog 169 1 false := ⟨by kernel_rfl, by kernel_rfl⟩
instance : ZI Tryz.prog 169 [.raw .nilFunc] := ⟨by kernel_rfl⟩
instance : TyI Tryz.prog 170 1 false := ⟨by kernel_rfl, by kernel_rfl⟩
instance : ZI Tryz.prog 170 [.raw .nilFunc] := ⟨by kernel_rfl⟩
instance : TyI Tryz.prog 171 1 false := ⟨by kernel_rfl, by kernel_rfl⟩
instance : ZI Tryz.prog 171 [.raw .nilFunc] := ⟨by kernel_rfl⟩
instance : TyI Tryz.prog 172 1 false := ⟨by kernel_rfl, by kernel_rfl⟩
instance : ZI Tryz.prog 172 [.raw .nilFunc] := ⟨by kernel_rfl⟩
instance : TyI Tryz.prog 173 1 false := ⟨by kernel_rfl, by kernel_rfl⟩
instance : ZI Tryz.prog 173 [.raw .nilFunc] := ⟨by kernel_rfl⟩
instance : TyI Tryz.prog 174 1 false := ⟨by kernel_rfl, by kernel_rfl⟩
instance : ZI Tryz.prog 174 [.raw .nilFunc] := ⟨by kernel_rfl⟩
instance : TyI Tryz.prog 175 1 false := ⟨by kernel_rfl, by kernel_rfl⟩
instance : ZI Tryz.prog 175 [.raw .nilFunc] := ⟨by kernel_rfl⟩
instance : TyI Tryz.prog 176 9 true := ⟨by kernel_rfl, by kernel_rfl⟩
instance : FldI Tryz.prog 176 0 0 24 := ⟨by kernel_rfl, by kernel_rfl⟩
instance : FldI Tryz.prog 176 1 5 82 := ⟨by kernel_rfl, by kernel_rfl⟩
instance : ZI Tryz.prog 176 [.slnil, .int .i64 0, .int .i64 0, .int .i64 0, .int .i64 0, .slnil, .int .i64 0, .int .i64 0, .int .i64 0] := ⟨by kernel_rfl⟩
instance : BdI Tryz.prog 176 [.slnil, .int .i64 0, .int .i64 0, .int .i64 0, .int .i64 0, .slnil, .int .i64 0, .int .i64 0, .int .i64 0] [(0, 5), (5, 4)] := ⟨by kernel_rfl⟩
instance : TyI Tryz.prog 177 9 true := ⟨by kernel_rfl, by kernel_rfl⟩
instance : FldI Tryz.prog 177 0 0 24 := ⟨by kernel_rfl, by kernel_rfl⟩
instance : FldI Tryz.prog 177 1 5 82 := ⟨by kernel_rfl, by kernel_rfl⟩
instance : ZI Tryz.prog 177 [.slnil, .int .i64 0, .int .i64 0, .int .i64 0, .int .i64 0, .slnil, .int .i64 0, .int .i64 0, .int .i64 0] := ⟨by kernel_rfl⟩
instance : BdI Tryz.prog 177 [.slnil, .int .i64 0, .int .i64 0, .int .i64 0, .int .i64 0, .slnil, .int .i64 0, .int .i64 0, .int .i64 0] [(0, 5), (5, 4)] := ⟨by kernel_rfl⟩
instance : TyI Tryz.prog 178 1 false := ⟨by kernel_rfl, by kernel_rfl⟩
instance : ZI Tryz.prog 178 [.raw .nilFunc] := ⟨by kernel_rfl⟩
instance : TyI Tryz.prog 179 1 false := ⟨by kernel_rfl, by kernel_rfl⟩
instance : ZI Tryz.prog 179 [.raw .nilFunc] := ⟨by kernel_rfl⟩
instance : TyI Tryz.prog 180 1 false := ⟨by kernel_rfl, by kernel_rfl⟩
instance : ZI Tryz.prog 180 [.raw .nilFunc] := ⟨by kernel_rfl⟩
instance : TyI Tryz.prog 181 1 false := ⟨by kernel_rfl, by kernel_rfl⟩
instance : ZI Tryz.prog 181 [.raw .nilFunc] := ⟨by kernel_rfl⟩
instance : TyI Tryz.prog 182 1 false := ⟨by kernel_rfl, by kernel_rfl⟩
instance : ZI Tryz.prog 182 [.raw .nilFunc] := ⟨by kernel_rfl⟩
instance : TyI Tryz.prog 183 1 false := ⟨by kernel_rfl, by kernel_rfl⟩
instance : ZI Tryz.prog 183 [.raw .nilFunc] := ⟨by kernel_rfl⟩
instance : TyI Tryz.prog 184 1 false := ⟨by kernel_rfl, by kernel_rfl⟩
instance : ZI Tryz.prog 184 [.raw .nilFunc] := ⟨by kernel_rfl⟩
instance : TyI Tryz.prog 185 1 false := ⟨by kernel_rfl, by kernel_rfl⟩
instance : TyI Tryz.prog 186 1 false := ⟨by kernel_rfl, by kernel_rfl⟩
instance : ZI Tryz.prog 186 [.raw .nilFunc] := ⟨by kernel_rfl⟩
instance : TyI Tryz.prog 187 1 false := ⟨by kernel_rfl, by kernel_rfl⟩
instance : ZI Tryz.prog 187 [.raw .nilFunc] := ⟨by kernel_rfl⟩
instance : TyI Tryz.prog 188 1 false := ⟨by kernel_rfl, by kernel_rfl⟩
instance : ZI Tryz.prog 188 [.raw .nilFunc] := ⟨by kernel_rfl⟩
instance : TyI Tryz.prog 189 1 false := ⟨by kernel_rfl, by kernel_rfl⟩
instance : ZI Tryz.prog 189 [.raw .nilFunc] := ⟨by kernel_rfl⟩
instance : TyI Tryz.prog 190 1 false := ⟨by kernel_rfl, by kernel_rfl⟩
instance : ZI Tryz.prog 190 [.raw .nilFunc] := ⟨by kernel_rfl⟩
instance : TyI Tryz.prog 191 1 false := ⟨by kernel_rfl, by kernel_rfl⟩
instance : TyI Tryz.prog 192 1 false := ⟨by kernel_rfl, by kernel_rfl⟩
instance : ZI Tryz.prog 192 [.raw .nilFunc] := ⟨by kernel_rfl⟩
instance : TyI Tryz.prog 193 1 false := ⟨by kernel_rfl, by kernel_rfl⟩
instance : ZI Tryz.prog 193 [.raw .nilFunc] := ⟨by kernel_rfl⟩
instance : TyI Tryz.prog 194 4 true := ⟨by kernel_rfl, by kernel_rfl⟩
instance : FldI Tryz.prog 194 0 0 17 := ⟨by kernel_rfl, by kernel_rfl⟩
instance : FldI Tryz.prog 194 1 1 17 := ⟨by kernel_rfl, by kernel_rfl⟩
instance : FldI Tryz.prog 194 2 2 17 := ⟨by kernel_rfl, by kernel_rfl⟩
instance : FldI Tryz.prog 194 3 3 9 := ⟨by kernel_rfl, by kernel_rfl⟩
instance : ZI Tryz.prog 194 [.raw (.pointer none), .raw (.pointer none), .raw (.pointer none), .str .empty] := ⟨by kernel_rfl⟩
instance : BdI Tryz.prog 194 [.raw (.pointer none), .raw (.pointer none), .raw (.pointer none), .str .empty] [(0, 1), (1, 1), (2, 1), (3, 1)] := ⟨by kernel_rfl⟩
instance : TyI Tryz.prog 195 4 true := ⟨by kernel_rfl, by kernel_rfl⟩
instance : FldI Tryz.prog 195 0 0 17 := ⟨by kernel_rfl, by kernel_rfl⟩
instance : FldI Tryz.prog 195 1 1 17 := ⟨by kernel_rfl, by kernel_rfl⟩
instance : FldI Tryz.prog 195 2 2 17 := ⟨by kernel_rfl, by kernel_rfl⟩
instance : FldI Tryz.prog 195 3 3 9 := ⟨by kernel_rfl, by kernel_rfl⟩
instance : ZI Tryz.prog 195 [.raw (.pointer none), .raw (.pointer none), .raw (.pointer none), .str .empty] := ⟨by kernel_rfl⟩
instance : BdI Tryz.prog 195 [.raw (.pointer none), .raw (.pointer none), .raw (.pointer none), .str .empty] [(0, 1), (1, 1), (2, 1), (3, 1)] := ⟨by kernel_rfl⟩
instance : TyI Tryz.prog 196 0 true := ⟨by kernel_rfl, by kernel_rfl⟩
instance : ZI Tryz.prog 196 [] := ⟨by kernel_rfl⟩
instance : TyI Tryz.prog 197 0 true := ⟨by kernel_rfl, by kernel_rfl⟩
instance : ZI Tryz.prog 197 [] := ⟨by kernel_rfl⟩
instance : BdI Tryz.prog 197 [] [(0, 0)] := ⟨by kernel_rfl⟩
instance : TyI Tryz.prog 198 0 true := ⟨by kernel_rfl, by kernel_rfl⟩
instance : ZI Tryz.prog 198 [] := ⟨by kernel_rfl⟩
instance : BdI Tryz.prog 198 [] [(0, 0)] := ⟨by kernel_rfl⟩
instance : TyI Tryz.prog 199 1 false := ⟨by kernel_rfl, by kernel_rfl⟩
instance : ZI Tryz.prog 199 [.int .u32 0] := ⟨by kernel_rfl⟩
instance : UI Tryz.prog 199 (.int .u32) := ⟨by kernel_rfl⟩
instance : TyI Tryz.prog 200 1 false := ⟨by kernel_rfl, by kernel_rfl⟩
instance : ZI Tryz.prog 200 [.int .u8 0] := ⟨by kernel_rfl⟩
instance : UI Tryz.prog 200 (.int .u8) := ⟨by kernel_rfl⟩
instance : TyI Tryz.prog 201 1 false := ⟨by kernel_rfl, by kernel_rfl⟩
instance : ZI Tryz.prog 201 [.int .u8 0] := ⟨by kernel_rfl⟩
instance : UI Tryz.prog 201 (.int .u8) := ⟨by kernel_rfl⟩
instance : TyI Tryz.prog 202 1 false := ⟨by kernel_rfl, by kernel_rfl⟩
instance : ZI Tryz.prog 202 [.raw .nilFunc] := ⟨by kernel_rfl⟩
instance : TyI Tryz.prog 203 1 false := ⟨by kernel_rfl, by kernel_rfl⟩
instance : ZI Tryz.prog 203 [.raw (.pointer none)] := ⟨by kernel_rfl⟩
instance : PtI Tryz.prog 203 := ⟨by kernel_rfl⟩
instance : TyI Tryz.prog 204 1 false := ⟨by kernel_rfl, by kernel_rfl⟩
instance : ZI Tryz.prog 204 [.int .i32 0] := ⟨by kernel_rfl⟩
instance : UI Tryz.prog 204 (.int .i32) := ⟨by kernel_rfl⟩
instance : TyI Tryz.prog 205 1 false := ⟨by kernel_rfl, by kernel_rfl⟩
instance : ZI Tryz.prog 205 [.int .i32 0] := ⟨by kernel_rfl⟩
instance : UI Tryz.prog 205 (.int .i32) := ⟨by kernel_rfl⟩
instance : TyI Tryz.prog 206 11 true := ⟨by kernel_rfl, by kernel_rfl⟩
instance : FldI Tryz.prog 206 0 0 12 := ⟨by kernel_rfl, by kernel_rfl⟩
instance : FldI Tryz.prog 206 1 1 12 := ⟨by kernel_rfl, by kernel_rfl⟩
instance : FldI Tryz.prog 206 2 2 199 := ⟨by kernel_rfl, by kernel_rfl⟩
instance : FldI Tryz.prog 206 3 3 200 := ⟨by kernel_rfl, by kernel_rfl⟩
instance : FldI Tryz.prog 206 4 4 5 := ⟨by kernel_rfl, by kernel_rfl⟩
instance : FldI Tryz.prog 206 5 5 5 := ⟨by kernel_rfl, by kernel_rfl⟩
instance : FldI Tryz.prog 206 6 6 201 := ⟨by kernel_rfl, by kernel_rfl⟩
instance : FldI Tryz.prog 206 7 7 202 := ⟨by kernel_rfl, by kernel_rfl⟩
instance : FldI Tryz.prog 206 8 8 203 := ⟨by kernel_rfl, by kernel_rfl⟩
instance : FldI Tryz.prog 206 9 9 204 := ⟨by kernel_rfl, by kernel_rfl⟩
instance : FldI Tryz.prog 206 10 10 205 := ⟨by kernel_rfl, by kernel_rfl⟩
instance : ZI Tryz.prog 206 [.int .u64 0, .int .u64 0, .int .u32 0, .int .u8 0, .int .u8 0, .int .u8 0, .int .u8 0, .raw .nilFunc, .raw (.pointer none), .int .i32 0, .int .i32 0] := ⟨by kernel_rfl⟩
instance : BdI Tryz.prog 206 [.int .u64 0, .int .u64 0, .int .u32 0, .int .u8 0, .int .u8 0, .int .u8 0, .int .u8 0, .raw .nilFunc, .raw (.pointer none), .int .i32 0, .int .i32 0] [(0, 1), (1, 1), (2, 1), (3, 1), (4, 1), (5, 1), (6, 1), (7, 1), (8, 1), (9, 1), (10, 1)] := ⟨by kernel_rfl⟩
instance : TyI Tryz.prog 207 11 true := ⟨by kernel_rfl, by kernel_rfl⟩
instance : FldI Tryz.prog 207 0 0 12 := ⟨by kernel_rfl, by kernel_rfl⟩
instance : FldI Tryz.prog 207 1 1 12 := ⟨by kernel_rfl, by kernel_rfl⟩
instance : FldI Tryz.prog 207 2 2 199 := ⟨by kernel_rfl, by kernel_rfl⟩
instance : FldI Tryz.prog 207 3 3 200 := ⟨by kernel_rfl, by kernel_rfl⟩
instance : FldI Tryz.prog 207 4 4 5 := ⟨by kernel_rfl, by kernel_rfl⟩
instance : FldI Tryz.prog 207 5 5 5 := ⟨by kernel_rfl, by kernel_rfl⟩
instance : FldI Tryz.prog 207 6 6 201 := ⟨by kernel_rfl, by kernel_rfl⟩
instance : FldI Tryz.prog 207 7 7 202 := ⟨by kernel_rfl, by kernel_rfl⟩
instance : FldI Tryz.prog 207 8 8 203 := ⟨by kernel_rfl, by kernel_rfl⟩
instance : FldI Tryz.prog 207 9 9 204 := ⟨by kernel_rfl, by kernel_rfl⟩
instance : FldI Tryz.prog 207 10 10 205 := ⟨by kernel_rfl, by kernel_rfl⟩
instance : ZI Tryz.prog 207 [.int .u64 0, .int .u64 0, .int .u32 0, .int .u8 0, .int .u8 0, .int .u8 0, .int .u8 0, .raw .nilFunc, .raw (.pointer none), .int .i32 0, .int .i32 0] := ⟨by kernel_rfl⟩
instance : BdI Tryz.prog 207 [.int .u64 0, .int .u64 0, .int .u32 0, .int .u8 0, .int .u8 0, .int .u8 0, .int .u8 0, .raw .nilFunc, .raw (.pointer none), .int .i32 0, .int .i32 0] [(0, 1), (1, 1), (2, 1), (3, 1), (4, 1), (5, 1), (6, 1), (7, 1), (8, 1), (9, 1), (10, 1)] := ⟨by kernel_rfl⟩
instance : TyI Tryz.prog 208 1 false := ⟨by kernel_rfl, by kernel_rfl⟩
instance : ZI Tryz.prog 208 [.raw (.pointer none)] := ⟨by kernel_rfl⟩
theorem fol : Tryz.prog.follows .mixedOrders = true := by kernel_rfl
theorem dOk {esc : Bool} {n : Nat} {fz : List Nat} (C : Cx) (h1 : C.P = Tryz.prog) (h2 : C.cfg = ⟨esc, n, fz⟩) : zgd C (zds Tryz.prog ⟨esc, n, fz⟩) := by
  have := z3s (C := C) (by rw [h1]; exact fol)
  rw [h1, h2] at this; exact this
end Go.Sx
set_option linter.unusedVariables false
set_option linter.unusedSimpArgs false
namespace Go.Sx
def fB : Nat := 4503599627370496
def fVal (x : Nat) : Nat := if x < fB then x else (fB + x % fB) * 2 ^ (x / fB - 1)
theorem zlv {x y : Nat} (h : x < y) : fVal x < fVal y := by
  have hB : 0 < fB := by decide
  unfold fVal
  have hx := Nat.div_add_mod x fB
  have hy := Nat.div_add_mod y fB
  have hxm := Nat.mod_lt x hB
  have hym := Nat.mod_lt y hB
  by_cases h1 : x < fB
  · by_cases h2 : y < fB
    · rw [if_pos h1, if_pos h2]; exact h
    · rw [if_pos h1, if_neg h2]
      have : 1 ≤ 2 ^ (y / fB - 1) := Nat.one_le_two_pow
      have := Nat.mul_le_mul (Nat.le_refl (fB + y % fB)) this
      omega
  · by_cases h2 : y < fB
    · omega
    · rw [if_neg h1, if_neg h2]
      have hqx : 1 ≤ x / fB := (Nat.le_div_iff_mul_le hB).2 (by omega)
      rcases Nat.lt_trichotomy (x / fB) (y / fB) with hq | hq | hq
      · have e1 : (fB + x % fB) * 2 ^ (x / fB - 1) < (2 * fB) * 2 ^ (x / fB - 1) := Nat.mul_lt_mul_of_pos_right (by omega) (Nat.two_pow_pos _)
        have e2 : (2 * fB) * 2 ^ (x / fB - 1) = fB * 2 ^ (x / fB) := by
          have : 2 ^ (x / fB) = 2 * 2 ^ (x / fB - 1) := by
            rw [← Nat.pow_succ']; congr 1; omega
          rw [this, ← Nat.mul_assoc, Nat.mul_comm 2 fB]
        have e3 : fB * 2 ^ (x / fB) ≤ (fB + y % fB) * 2 ^ (y / fB - 1) := Nat.mul_le_mul (by omega) (Nat.pow_le_pow_right (by omega) (by omega))
        omega
      · rw [hq] at hx ⊢
        exact Nat.mul_lt_mul_of_pos_right (by omega) (Nat.two_pow_pos _)
      · have : y / fB + 1 ≤ x / fB := hq
        have := Nat.mul_le_mul (Nat.le_refl fB) this
        rw [Nat.mul_add, Nat.mul_one] at this
        omega
theorem zvh (x y : Nat) : compare (fVal x) (fVal y) = compare x y := by
  rcases Nat.lt_trichotomy x y with h | h | h
  · rw [Nat.compare_eq_lt.2 h, Nat.compare_eq_lt.2 (zlv h)]
  · subst h; rw [Nat.compare_eq_eq.2 rfl, Nat.compare_eq_eq.2 rfl]
  · rw [Nat.compare_eq_gt.2 h, Nat.compare_eq_gt.2 (zlv h)]
def zf3 : Nat := 9218868437227405312
theorem zil {x : Nat} (h : x < zf3) : ∃ m e : Nat, Ieee.double.read x = .number false m (Ieee.double.leastPlace + (e : Int)) ∧ fVal x = m * 2 ^ e := by
  have e1 : Ieee.double.signWeight = 9223372036854775808 := by decide
  have e2 : Ieee.double.binade = fB := by decide
  have e3 : Ieee.double.infRung = zf3 := by decide
  have hx : x < 9223372036854775808 := by unfold zf3 at h; omega
  have h0 : (x / 9223372036854775808 % 2 == 1) = false := by
    rw [Nat.div_eq_of_lt hx]; rfl
  have hm : x % 9223372036854775808 = x := Nat.mod_eq_of_lt hx
  unfold Ieee.Format.read fVal
  simp only [e1, e2, e3, h0, hm]
  by_cases h1 : x < fB
  · rw [if_pos h1, if_pos h1]
    exact ⟨x, 0, by simp, by simp⟩
  · rw [if_neg h1, if_pos h, if_neg h1]
    exact ⟨_, _, rfl, rfl⟩
theorem zik : Ieee.double.read zf3 = .infinity false := by decide
theorem z1o (m n a b : Nat) (i j k : Nat) (hi : a = i + k) (hj : b = j + k) : compare ((m <<< i : Nat) : Int) ((n <<< j : Nat) : Int) = compare (m * 2 ^ a) (n * 2 ^ b) := by
  have e : ∀ x y : Nat, compare (x : Int) (y : Int) = compare x y := by
    intro x y
    rcases Nat.lt_trichotomy x y with h | h | h
    · rw [Nat.compare_eq_lt.2 h, Int.compare_eq_lt.2 (by omega)]
    · subst h; rw [Nat.compare_eq_eq.2 rfl, Int.compare_eq_eq.2 rfl]
    · rw [Nat.compare_eq_gt.2 h, Int.compare_eq_gt.2 (by omega)]
  rw [e, Nat.shiftLeft_eq, Nat.shiftLeft_eq]
  subst hi hj
  have h1 : m * 2 ^ (i + k) = m * 2 ^ i * 2 ^ k := by rw [Nat.pow_add, Nat.mul_assoc]
  have h2 : n * 2 ^ (j + k) = n * 2 ^ j * 2 ^ k := by rw [Nat.pow_add, Nat.mul_assoc]
  rw [h1, h2]
  have hp : 0 < 2 ^ k := Nat.two_pow_pos k
  rcases Nat.lt_trichotomy (m * 2 ^ i) (n * 2 ^ j) with h | h | h
  · rw [Nat.compare_eq_lt.2 h, Nat.compare_eq_lt.2 (Nat.mul_lt_mul_of_pos_right h hp)]
  · rw [h, Nat.compare_eq_eq.2 rfl, Nat.compare_eq_eq.2 rfl]
  · rw [Nat.compare_eq_gt.2 h, Nat.compare_eq_gt.2 (Nat.mul_lt_mul_of_pos_right h hp)]
theorem zi9 {x y : Nat} (hx : x ≤ zf3) (hy : y ≤ zf3) : Ieee.double.order x y = some (compare x y) := by
  unfold Ieee.Format.order
  rcases Nat.lt_or_ge x zf3 with h1 | h1
  · obtain ⟨m, e, r1, v1⟩ := zil h1
    rcases Nat.lt_or_ge y zf3 with h2 | h2
    · obtain ⟨n, f, r2, v2⟩ := zil h2
      rw [r1, r2]
      simp only [Ieee.Datum.order, Ieee.signed, Bool.false_eq_true, if_false, Option.some.injEq]
      rw [z1o m n e f _ _ (min e f) (by omega) (by omega), ← v1, ← v2, zvh]
    · have : y = zf3 := by omega
      subst this
      rw [r1, zik]
      simp [Ieee.Datum.order, Nat.compare_eq_lt.2 h1]
  · have : x = zf3 := by omega
    subst this
    rcases Nat.lt_or_ge y zf3 with h2 | h2
    · obtain ⟨n, f, r2, v2⟩ := zil h2
      rw [r2, zik]
      simp [Ieee.Datum.order, Nat.compare_eq_gt.2 h2]
    · have : y = zf3 := by omega
      subst this
      rw [zik]
      simp [Ieee.Datum.order]
theorem zkp {x y : Nat} (hx : x ≤ zf3) (hy : y ≤ zf3) : flt x y = decide (x < y) := by
  unfold flt
  rw [zi9 hx hy]
  rcases Nat.lt_trichotomy x y with h | h | h
  · rw [Nat.compare_eq_lt.2 h]; simp [h]
  · subst h; rw [Nat.compare_eq_eq.2 rfl]; simp
  · rw [Nat.compare_eq_gt.2 h]; simp; omega
theorem zzs {x : Nat} (hx : x ≤ zf3) : feq x x = true := by
  unfold feq
  rw [zi9 hx hx, Nat.compare_eq_eq.2 rfl]; rfl
theorem zr5 : feq qn qn = false := by decide
theorem zpm (x : Nat) : zbm x = qn ∨ zbm x ≤ zf3 := by
  unfold zbm
  rcases zb1 (x % 9223372036854775808) with ⟨h1, h2⟩ | ⟨h1, h2⟩
  · exact .inl h2
  · right
    rw [h2]
    have e1 : Ieee.double.signWeight = 9223372036854775808 := by decide
    have e2 : Ieee.double.binade = 4503599627370496 := by decide
    have e3 : Ieee.double.infRung = 9218868437227405312 := by decide
    unfold isNaN Ieee.Format.read at h1
    simp only [e1, e2, e3] at h1
    unfold zf3
    split at h1
    · omega
    · split at h1
      · omega
      · split at h1
        · omega
        · simp [Ieee.Datum.isNaN] at h1
def mxN (l : List Nat) : Nat := l.foldl max 0
theorem zvm (l : List Nat) (h : ∀ x ∈ l, x ≤ zf3) : ∀ m, m ≤ zf3 → l.foldl mxF m = l.foldl max m := by
  induction l with
  | nil => intro m _; rfl
  | cons a l ih =>
    intro m hm
    have ha := h a (by simp)
    simp only [List.foldl_cons]
    have : mxF m a = max m a := by
      unfold mxF
      rw [zkp hm ha]
      by_cases hh : m < a
      · simp [hh]; omega
      · simp [hh]; omega
    rw [this]
    exact ih (fun x hx => h x (by simp [hx])) _ (by omega)
theorem zl2 (l : List Nat) (h : ∀ x ∈ l, x = qn ∨ x ≤ zf3) : zbp l = if qn ∈ l then qn else mxN l := by
  have hf : ∀ x, x = qn ∨ x ≤ zf3 → ((!feq x x) = true ↔ x = qn) := by
    intro x hx
    rcases hx with rfl | hx
    · simp [zr5]
    · rw [zzs hx]
      simp
      intro hq; subst hq; exact absurd hx (by decide)
  unfold zbp
  by_cases hq : qn ∈ l
  · rw [if_pos hq]
    have : (l.find? (fun x => !feq x x)).isSome := by
      rw [List.find?_isSome]
      exact ⟨qn, hq, by simp [zr5]⟩
    obtain ⟨x, hx⟩ := Option.isSome_iff_exists.1 this
    rw [hx]
    have h1 := List.find?_some hx
    have h2 := List.mem_of_find?_eq_some hx
    exact (hf x (h x h2)).1 h1
  · rw [if_neg hq]
    have : l.find? (fun x => !feq x x) = none := by
      rw [List.find?_eq_none]
      intro x hx hh
      have := (hf x (h x hx)).1 hh
      subst this; exact hq hx
    rw [this]
    refine zvm l (fun x hx => ?_) 0 (by decide)
    rcases h x hx with rfl | h'
    · exact absurd hx hq
    · exact h'
theorem zoq : ∀ (l : List Nat) (m x : Nat), l.foldl max m ≤ x ↔ m ≤ x ∧ ∀ y ∈ l, y ≤ x
  | [], m, x => by simp
  | a :: l, m, x => by
    simp only [List.foldl_cons]
    rw [zoq l]
    simp only [List.mem_cons, forall_eq_or_imp]
    constructor
    · rintro ⟨h1, h2⟩; exact ⟨by omega, by omega, h2⟩
    · rintro ⟨h1, h2, h3⟩; exact ⟨by omega, h3⟩
def loc (off ld : Int) (r c p : Nat) : Option (Nat × Nat) :=
  if 0 ≤ (p : Int) - off ∧ (((p : Int) - off) % ld).toNat < r ∧ (((p : Int) - off) / ld).toNat < c then some ((((p : Int) - off) % ld).toNat, (((p : Int) - off) / ld).toNat) else none
def znl (L : List Nat) (off ld : Int) (r c : Nat) (g : Nat → Nat → Nat) : List Nat :=
  rml (fun p => match loc off ld r c p with | some q => g q.1 q.2 | none => L.getD p 0) L.length
@[simp] theorem zwo (L : List Nat) (off ld : Int) (r c : Nat) (g : Nat → Nat → Nat) : (znl L off ld r c g).length = L.length := by simp [znl]
def pos (off ld : Int) (i j : Nat) : Nat := (off + (i : Int) + (j : Int) * ld).toNat
theorem zs5 (l : List Nat) (off ld : Int) (i j : Nat) : mel l off ld i j = l.getD (pos off ld i j) 0 := rfl
section
variable {off ld : Int} {r c n : Nat}
theorem zsy (hG : zaz n off r c ld) {i j : Nat} (hi : i < r) (hj : j < c) : loc off ld r c (pos off ld i j) = some (i, j) := by
  obtain ⟨h1, h2, h3, h4, h5, h6⟩ := id hG
  have hp := zck hG (i := (i : Int)) (j := (j : Int)) (by omega) (by omega) (by omega) (by omega)
  have e : ((pos off ld i j : Nat) : Int) - off = (i : Int) + (j : Int) * ld := by unfold pos; omega
  have e1 : ((i : Int) + (j : Int) * ld) % ld = i := by
    rw [Int.add_mul_emod_self_right]; exact Int.emod_eq_of_lt (by omega) (by omega)
  have e2 : ((i : Int) + (j : Int) * ld) / ld = j := by
    rw [Int.add_mul_ediv_right _ _ (by omega), Int.ediv_eq_zero_of_lt (by omega) (by omega)]; omega
  unfold loc
  rw [e, e1, e2]
  rw [if_pos ⟨by omega, by omega, by omega⟩]
  simp
theorem zkw {p i j : Nat} (h4 : 1 ≤ ld) (h3 : 0 ≤ off) (h : loc off ld r c p = some (i, j)) : i < r ∧ j < c ∧ p = pos off ld i j := by
  unfold loc at h
  split at h
  · rename_i hc
    simp only [Option.some.injEq, Prod.mk.injEq] at h
    obtain ⟨rfl, rfl⟩ := h
    refine ⟨hc.2.1, hc.2.2, ?_⟩
    unfold pos
    have e1 := Int.emod_nonneg ((p : Int) - off) (show ld ≠ 0 by omega)
    have e2 := Int.ediv_nonneg hc.1 (show 0 ≤ ld by omega)
    have e3 := Int.mul_ediv_add_emod ((p : Int) - off) ld
    rw [Int.toNat_of_nonneg e1, Int.toNat_of_nonneg e2]
    have : ((p : Int) - off) / ld * ld = ld * (((p : Int) - off) / ld) := Int.mul_comm _ _
    omega
  · cases h
theorem zoy (hG : zaz n off r c ld) {i j : Nat} (hi : i < r) (hj : j < c) : pos off ld i j < n := by
  have hp := zck hG (i := (i : Int)) (j := (j : Int)) (by omega) (by omega) (by omega) (by omega)
  unfold pos; omega
theorem zv1 {L : List Nat} {g : Nat → Nat → Nat} (hG : zaz L.length off r c ld) {i j : Nat} (hi : i < r) (hj : j < c) : mel (znl L off ld r c g) off ld i j = g i j := by
  rw [zs5, znl, zcz (zoy hG hi hj), zsy hG hi hj]
theorem zhm {L : List Nat} {g g' : Nat → Nat → Nat} (h4 : 1 ≤ ld) (h3 : 0 ≤ off) (h : ∀ i j, i < r → j < c → g i j = g' i j) : znl L off ld r c g = znl L off ld r c g' := by
  unfold znl
  refine zbw fun p hp => ?_
  cases hl : loc off ld r c p with
  | some q =>
    obtain ⟨i, j⟩ := q
    obtain ⟨hi, hj, _⟩ := zkw h4 h3 hl
    exact h i j hi hj
  | none => rfl
theorem zwp {L : List Nat} (h4 : 1 ≤ ld) (h3 : 0 ≤ off) : znl L off ld r c (mel L off ld) = L := by
  apply List.ext_getElem
  · simp
  · intro p h1 h2
    have hp : p < L.length := h2
    have := zcz (g := fun p => match loc off ld r c p with | some q => mel L off ld q.1 q.2 | none => L.getD p 0) hp
    have e : (znl L off ld r c (mel L off ld)).getD p 0 = L.getD p 0 := by
      rw [znl, this]
      cases hl : loc off ld r c p with
      | some q =>
        obtain ⟨i, j⟩ := q
        obtain ⟨_, _, rfl⟩ := zkw h4 h3 hl
        rfl
      | none => rfl
    simpa [List.getD, h1, h2] using e
def z8d (g : Nat → Nat → Nat) (i j x : Nat) : Nat → Nat → Nat := fun i' j' => if i' = i ∧ j' = j then x else g i' j'
theorem zwq {L : List Nat} {g : Nat → Nat → Nat} (hG : zaz L.length off r c ld) {i j x : Nat} (hi : i < r) (hj : j < c) : (znl L off ld r c g).set (pos off ld i j) x = znl L off ld r c (z8d g i j x) := by
  obtain ⟨h1, h2, h3, h4, h5, h6⟩ := id hG
  apply List.ext_getElem
  · simp
  · intro p k1 k2
    simp only [zwo] at k2
    rw [List.getElem_set]
    have val : ∀ g : Nat → Nat → Nat, (znl L off ld r c g)[p]'(by simpa using k2) = match loc off ld r c p with | some q => g q.1 q.2 | none => L.getD p 0 := by
      intro g; simp [znl, rml]
    rw [val, val]
    split
    · rename_i hp
      subst hp
      rw [zsy hG hi hj]
      simp [z8d]
    · rename_i hp
      cases hl : loc off ld r c p with
      | some q =>
        obtain ⟨i', j'⟩ := q
        obtain ⟨hi', hj', rfl⟩ := zkw h4 h3 hl
        simp only [z8d]
        rw [if_neg]
        rintro ⟨rfl, rfl⟩; exact hp rfl
      | none => rfl
end
section
variable {P : Program} {cfg : Cfg} {e : List (Nat × EV)} {L : List (Nat × List AV)} {H N : List (List AV)} {K : St → Prop}
variable {ty : TypeId} {pos : String} {aft : Array Edge} {gd : Option (Nat × Bool)} {dd : Nat}
theorem zft {b : Nat} {cs : List AV} (h : b < H.length) : (H.set b cs)[b]? = some cs := by simp [h]
theorem qbp {t : TypeId} {b g o len sz k : Nat} {X : List Nat} [i : TyI P t 1 false] (hb : b < H.length) (hg : X.length = g) (hk : o + k < X.length) (h : K ⟨(dd, .val (.flt (X.getD (o + k) 0))) :: e, L, H.set b (fl X) ++ N⟩) :
    zbu P t dd K ⟨e, L, H.set b (fl X) ++ N⟩ (.val (.eptr (.slm b g o len sz) k)) :=
  zl8 (by simp only [zc6, zdw (zft hb), Option.bind_some, zd9, hg, if_true]; exact zl1 (zn9 hk)) h
theorem zln {t : TypeId} {x v : Operand} {b g o len sz k : Nat} {X X' : List Nat} {f : Nat} [ti : TyI P t 1 false] (hx : St.ev ⟨e, L, H.set b (fl X) ++ N⟩ x = .val (.eptr (.slm b g o len sz) k)) (hv : St.ev ⟨e, L, H.set b (fl X) ++ N⟩ v = .val (.flt f)) (hb : b < H.length)
    (hg : X.length = g) (hk : o + k < X.length) (hX : X.set (o + k) f = X') (h : K ⟨e, L, H.set b (fl X') ++ N⟩) : opX P cfg ⟨none, .store t x v, ty, pos, aft, gd⟩ K ⟨e, L, H.set b (fl X) ++ N⟩ := by
  refine zy9 hx hv (zft hb) hg hk hX ?_
  rw [List.set_set]; exact h
theorem zc3 {x : Operand} {s : AV} {o : Nat} (hx : St.ev ⟨e, L, H⟩ x = .val (.eptr s o)) (h : K ⟨(dd, .val (.eptr s o)) :: e, L, H⟩) : opX P cfg ⟨some dd, .nilCheck x, ty, pos, aft, gd⟩ K ⟨e, L, H⟩ := by
  rw [zda P cfg e L H K _ _ _ _ _ _ rfl]
  simp only [za2, hx]
  exact ⟨trivial, h⟩
theorem zec {m : Nat} {t el : TypeId} {x y : Operand} [si : SlI P t el 1] {s : AV} {k : IntKind} {i : Int} {len : Nat} (hx : St.ev ⟨e, L, H⟩ x = .val s) (hy : St.ev ⟨e, L, H⟩ y = .val (.int k i)) (hl : slen s = some len) (hi : i = (m : Int)) (hm : m < len)
    (h : K ⟨(dd, .val (.eptr s m)) :: e, L, H⟩) : opX P cfg ⟨some dd, .indexAddr t x y, ty, pos, aft, gd⟩ K ⟨e, L, H⟩ :=
  z7q (i := m) hx hy hl hi hm (by simpa using h)
theorem FL.set {b g q : Nat} {X : List Nat} (hb : b < H.length) (hg : g = X.length) (hq : q = X.length) : FL (H.set b (fl X) ++ N) (.slm b g 0 q 1) X :=
  (FL.old (zft hb) hg hq).app N
end
def moN (x : List Nat) : Nat → Nat
  | 0 => 0
  | k + 1 => if k = 0 then 0 else if flt (zbm (x.getD (moN x k) 0)) (zbm (x.getD k 0)) then k else moN x k
theorem z4w {x : List Nat} {k : Nat} (hk : 0 < k) (h : flt (zbm (x.getD (moN x k) 0)) (zbm (x.getD k 0)) = true) : moN x (k + 1) = k := by
  simp only [moN]; rw [if_neg (by omega), if_pos h]
theorem z4v {x : List Nat} {k : Nat} (hk : 0 < k) (h : flt (zbm (x.getD (moN x k) 0)) (zbm (x.getD k 0)) = false) : moN x (k + 1) = moN x k := by
  simp only [moN]; rw [if_neg (by omega), h]; rfl
theorem zg4 (x : List Nat) : ∀ k, 0 < k → moN x k < k
  | 0, h => by omega
  | k + 1, _ => by
    simp only [moN]
    split
    · omega
    · split
      · omega
      · have := zg4 x k (by omega); omega
def moI (x : List Nat) (k : Nat) : Int := if k = 0 then -1 else (moN x k : Int)
theorem zv2 (x : List Nat) : moI x 0 = -1 := rfl
theorem zm8 {x : List Nat} {k : Nat} (h : 0 < k) : moI x k = (moN x k : Int) := by unfold moI; rw [if_neg (by omega)]
theorem z0f (x : List Nat) : moI x (0 + 1) = 0 := rfl
end Go.Sx
set_option linter.unusedVariables false
set_option linter.unusedSimpArgs false
namespace Go.Sx
open Ieee
theorem zkk : Ieee.double.signWeight = 9223372036854775808 := by decide
theorem zxj : Ieee.double.binade = 4503599627370496 := by decide
theorem zxk : Ieee.double.infRung = 9218868437227405312 := by decide
theorem z7v : Ieee.double.leastPlace = -1074 := by decide
theorem qce : Ieee.double.fractionBits = 52 := by decide
theorem zjc (s : Bool) (k : Nat) (h : k ≤ 9218868437227405312) : Ieee.double.read (Ieee.double.word s k) = (if s then (Ieee.double.read k).opposite else Ieee.double.read k) := by
  have hk : k < 9223372036854775808 := by omega
  have h1 : (k / 9223372036854775808 % 2 == 1) = false := by rw [Nat.div_eq_of_lt hk]; rfl
  have h2 : k % 9223372036854775808 = k := Nat.mod_eq_of_lt hk
  cases s with
  | false =>
    have : Ieee.double.word false k = k := by simp [Ieee.Format.word, zkk]
    rw [this]; rfl
  | true =>
    have e : Ieee.double.word true k = 9223372036854775808 + k := by simp [Ieee.Format.word, zkk]
    rw [e]
    have h3 : ((9223372036854775808 + k) / 9223372036854775808 % 2 == 1) = true := by
      have : (9223372036854775808 + k) / 9223372036854775808 = 1 := by omega
      rw [this]; rfl
    have h4 : (9223372036854775808 + k) % 9223372036854775808 = k := by omega
    unfold Ieee.Format.read
    simp only [zkk, zxj, zxk, h1, h2, h3, h4, if_true]
    split
    · simp [Ieee.Datum.opposite]
    · split
      · simp [Ieee.Datum.opposite]
      · split
        · simp [Ieee.Datum.opposite]
        · simp [Ieee.Datum.opposite]
def zbs (m : Nat) (p : Int) : Nat :=
  if m = 0 then 0 else
    let last := max (p + m.log2 - 52) (-1074)
    min ((last - (-1074)).toNat * 4503599627370496 + Toward.even.cut false (m <<< (p - last).toNat) (last - p).toNat) 9218868437227405312
theorem zvb (s : Bool) (n d : Nat) : Toward.even.cut s n d = Toward.even.cut false n d := rfl
theorem zp9 (s : Bool) (m : Nat) (p : Int) : Ieee.double.nearest s m p = Ieee.double.word s (zbs m p) := by
  unfold Ieee.Format.nearest zbs
  by_cases h : m = 0
  · simp [h]
  · simp only [h, if_false, qce, z7v, zxj, zxk, zvb s]
    rfl
theorem zk8 (m : Nat) (p : Int) : zbs m p ≤ 9218868437227405312 := by
  unfold zbs
  split
  · omega
  · exact Nat.min_le_right _ _
theorem zm4 {n k : Nat} (h1 : 2 ^ k ≤ n) (h2 : n < 2 ^ (k + 1)) : n.log2 = k := by
  have hn : n ≠ 0 := by have := Nat.two_pow_pos k; omega
  exact (Nat.log2_eq_iff hn).2 ⟨h1, h2⟩
theorem zlr {n : Nat} (h : 1 ≤ n) : Toward.even.cut false ((4503599627370496 * n) <<< 0) 52 = n := by
  have hl : 52 ≤ (4503599627370496 * n).log2 := by
    rw [Nat.le_log2 (by omega)]
    have : 2 ^ 52 = 4503599627370496 := by decide
    omega
  unfold Toward.cut
  have e0 : (4503599627370496 * n) <<< 0 = 4503599627370496 * n := rfl
  have e1 : min 52 ((4503599627370496 * n).log2 + 2) = 52 := by omega
  have e2 : (1 : Nat) <<< 52 = 4503599627370496 := by decide
  simp only [e0, e1, e2]
  have e3 : 4503599627370496 * n / 4503599627370496 = n := Nat.mul_div_cancel_left n (by decide)
  have e4 : 4503599627370496 * n % 4503599627370496 = 0 := Nat.mul_mod_right _ _
  rw [e3, e4]
  simp
theorem zhl {k : Nat} (h : k < 9218868437227405312) : ∃ m e, Ieee.double.read k = .number false m e ∧ zbs (4503599627370496 * m) (e + -52) = k := by
  have hk : k < 9223372036854775808 := by omega
  have h1 : (k / 9223372036854775808 % 2 == 1) = false := by rw [Nat.div_eq_of_lt hk]; rfl
  have h2 : k % 9223372036854775808 = k := Nat.mod_eq_of_lt hk
  unfold Ieee.Format.read
  simp only [zkk, zxj, zxk, z7v, h1, h2]
  by_cases hB : k < 4503599627370496
  · rw [if_pos hB]
    refine ⟨k, -1074, rfl, ?_⟩
    by_cases h0 : k = 0
    · subst h0; decide
    · have hl2 : (4503599627370496 * k).log2 < 104 := by
        rw [Nat.log2_lt (by omega)]
        have : 2 ^ 104 = 4503599627370496 * 4503599627370496 := by decide
        omega
      unfold zbs
      rw [if_neg (by omega)]
      have e1 : max (-1074 + -52 + (((4503599627370496 * k).log2 : Nat) : Int) - 52) (-1074) = -1074 := by omega
      simp only [e1]
      have e2 : ((-1074 : Int) + -52 - -1074).toNat = 0 := by decide
      have e3 : ((-1074 : Int) - (-1074 + -52)).toNat = 52 := by decide
      have e4 : ((-1074 : Int) - -1074).toNat = 0 := by decide
      rw [e2, e3, e4, zlr (by omega)]
      omega
  · rw [if_neg hB, if_pos h]
    refine ⟨_, _, rfl, ?_⟩
    have hd := Nat.div_add_mod k 4503599627370496
    have hm := Nat.mod_lt k (show 0 < 4503599627370496 by decide)
    have hq : 1 ≤ k / 4503599627370496 := (Nat.le_div_iff_mul_le (by decide)).2 (by omega)
    generalize k % 4503599627370496 = r at hd hm
    generalize k / 4503599627370496 = q at hd hq
    have hl : (4503599627370496 * (4503599627370496 + r)).log2 = 104 := by
      apply zm4
      · have : 2 ^ 104 = 4503599627370496 * 4503599627370496 := by decide
        omega
      · have : 2 ^ (104 + 1) = 4503599627370496 * 9007199254740992 := by decide
        omega
    unfold zbs
    rw [if_neg (by omega), hl]
    have e1 : max ((-1074 : Int) + ((q - 1 : Nat) : Int) + -52 + ((104 : Nat) : Int) - 52) (-1074) = -1074 + ((q - 1 : Nat) : Int) := by omega
    simp only [e1]
    have e2 : ((-1074 : Int) + ((q - 1 : Nat) : Int) + -52 - (-1074 + ((q - 1 : Nat) : Int))).toNat = 0 := by omega
    have e3 : ((-1074 : Int) + ((q - 1 : Nat) : Int) - (-1074 + ((q - 1 : Nat) : Int) + -52)).toNat = 52 := by omega
    have e4 : ((-1074 : Int) + ((q - 1 : Nat) : Int) - -1074).toNat = q - 1 := by omega
    rw [e2, e3, e4, zlr (by omega)]
    have : (q - 1) * 4503599627370496 + (4503599627370496 + r) = k := by omega
    rw [this]; omega
end Go.Sx
set_option linter.unusedVariables false
set_option linter.unusedSimpArgs false
namespace Go.Sx
theorem zsg {H N : List (List AV)} {b : Nat} {X Y : List AV} (h : b < H.length) : (H.set b X ++ N).set b Y = H.set b Y ++ N := by
  rw [zdl (by simpa using h), List.set_set]
theorem zbk.set2 {H N N' : List (List AV)} {n b : Nat} {X Y : List AV} (hb : b < H.length) (h : n ≤ H.length) (hm : mxL Y ≤ n) : zbk n (H.set b X ++ N) (H.set b Y ++ N') := by
  have := zbk.set (A := H.set b X) (N := N) (N' := N') (n := n) (i := b) (cs := Y) (by simpa using h) hm
  rwa [List.set_set] at this
theorem z4g {H N : List (List AV)} {b : Nat} {X : List AV} (h : b < H.length) : (H.set b X ++ N)[b]? = some X := zdw (zft h)
theorem zyi {cs xs : List AV} (h : xs.length = cs.length) : sc cs 0 xs = xs := by
  apply List.ext_getElem?
  intro i
  rw [zty _ _ _ _ (by omega)]
  by_cases hi : i < xs.length
  · rw [if_pos (by omega)]; simp
  · rw [if_neg (by omega), List.getElem?_eq_none (by omega), List.getElem?_eq_none (by omega)]
theorem zbo {e : List (Nat × EV)} {L : List (Nat × List AV)} {H : List (List AV)} {K : St → Prop} {dd : Nat} (n' : Int) {n : Int} (hw : -9223372036854775808 ≤ n ∧ n ≤ 9223372036854775807) (hn : n = n') (h : K ⟨(dd, .val (.int .i64 n')) :: e, L, H⟩) : zb8 dd K ⟨e, L, H⟩ (some (True, .int .i64 (IntKind.i64.wrap n))) := by
  subst hn; exact v_w hw h
theorem z4c {l : List AV} (h : l ≠ []) : gN l = [l] := if_neg h
theorem zy5 {P : Program} {cfg : Cfg} {e : List (Nat × EV)} {L : List (Nat × List AV)} {K : St → Prop} {ty : TypeId} {pos : String} {aft : Array Edge} {gd : Option (Nat × Bool)} {dd : Nat}
    {t tx : TypeId} {s x : Operand} {n i k by_ el' z' : Nat} {z v : AV} {l l' : List AV} {A N₀ G : List (List AV)} [ei : EI P t 1 by_ [z]] [si : SlI P tx el' z'] (hs : St.ev ⟨e, L, A ++ (N₀ ++ (gN l ++ G))⟩ s = .val (gV n i k)) (hx : St.ev ⟨e, L, A ++ (N₀ ++ (gN l ++ G))⟩ x = .val (.sl none 1 [v]))
    (hA : A.length = n) (hi : N₀.length = i) (hk : l.length = k) (hG : k = 0 → G = []) (hm : k + 1 ≤ 2 ^ 32) (hn : cfg.n0 = n) (hz : (decide (by_ ≤ 2 ^ 10) && decide (0 < by_)) = true) (hl : l ++ [v] = l')
    (h : K ⟨(dd, .val (gV n i (k + 1))) :: e, L, A ++ (N₀ ++ (gN l' ++ G))⟩) :
    opX P cfg ⟨some dd, .call { callee := .builtin .append, args := #[s, x], argTypes := #[t, tx] }, ty, pos, aft, gd⟩ K ⟨e, L, A ++ (N₀ ++ (gN l ++ G))⟩ := by
  cases l with
  | nil =>
    simp only [List.length_nil] at hk; subst hk
    have hG' := hG rfl
    subst hG'
    simp only [List.append_nil] at hs hx h ⊢
    exact zee hs hx hA hi rfl hm hn hz hl h
  | cons a l =>
    subst hl
    have e1 : gV n i (k + 1) = .slm (n + i) (k + 1) 0 (k + 1) 1 := by simp [gV]
    have e2 : gN (a :: l ++ [v]) = [a :: l ++ [v]] := by simp [gN]
    rw [e1, e2] at h
    have hk0 : k ≠ 0 := by simp at hk; omega
    have e3 : gV n i k = .slm (n + i) k 0 k 1 := by simp [gV, hk0]
    have e4 : gN (a :: l) = [a :: l] := by simp [gN]
    rw [e3] at hs
    rw [e4] at hs hx ⊢
    subst hi
    exact zfp (cs := a :: l) (xs := [v]) (m := 1) hs hx hA (by simp) (zt4 rfl) hk rfl hm (.inl (by omega)) hz rfl (by simp) (by simp at hk ⊢; omega) rfl h
theorem z4e {n i k : Nat} {l : List AV} {A N₀ G : List (List AV)} (hA : A.length = n) (hi : N₀.length = i) (hk : l.length = k) (hm : mxL l ≤ n) : Fr n [] (A ++ (N₀ ++ (gN l ++ G))) (gV n i k) (.sl none k l) := by
  cases l with
  | nil =>
    simp only [List.length_nil] at hk; subst hk
    simp only [gV, if_true]; exact Fr.nil
  | cons a l =>
    have hk0 : k ≠ 0 := by simp at hk; omega
    simp only [gV, if_neg hk0]
    have : (A ++ (N₀ ++ (gN (a :: l) ++ G)))[n + i]? = some (a :: l) := by
      refine za9 hA ?_
      subst hi; simp [gN]
    exact Fr.fz (by omega) (by simp) this hk (ze9 _ (by rw [hk]; omega)) (Frs.old hm)
def zdx (p : List Int) : Prop := ∀ k, k < p.length → ((k : Int) ≤ p.getD k 0 ∧ p.getD k 0 < p.length)
instance (p : List Int) : Decidable (zdx p) := by unfold zdx; infer_instance
theorem zdu (q : Nat → Prop) [DecidablePred q] : ∀ n, ∃ N, N ≤ n ∧ (∀ k, k < N → q k) ∧ (N < n → ¬ q N)
  | 0 => ⟨0, Nat.le_refl _, fun k hk => by omega, fun h => by omega⟩
  | n + 1 => by
    obtain ⟨N, h1, h2, h3⟩ := zdu q n
    by_cases h : N < n
    · exact ⟨N, by omega, h2, fun _ => h3 h⟩
    · have : N = n := by omega
      subst this
      by_cases hq : q N
      · exact ⟨N + 1, Nat.le_refl _, fun k hk => by rcases Nat.lt_succ_iff_lt_or_eq.1 hk with h | h; exact h2 k h; exact h ▸ hq, fun h => by omega⟩
      · exact ⟨N, by omega, h2, fun _ => hq⟩
def zcj (f : Nat → Nat) (i x : Nat) : Nat → Nat := fun k => if k = i then x else f k
theorem znt {f : Nat → Nat} {i x : Nat} : zcj f i x i = x := by simp [zcj]
theorem zuj {f : Nat → Nat} {i x k : Nat} (h : k ≠ i) : zcj f i x k = f k := by simp [zcj, h]
def lo1 (a : Nat → Nat → Nat) (f : Nat → Nat) : Nat → Nat → Nat
  | 0 => f
  | j + 1 => fun i => if j < i then ziz (lo1 a f j i) (zeu (a i j) (lo1 a f j j)) else lo1 a f j i
def zj4 (a : Nat → Nat → Nat) (f : Nat → Nat) (j i : Nat) : Nat → Nat := fun i' => if i' < i then lo1 a f (j + 1) i' else lo1 a f j i'
def zh6 (a : Nat → Nat → Nat) (f : Nat → Nat) (i j : Nat) : Nat → Nat := fun i' => if i' < i then lo1 a f i' i' else if i' = i then lo1 a f j i' else f i'
theorem zsw {a : Nat → Nat → Nat} {f : Nat → Nat} {j i : Nat} (h : i ≤ j) : lo1 a f (j + 1) i = lo1 a f j i := by
  show (if j < i then _ else _) = _
  rw [if_neg (by omega)]
theorem zx3 {a : Nat → Nat → Nat} {f : Nat → Nat} {j i : Nat} (h : j < i) : lo1 a f (j + 1) i = ziz (lo1 a f j i) (zeu (a i j) (lo1 a f j j)) := by
  show (if j < i then _ else _) = _
  rw [if_pos h]
theorem zvz {a : Nat → Nat → Nat} {f : Nat → Nat} {j i : Nat} (h : i ≤ j) : lo1 a f j i = lo1 a f i i := by
  induction j with
  | zero => have : i = 0 := by omega
            subst this; rfl
  | succ j ih =>
    by_cases e : i = j + 1
    · subst e; rfl
    · rw [zsw (by omega), ih (by omega)]
theorem zp6 {a : Nat → Nat → Nat} {f : Nat → Nat} {j : Nat} (i' : Nat) : zj4 a f j (j + 1) i' = lo1 a f j i' := by
  unfold zj4
  split
  · rw [zsw (by omega)]
  · rfl
theorem zst {a : Nat → Nat → Nat} {f : Nat → Nat} {j i : Nat} (h : j < i) (i' : Nat) :
    zcj (zj4 a f j i) i (ziz (zj4 a f j i i) (zeu (a i j) (zj4 a f j i j))) i' = zj4 a f j (i + 1) i' := by
  unfold zcj
  split
  · rename_i e; subst e
    have e1 : zj4 a f j i' i' = lo1 a f j i' := by unfold zj4; rw [if_neg (by omega)]
    have e2 : zj4 a f j i' j = lo1 a f j j := by unfold zj4; rw [if_pos (by omega), zsw (by omega)]
    have e3 : zj4 a f j (i' + 1) i' = lo1 a f (j + 1) i' := by unfold zj4; rw [if_pos (by omega)]
    rw [e1, e2, e3, zx3 h]
  · rename_i e
    unfold zj4
    by_cases h1 : i' < i
    · rw [if_pos h1, if_pos (by omega)]
    · rw [if_neg h1, if_neg (by omega)]
theorem zss {a : Nat → Nat → Nat} {f : Nat → Nat} {j n : Nat} (i' : Nat) (h : i' < n) : zj4 a f j n i' = lo1 a f (j + 1) i' := by
  unfold zj4; rw [if_pos h]
theorem zp7 {a : Nat → Nat → Nat} {f : Nat → Nat} (i' : Nat) : zh6 a f 0 0 i' = f i' := by
  unfold zh6; rw [if_neg (by omega)]; split <;> rfl
theorem zsv {a : Nat → Nat → Nat} {f : Nat → Nat} {i j : Nat} (h : j < i) (i' : Nat) :
    zcj (zh6 a f i j) i (ziz (zh6 a f i j i) (zeu (a i j) (zh6 a f i j j))) i' = zh6 a f i (j + 1) i' := by
  unfold zcj
  split
  · rename_i e; subst e
    have e1 : zh6 a f i' j i' = lo1 a f j i' := by unfold zh6; rw [if_neg (by omega), if_pos rfl]
    have e2 : zh6 a f i' j j = lo1 a f j j := by unfold zh6; rw [if_pos (by omega)]
    have e3 : zh6 a f i' (j + 1) i' = lo1 a f (j + 1) i' := by unfold zh6; rw [if_neg (by omega), if_pos rfl]
    rw [e1, e2, e3, zx3 h]
  · rename_i e
    unfold zh6
    by_cases h1 : i' < i
    · rw [if_pos h1, if_pos h1]
    · rw [if_neg h1, if_neg h1, if_neg e, if_neg e]
theorem zvy {a : Nat → Nat → Nat} {f : Nat → Nat} {i : Nat} (i' : Nat) : zh6 a f i i i' = zh6 a f (i + 1) 0 i' := by
  unfold zh6
  by_cases h1 : i' < i
  · rw [if_pos h1, if_pos (by omega)]
  · by_cases h2 : i' = i
    · subst h2; rw [if_neg h1, if_pos rfl, if_pos (by omega)]
    · rw [if_neg h1, if_neg h2, if_neg (by omega)]; split <;> rfl
theorem zsu {a : Nat → Nat → Nat} {f : Nat → Nat} {n : Nat} (i' : Nat) (h : i' < n) : zh6 a f n 0 i' = lo1 a f n i' := by
  unfold zh6; rw [if_pos h, zvz (j := n) (by omega)]
def up2 (a : Nat → Nat → Nat) (f : Nat → Nat) (n : Nat) : Nat → Nat → Nat
  | 0 => f
  | t + 1 => fun i => if i < n - 1 - t then ziz (up2 a f n t i) (zeu (a i (n - 1 - t)) (fdiv (up2 a f n t (n - 1 - t)) (a (n - 1 - t) (n - 1 - t)))) else if i = n - 1 - t then fdiv (up2 a f n t i) (a i i) else up2 a f n t i
theorem zyo {a : Nat → Nat → Nat} {f : Nat → Nat} {n t i : Nat} (h : i < n - 1 - t) : up2 a f n (t + 1) i = ziz (up2 a f n t i) (zeu (a i (n - 1 - t)) (fdiv (up2 a f n t (n - 1 - t)) (a (n - 1 - t) (n - 1 - t)))) := by
  show (if i < n - 1 - t then _ else _) = _
  rw [if_pos h]
theorem zpe {a : Nat → Nat → Nat} {f : Nat → Nat} {n t i : Nat} (h : i = n - 1 - t) : up2 a f n (t + 1) i = fdiv (up2 a f n t i) (a i i) := by
  show (if i < n - 1 - t then _ else _) = _
  rw [if_neg (by omega), if_pos h]
theorem zyn {a : Nat → Nat → Nat} {f : Nat → Nat} {n t i : Nat} (h : n - 1 - t < i) : up2 a f n (t + 1) i = up2 a f n t i := by
  show (if i < n - 1 - t then _ else _) = _
  rw [if_neg (by omega), if_neg (by omega)]
theorem zw1 {a : Nat → Nat → Nat} {f : Nat → Nat} {n t s i : Nat} (hs : n ≤ s + i) (h : s ≤ t) (htn : t ≤ n) : up2 a f n t i = up2 a f n s i := by
  induction t with
  | zero => have : s = 0 := by omega
            subst this; rfl
  | succ t ih =>
    by_cases e : s = t + 1
    · subst e; rfl
    · rw [zyn (by omega), ih (by omega) (by omega)]
def zjv (a : Nat → Nat → Nat) (f : Nat → Nat) (n t i : Nat) : Nat → Nat := fun i' => if i' < i ∨ i' = n - 1 - t then up2 a f n (t + 1) i' else up2 a f n t i'
theorem zqp {a : Nat → Nat → Nat} {f : Nat → Nat} {n t : Nat} (i' : Nat) : zcj (up2 a f n t) (n - 1 - t) (fdiv (up2 a f n t (n - 1 - t)) (a (n - 1 - t) (n - 1 - t))) i' = zjv a f n t 0 i' := by
  unfold zcj zjv
  split
  · rename_i e; subst e; rw [if_pos (by omega), zpe rfl]
  · rename_i e; rw [if_neg (by omega)]
theorem zug {a : Nat → Nat → Nat} {f : Nat → Nat} {n t i : Nat} (h : i < n - 1 - t) (i' : Nat) :
    zcj (zjv a f n t i) i (ziz (zjv a f n t i i) (zeu (a i (n - 1 - t)) (zjv a f n t i (n - 1 - t)))) i' = zjv a f n t (i + 1) i' := by
  unfold zcj
  split
  · rename_i e; subst e
    have e1 : zjv a f n t i' i' = up2 a f n t i' := by unfold zjv; rw [if_neg (by omega)]
    have e2 : zjv a f n t i' (n - 1 - t) = fdiv (up2 a f n t (n - 1 - t)) (a (n - 1 - t) (n - 1 - t)) := by unfold zjv; rw [if_pos (by omega), zpe rfl]
    have e3 : zjv a f n t (i' + 1) i' = up2 a f n (t + 1) i' := by unfold zjv; rw [if_pos (by omega)]
    rw [e1, e2, e3, zyo h]
  · rename_i e
    unfold zjv
    by_cases h1 : i' < i ∨ i' = n - 1 - t
    · rw [if_pos h1, if_pos (by omega)]
    · rw [if_neg h1, if_neg (by omega)]
theorem zuf {a : Nat → Nat → Nat} {f : Nat → Nat} {n t : Nat} (i' : Nat) : zjv a f n t (n - 1 - t) i' = up2 a f n (t + 1) i' := by
  unfold zjv
  split
  · rfl
  · rw [zyn (by omega)]
def zhc (a : Nat → Nat → Nat) (f : Nat → Nat) (n t m : Nat) : Nat → Nat := fun i' => if n ≤ i' + t then up2 a f n (n - i') i' else if i' + t + 1 = n then up2 a f n m i' else f i'
theorem zqq {a : Nat → Nat → Nat} {f : Nat → Nat} {n : Nat} (i' : Nat) (h : i' < n) : zhc a f n 0 0 i' = f i' := by
  unfold zhc; rw [if_neg (by omega)]; split <;> rfl
theorem zui {a : Nat → Nat → Nat} {f : Nat → Nat} {n t m : Nat} (ht : t < n) (h : m < t) (i' : Nat) :
    zcj (zhc a f n t m) (n - 1 - t) (ziz (zhc a f n t m (n - 1 - t)) (zeu (a (n - 1 - t) (n - 1 - m)) (zhc a f n t m (n - 1 - m)))) i' = zhc a f n t (m + 1) i' := by
  unfold zcj
  split
  · rename_i e; subst e
    have e1 : zhc a f n t m (n - 1 - t) = up2 a f n m (n - 1 - t) := by unfold zhc; rw [if_neg (by omega), if_pos (by omega)]
    have e2 : zhc a f n t m (n - 1 - m) = fdiv (up2 a f n m (n - 1 - m)) (a (n - 1 - m) (n - 1 - m)) := by
      unfold zhc; rw [if_pos (by omega), show n - (n - 1 - m) = m + 1 by omega, zpe rfl]
    have e3 : zhc a f n t (m + 1) (n - 1 - t) = up2 a f n (m + 1) (n - 1 - t) := by unfold zhc; rw [if_neg (by omega), if_pos (by omega)]
    rw [e1, e2, e3, zyo (by omega)]
  · rename_i e
    unfold zhc
    by_cases h1 : n ≤ i' + t
    · rw [if_pos h1, if_pos h1]
    · rw [if_neg h1, if_neg h1, if_neg (by omega), if_neg (by omega)]
theorem zw0 {a : Nat → Nat → Nat} {f : Nat → Nat} {n t : Nat} (ht : t < n) (i' : Nat) :
    zcj (zhc a f n t t) (n - 1 - t) (fdiv (zhc a f n t t (n - 1 - t)) (a (n - 1 - t) (n - 1 - t))) i' = zhc a f n (t + 1) 0 i' := by
  unfold zcj
  split
  · rename_i e; subst e
    have e1 : zhc a f n t t (n - 1 - t) = up2 a f n t (n - 1 - t) := by unfold zhc; rw [if_neg (by omega), if_pos (by omega)]
    rw [e1]
    unfold zhc
    rw [if_pos (by omega), show n - (n - 1 - t) = t + 1 by omega, zpe rfl]
  · rename_i e
    unfold zhc
    by_cases h1 : n ≤ i' + t
    · rw [if_pos h1, if_pos (by omega)]
    · rw [if_neg h1, if_neg (by omega), if_neg (by omega)]; split <;> rfl
theorem zuh {a : Nat → Nat → Nat} {f : Nat → Nat} {n : Nat} (i' : Nat) (h : i' < n) : zhc a f n n 0 i' = up2 a f n n i' := by
  unfold zhc
  rw [if_pos (by omega), zw1 (t := n) (s := n - i') (by omega) (by omega) (Nat.le_refl n)]
def in3 (a : Nat → Nat → Nat) (g : Nat → Nat) (i : Nat) : Nat → Nat
  | 0 => g i
  | m + 1 => ziz (in3 a g i m) (zeu (a (i + 1 + m) i) (g (i + 1 + m)))
def lt3 (a : Nat → Nat → Nat) (f : Nat → Nat) (n : Nat) : Nat → Nat → Nat
  | 0 => f
  | t + 1 => zcj (lt3 a f n t) (n - 1 - t) (in3 a (lt3 a f n t) (n - 1 - t) t)
theorem zl5 {a : Nat → Nat → Nat} {g : Nat → Nat} {i : Nat} (i' : Nat) : zcj g i (in3 a g i 0) i' = g i' := by
  unfold zcj in3; split
  · rename_i e; rw [e]
  · rfl
theorem zog {a : Nat → Nat → Nat} {g : Nat → Nat} {i m : Nat} (i' : Nat) :
    zcj (zcj g i (in3 a g i m)) i (ziz (zcj g i (in3 a g i m) i) (zeu (a (i + 1 + m) i) (zcj g i (in3 a g i m) (i + 1 + m)))) i' = zcj g i (in3 a g i (m + 1)) i' := by
  rw [znt, zuj (k := i + 1 + m) (i := i) (by omega)]
  unfold zcj; split <;> rfl
def in4 (a : Nat → Nat → Nat) (g : Nat → Nat) (i : Nat) : Nat → Nat
  | 0 => g i
  | m + 1 => ziz (in4 a g i m) (zeu (a m i) (g m))
def ut4 (a : Nat → Nat → Nat) (f : Nat → Nat) : Nat → Nat → Nat
  | 0 => f
  | i + 1 => zcj (ut4 a f i) i (fdiv (in4 a (ut4 a f i) i i) (a i i))
theorem zl6 {a : Nat → Nat → Nat} {g : Nat → Nat} {i : Nat} (i' : Nat) : zcj g i (in4 a g i 0) i' = g i' := by
  unfold zcj in4; split
  · rename_i e; rw [e]
  · rfl
theorem zoh {a : Nat → Nat → Nat} {g : Nat → Nat} {i m : Nat} (h : m < i) (i' : Nat) :
    zcj (zcj g i (in4 a g i m)) i (ziz (zcj g i (in4 a g i m) i) (zeu (a m i) (zcj g i (in4 a g i m) m))) i' = zcj g i (in4 a g i (m + 1)) i' := by
  rw [znt, zuj (k := m) (i := i) (by omega)]
  unfold zcj; split <;> rfl
theorem zsh {a : Nat → Nat → Nat} {f : Nat → Nat} {i : Nat} (i' : Nat) :
    zcj (zcj (ut4 a f i) i (in4 a (ut4 a f i) i i)) i (fdiv (zcj (ut4 a f i) i (in4 a (ut4 a f i) i i) i) (a i i)) i' = ut4 a f (i + 1) i' := by
  rw [znt]
  show _ = zcj (ut4 a f i) i (fdiv (in4 a (ut4 a f i) i i) (a i i)) i'
  unfold zcj; split <;> rfl
def swV (f : Nat → Nat) (i k : Nat) : Nat → Nat := fun t => if t = i then f k else if t = k then f i else f t
theorem zpb {f : Nat → Nat} {i k : Nat} (t : Nat) : zcj (zcj f i (f k)) k (f i) t = swV f i k t := by
  unfold zcj swV
  by_cases h1 : t = k
  · subst h1
    by_cases h2 : t = i
    · subst h2; simp
    · simp [h2]
  · by_cases h2 : t = i
    · subst h2; simp [h1]
    · simp [h1, h2]
def tkF (p : List Int) (f : Nat → Nat) : Nat → Nat → Nat
  | 0 => f
  | k + 1 => swV (tkF p f k) k (p.getD k 0).toNat
def tkB (p : List Int) (f : Nat → Nat) : Nat → Nat → Nat
  | 0 => f
  | t + 1 => swV (tkB p f t) (p.length - 1 - t) (p.getD (p.length - 1 - t) 0).toNat
def za7 (l : List Nat) (off inc : Int) (n : Nat) (f : Nat → Nat) : List Nat := znl l off inc 1 n (fun _ j => f j)
def vf (l : List Nat) (off inc : Int) : Nat → Nat := fun j => mel l off inc 0 j
@[simp] theorem z8b (l : List Nat) (off inc : Int) (n : Nat) (f : Nat → Nat) : (za7 l off inc n f).length = l.length := by simp [za7]
theorem za8.good {m : Nat} {off n inc : Int} (h : za8 m off n inc) : zaz m off 1 n inc := by
  obtain ⟨h1, h2, h3, h4⟩ := h
  refine ⟨by omega, h1, h3, h2, h2, ?_⟩
  rcases h4 with h4 | ⟨h4, h5⟩
  · exact .inr (.inl h4)
  · exact .inr (.inr ⟨h4, by omega, by omega⟩)
theorem za8.goodN {m n : Nat} {off inc : Int} (h : za8 m off n inc) : zaz m off ((1 : Nat) : Int) (n : Int) inc := h.good
theorem VI.mat {m : Nat} {off n inc : Int} (h : VI m off n inc) : MI m off 1 n inc := by
  obtain ⟨a, b, c, d, e, f, g⟩ := h
  exact ⟨a, b, c, by omega, by omega, d, e, f, g⟩
section
variable {l : List Nat} {off inc : Int} {n : Nat} (hR : za8 l.length off n inc)
theorem zt1 (h3 : 0 ≤ off) (h4 : 1 ≤ inc) : za7 l off inc n (vf l off inc) = l := by
  have h := zwp (L := l) (off := off) (ld := inc) (r := 1) (c := n) h4 h3
  rw [← h]
  unfold za7
  rw [h]
  refine (zhm h4 h3 fun i j hi hj => ?_).trans h
  have : i = 0 := by omega
  subst this; rfl
theorem zcm (h3 : 0 ≤ off) (h4 : 1 ≤ inc) {f g : Nat → Nat} (h : ∀ i, i < n → f i = g i) : za7 l off inc n f = za7 l off inc n g :=
  zhm h4 h3 fun i j hi hj => h j hj
include hR in
theorem zep {f : Nat → Nat} {i x : Nat} (hi : i < n) : (za7 l off inc n f).set (pos off inc 0 i) x = za7 l off inc n (zcj f i x) := by
  have h := zwq (L := l) (g := fun _ j => f j) (r := 1) (c := n) hR.goodN (i := 0) (j := i) (x := x) (by omega) hi
  unfold za7
  rw [h]
  refine zhm hR.2.1 hR.2.2.1 fun i' j' hi' hj' => ?_
  have : i' = 0 := by omega
  subst this
  simp [z8d, zcj]
include hR in
theorem zk9 {f : Nat → Nat} {k : Nat} (hk : k < n) : (za7 l off inc n f).getD (pos off inc 0 k) 0 = f k := by
  have h := zv1 (L := l) (g := fun _ j => f j) (r := 1) (c := n) hR.goodN (i := 0) (j := k) (by omega) hk
  exact h
include hR in
theorem zdb {k : Nat} (hk : k < n) : pos off inc 0 k < l.length := zoy (r := 1) (c := n) hR.goodN (by omega) hk
include hR in
theorem zho {k : Nat} (hk : k < n) : off + (k : Int) * inc = ((pos off inc 0 k : Nat) : Int) := by
  have h := zen hR (i := (k : Int)) (by omega) (by omega)
  unfold pos
  omega
end
def zxa (a b c d : Int) : Prop := a ≤ b ∧ c ≤ d ∧ a ≤ d ∧ c ≤ b
instance (a b c d : Int) : Decidable (zxa a b c d) := by unfold zxa; infer_instance
theorem zni {f : Nat → Nat} {n i x : Nat} (hi : i < n) : (rml f n).set i x = rml (zcj f i x) n := by
  apply List.ext_getElem (by simp)
  intro j h1 h2
  simp only [List.getElem_set, rml, List.getElem_map, List.getElem_range, zcj]
  by_cases h : i = j
  · subst h; simp
  · simp [h, show ¬ j = i from fun e => h e.symm]
theorem zim {f g : Nat → Nat} {n i x : Nat} (hi : i < n) (h : ∀ t, t < n → zcj f i x t = g t) : (rml f n).set i x = rml g n := by
  rw [zni hi]; exact zbw h
theorem zzl {H : List (List AV)} {b g : Nat} {l : List Nat} (h : H[b]? = some (fl l)) (hg : l.length = g) : zru H b g = true := by
  simp [zru, h, hg]
theorem zp3 (a : Nat → Nat → Nat) (n : Nat) : (∀ k, k < n → feq (a k k) 0 = false) ∨ ∃ z, z < n ∧ (∀ k, k < z → feq (a k k) 0 = false) ∧ feq (a z z) 0 = true := by
  obtain ⟨N, h1, h2, h3⟩ := zdu (fun k => feq (a k k) 0 = false) n
  by_cases h : N < n
  · exact .inr ⟨N, h, h2, by simpa using h3 h⟩
  · exact .inl fun k hk => h2 k (by omega)
def qbn (i0 j0 i j : Nat) : Prop := i < i0 ∨ (i = i0 ∧ j < j0)
instance (i0 j0 i j : Nat) : Decidable (qbn i0 j0 i j) := by unfold qbn; infer_instance
theorem zaa.spec {P : Program} {f : Nat} {a : List AV} {H H' : List (List AV)} {r : AV} (he : Enters P f) (h : zaa P f a H r H') : Spec P f a H r H' := by
  rcases h with ⟨_, h⟩ | ⟨_, h⟩
  · exact h
  · intro w g c hw hl
    obtain ⟨v, h1, _⟩ := h w g c hl
    rw [he] at h1; cases h1
theorem Spec.weak {P : Program} {f : Nat} {a : List AV} {H H' : List (List AV)} {r r' : AV} (h : Spec P f a H r H') (hr : ∀ w g v, zay w g r v → zay w g r' v) : Spec P f a H r' H' := by
  intro w g c hw hl
  refine (h w g c hw hl).mono fun e w' ⟨v, g', h1, h2, h3, h4⟩ => ⟨v, g', h1, h2, h3, hr _ _ _ h4⟩
theorem zaa.args {P : Program} {f : Nat} {a a' : List AV} {H H' : List (List AV)} {r : AV} (h : zaa P f a H r H') (ha : ∀ w g vs, zbq w g a' vs → zbq w g a vs) : zaa P f a' H r H' := by
  rcases h with ⟨he, h⟩ | ⟨he, h⟩
  · exact .inl ⟨he, fun w g c hw hl => h w g c hw (ha _ _ _ hl)⟩
  · exact .inr ⟨he, fun w g c hl => h w g c (ha _ _ _ hl)⟩
theorem zxh (b : Nat) : cn (cn b) = cn b := by
  rcases zb1 b with ⟨h1, h2⟩ | ⟨h1, h2⟩
  · rw [h2]; decide
  · rw [h2, h2]
theorem z3n {b : Nat} (h : b < 2 ^ 64) : cn b < 2 ^ 64 := by
  unfold cn; split
  · decide
  · exact h
theorem Spec.can {P : Program} {f : Nat} {x : Nat} {rest : List AV} {H H' : List (List AV)} {r : AV} (h : x < 2 ^ 64 → cn x = x → Spec P f (.flt x :: rest) H r H') : Spec P f (.flt x :: rest) H r H' := by
  intro w g c hw hl
  obtain ⟨b, h1, h2, h3⟩ := zll hl
  exact h (by rw [← h2]; exact z3n h1) (by rw [← h2]; exact zxh b) w g c hw hl
structure DV where
  neg : Bool
  l : List Int
  e : Int
def qbu : List Int → Int
  | [] => 0
  | d :: l => d + 65536 * qbu l
def zyq (l : List Int) : Prop := ∀ d ∈ l, 0 ≤ d ∧ d < 65536
def z9b (l : List Int) (a b : Nat) : List Int := (l.drop a).take (l.length - a - b)
@[simp] theorem z7u (l : List Int) (a b : Nat) : (z9b l a b).length = l.length - a - b := by simp only [z9b, List.length_take, List.length_drop]; omega
def lead : List Int → Nat
  | [] => 0
  | d :: l => if d = 0 then lead l + 1 else 0
def mk (l : List Int) : List Int := z9b l (lead l) (lead l.reverse)
def mn (neg : Bool) (l : List Int) : Bool := if lead l = l.length then false else neg
def p2 (k : Int) : Rat := (2 : Rat) ^ k
def pw (e : Int) : Rat := p2 (16 * e)
def mag (d : DV) : Rat := ((qbu d.l : Int) : Rat) * pw d.e
def sgn (b : Bool) (x : Rat) : Rat := if b then -x else x
def V (d : DV) : Rat := sgn d.neg (mag d)
structure In (d : DV) (B : Int) : Prop where
  dig : zyq d.l
  nil : d.l = [] → d.neg = false ∧ d.e = 0
  ne : d.l ≠ [] → d.l.getD 0 0 ≠ 0 ∧ d.l.getD (d.l.length - 1) 0 ≠ 0
  lo : d.l ≠ [] → -B ≤ d.e
  hi : d.l ≠ [] → d.e + d.l.length ≤ B
theorem In.mono {d : DV} {B C : Int} (h : In d B) (hBC : B ≤ C) : In d C :=
  ⟨h.dig, h.nil, h.ne, fun hl => by have := h.lo hl; omega, fun hl => by have := h.hi hl; omega⟩
theorem In.len {d : DV} {B : Int} (h : In d B) (h0 : 0 ≤ B) (hB : B ≤ 2 ^ 19) : d.l.length ≤ 2 ^ 20 := by
  by_cases hl : d.l = []
  · rw [hl]; simp
  · have := h.lo hl; have := h.hi hl; omega
theorem zyq.drop {l : List Int} (h : zyq l) (k : Nat) : zyq (l.drop k) := fun d hd => h d (List.mem_of_mem_drop hd)
theorem zyq.take {l : List Int} (h : zyq l) (k : Nat) : zyq (l.take k) := fun d hd => h d (List.mem_of_mem_take hd)
section
variable {a b : Nat → Int} (ha : ∀ j, 0 ≤ a j ∧ a j < 65536) (hb : ∀ j, 0 ≤ b j ∧ b j < 65536)
include ha hb in
end
def ztj (b : Nat) : Bool := decide ((b : Int) / 9223372036854775808 = 1)
def pE₀ (b : Nat) : Int := (b : Int) / 4503599627370496 % 2048
def pM₀ (b : Nat) : Int := (b : Int) % 4503599627370496
def pM (b : Nat) : Int := if pE₀ b = 2047 then 0 else if pE₀ b = 0 then pM₀ b else pM₀ b + 4503599627370496
def pE (b : Nat) : Int := if pE₀ b = 2047 then 0 else if pE₀ b = 0 then -1074 else pE₀ b - 1075
def pK (b : Nat) : Int := if pE₀ b = 2047 ∧ pM₀ b = 0 then 1 else if pE₀ b = 2047 then 2 else 0
def zeb (b : Nat) : Bool := b / 9223372036854775808 % 2 == 1
theorem zo7 {b : Nat} (h : b < 2 ^ 64) : ztj b = zeb b := by
  unfold ztj zeb
  by_cases h1 : b / 9223372036854775808 = 1
  · rw [h1]; simp; omega
  · have : b / 9223372036854775808 = 0 := by omega
    rw [this]; simp; omega
def fv (x : Nat) : Rat := sgn (zeb x) (((pM x : Int) : Rat) * p2 (pE x))
theorem zgu {x b : Nat} (hx : pK x = 0) (hb : cn b = x) : b = x := by
  unfold cn at hb
  split at hb
  · subst hb; exact absurd hx (by decide)
  · exact hb
theorem zgk {x : Nat} : 0 ≤ pM x ∧ pM x < 9007199254740992 := by
  unfold pM pM₀; repeat' split
  all_goals omega
theorem zhz {x : Nat} : -1074 ≤ pE x ∧ pE x ≤ 971 := by
  unfold pE pE₀; repeat' split
  all_goals omega
end Go.Sx
set_option linter.unusedVariables false
set_option linter.unusedSimpArgs false
namespace Go.Sx
open Ieee
theorem zef (n : Nat) : Toward.even.cut false n 0 = n := by
  unfold Toward.cut
  have e1 : min 0 (n.log2 + 2) = 0 := by omega
  simp only [e1]
  have e2 : (1 : Nat) <<< 0 = 1 := rfl
  rw [e2, Nat.div_one, Nat.mod_one]
  simp
theorem zzm {n d : Nat} (h : d ≤ n.log2 + 2) : 2 * (Toward.even.cut false n d * 2 ^ d) ≤ 2 * n + 2 ^ d ∧ 2 * n ≤ 2 * (Toward.even.cut false n d * 2 ^ d) + 2 ^ d := by
  unfold Toward.cut
  have e1 : min d (n.log2 + 2) = d := by omega
  simp only [e1, Nat.one_shiftLeft]
  have hd := Nat.div_add_mod n (2 ^ d)
  have hp := Nat.two_pow_pos d
  have hm := Nat.mod_lt n hp
  generalize n % 2 ^ d = r at *
  generalize n / 2 ^ d = q at *
  generalize 2 ^ d = g at *
  rw [Nat.mul_comm] at hd
  by_cases hc : g < 2 * r ∨ (g = 2 * r ∧ q % 2 = 1)
  · have : (decide (g < 2 * r) || g == 2 * r && q % 2 == 1) = true := by simp; exact hc
    rw [this, Bool.toNat_true, Nat.add_mul]
    omega
  · have : (decide (g < 2 * r) || g == 2 * r && q % 2 == 1) = false := by
      rw [Bool.eq_false_iff]; simpa using hc
    rw [this, Bool.toNat_false, Nat.add_zero]
    omega
theorem zmv {n d : Nat} (h : n.log2 + 2 ≤ d) : Toward.even.cut false n d = 0 := by
  unfold Toward.cut
  have e1 : min d (n.log2 + 2) = n.log2 + 2 := by omega
  simp only [e1, Nat.one_shiftLeft]
  have hn : n < 2 ^ (n.log2 + 1) := Nat.lt_log2_self
  have h2 : 2 ^ (n.log2 + 2) = 2 * 2 ^ (n.log2 + 1) := by rw [Nat.pow_succ']
  rw [Nat.div_eq_of_lt (by omega), Nat.mod_eq_of_lt (by omega), h2]
  have c1 : decide (2 * 2 ^ (n.log2 + 1) < 2 * n) = false := by simp; omega
  have c2 : (2 * 2 ^ (n.log2 + 1) == 2 * n) = false := by simp; omega
  rw [c1, c2]; rfl
theorem zmg {m : Nat} {p : Int} (hm : m ≠ 0) (hf : zbs m p < 9218868437227405312) : ∃ q c : Nat, zbs m p = q * 4503599627370496 + c ∧ c ≤ 9007199254740992 ∧ (q ≠ 0 → 4503599627370496 ≤ c) ∧ (q : Int) - 1074 = max (p + m.log2 - 52) (-1074) ∧ c = Toward.even.cut false (m <<< (p - ((q : Int) - 1074)).toNat) (((q : Int) - 1074) - p).toNat := by
  unfold zbs at hf ⊢
  rw [if_neg hm] at hf ⊢
  simp only at hf ⊢
  obtain ⟨q, hq⟩ : ∃ q : Nat, (q : Int) - 1074 = max (p + m.log2 - 52) (-1074) := ⟨(max (p + m.log2 - 52) (-1074) + 1074).toNat, by omega⟩
  rw [← hq] at hf ⊢
  have e1 : ((q : Int) - 1074 - -1074).toNat = q := by omega
  rw [e1] at hf ⊢
  have h1 := Nat.log2_self_le hm
  have h2 : m < 2 ^ (m.log2 + 1) := Nat.lt_log2_self
  have key : Toward.even.cut false (m <<< (p - ((q : Int) - 1074)).toNat) (((q : Int) - 1074) - p).toNat ≤ 9007199254740992 ∧ (q ≠ 0 → 4503599627370496 ≤ Toward.even.cut false (m <<< (p - ((q : Int) - 1074)).toNat) (((q : Int) - 1074) - p).toNat) := by
    by_cases hd : p ≤ (q : Int) - 1074
    · have e2 : (p - ((q : Int) - 1074)).toNat = 0 := by omega
      rw [e2, Nat.shiftLeft_zero]
      obtain ⟨d, hd'⟩ : ∃ d : Nat, (q : Int) - 1074 = p + d := ⟨((q : Int) - 1074 - p).toNat, by omega⟩
      have e3 : ((q : Int) - 1074 - p).toNat = d := by omega
      rw [e3]
      by_cases hdl : d ≤ m.log2 + 2
      · obtain ⟨c1, c2⟩ := zzm hdl
        generalize Toward.even.cut false m d = c at *
        constructor
        · -- m < 2^(log2+1) ≤ 2^(53+d)
          have : 2 ^ (m.log2 + 1) ≤ 2 ^ (53 + d) := Nat.pow_le_pow_right (by omega) (by omega)
          rw [Nat.pow_add 2 53 d] at this
          have hp := Nat.two_pow_pos d
          generalize 2 ^ d = g at *
          have h53 : 2 ^ 53 = 9007199254740992 := by decide
          rw [h53] at this
          rcases Nat.lt_or_ge 9007199254740992 c with hc | hc
          · have := Nat.mul_le_mul_right g (show 9007199254740993 ≤ c by omega)
            omega
          · exact hc
        · intro hq0
          have hl : d + 52 = m.log2 := by omega
          have : 2 ^ (52 + d) ≤ m := by rw [show 52 + d = m.log2 by omega]; exact h1
          rw [Nat.pow_add 2 52 d] at this
          have hp := Nat.two_pow_pos d
          generalize 2 ^ d = g at *
          have h52 : 2 ^ 52 = 4503599627370496 := by decide
          rw [h52] at this
          rcases Nat.lt_or_ge c 4503599627370496 with hc | hc
          · have := Nat.mul_le_mul_right g (show c ≤ 4503599627370495 by omega)
            omega
          · exact hc
      · rw [zmv (by omega)]
        exact ⟨by omega, fun hq0 => by omega⟩
    · have e3 : ((q : Int) - 1074 - p).toNat = 0 := by omega
      rw [e3, zef, Nat.shiftLeft_eq]
      obtain ⟨d, hd'⟩ : ∃ d : Nat, p = (q : Int) - 1074 + d := ⟨(p - ((q : Int) - 1074)).toNat, by omega⟩
      have e4 : (p - ((q : Int) - 1074)).toNat = d := by omega
      rw [e4]
      constructor
      · have : 2 ^ (m.log2 + 1) * 2 ^ d ≤ 2 ^ 53 := by rw [← Nat.pow_add]; exact Nat.pow_le_pow_right (by omega) (by omega)
        have h53 : 2 ^ 53 = 9007199254740992 := by decide
        have := Nat.mul_le_mul_right (2 ^ d) (Nat.le_of_lt h2)
        omega
      · intro hq0
        have : 2 ^ m.log2 * 2 ^ d = 2 ^ 52 := by rw [← Nat.pow_add]; congr 1; omega
        have h52 : 2 ^ 52 = 4503599627370496 := by decide
        have := Nat.mul_le_mul_right (2 ^ d) h1
        omega
  refine ⟨q, _, Nat.min_eq_left ?_, key.1, key.2, rfl, rfl⟩
  omega
end Go.Sx
set_option linter.unusedVariables false
set_option linter.unusedSimpArgs false
set_option maxRecDepth 20000
namespace Go.Sx
open Ieee
def dv : Datum → Rat
  | .number s m p => sgn s ((m : Rat) * p2 p)
  | _ => 0
theorem zem {x : Nat} (h : pK x = 0) : Ieee.double.read x = .number (zeb x) (pM x).toNat (pE x) := by
  have hE : pE₀ x ≠ 2047 := by
    intro hE
    unfold pK at h
    rw [if_pos hE] at h
    split at h <;> cases h
  unfold Ieee.Format.read
  simp only [zkk, zxj, zxk, z7v]
  have hs : (x / 9223372036854775808 % 2 == 1) = zeb x := rfl
  rw [hs]
  by_cases h0 : pE₀ x = 0
  · have e1 : pM x = pM₀ x := by unfold pM; rw [if_neg hE, if_pos h0]
    have e2 : pE x = -1074 := by unfold pE; rw [if_neg hE, if_pos h0]
    rw [e1, e2]
    unfold pE₀ at h0
    rw [if_pos (by omega)]
    congr 1
    unfold pM₀; omega
  · have e1 : pM x = pM₀ x + 4503599627370496 := by unfold pM; rw [if_neg hE, if_neg h0]
    have e2 : pE x = pE₀ x - 1075 := by unfold pE; rw [if_neg hE, if_neg h0]
    rw [e1, e2]
    unfold pE₀ at *
    unfold pM₀
    rw [if_neg (by omega), if_pos (by omega)]
    congr 1 <;> omega
theorem zsb {x : Nat} (h : pK x = 0) : fv x = dv (Ieee.double.read x) := by
  rw [zem h]
  unfold fv dv
  have := (zgk (x := x)).1
  have e : ((pM x : Int) : Rat) = (((pM x).toNat : Nat) : Rat) := by
    conv => lhs; rw [show pM x = (((pM x).toNat : Nat) : Int) by omega]
    rfl
  rw [e]
theorem zr6 {x : Nat} {s : Bool} {m : Nat} {p : Int} (h : Ieee.double.read x = .number s m p) : pK x = 0 := by
  unfold Ieee.Format.read at h
  simp only [zkk, zxj, zxk] at h
  unfold pK pE₀
  split at h
  · rw [if_neg (by omega), if_neg (by omega)]
  · split at h
    · rw [if_neg (by omega), if_neg (by omega)]
    · split at h <;> cases h
theorem z0j {x : Nat} (h : pK x ≠ 0) : (∃ s, Ieee.double.read x = .infinity s) ∨ ∃ s t, Ieee.double.read x = .nan s t := by
  cases hr : Ieee.double.read x with
  | number s m p => exact absurd (zr6 hr) h
  | infinity s => exact .inl ⟨s, rfl⟩
  | nan s t => exact .inr ⟨s, t, rfl⟩
theorem zzv {s : Bool} {k : Nat} (hk : k < 9218868437227405312) : pK (Ieee.double.word s k) = 0 ∧ fv (Ieee.double.word s k) = sgn s (fv k) := by
  obtain ⟨m, p, h1, _⟩ := zhl hk
  have hr := zjc s k (Nat.le_of_lt hk)
  rw [h1] at hr
  have hr' : Ieee.double.read (Ieee.double.word s k) = .number s m p := by rw [hr]; cases s <;> rfl
  have f1 := zr6 hr'
  have f2 := zr6 h1
  refine ⟨f1, ?_⟩
  rw [zsb f1, zsb f2, hr', h1]
  rfl
theorem zj5 {m : Nat} (hm : m ≠ 0) (a : Nat) : (m * 2 ^ a).log2 = m.log2 + a := by
  apply zm4
  · rw [Nat.pow_add]; exact Nat.mul_le_mul_right _ (Nat.log2_self_le hm)
  · rw [show m.log2 + a + 1 = (m.log2 + 1) + a by omega, Nat.pow_add]
    exact Nat.mul_lt_mul_of_pos_right Nat.lt_log2_self (Nat.two_pow_pos _)
theorem zn6 {m a d : Nat} (hm : m ≠ 0) : Toward.even.cut false (m * 2 ^ a) (a + d) = Toward.even.cut false m d := by
  unfold Toward.cut
  rw [zj5 hm]
  have e1 : min (a + d) (m.log2 + a + 2) = min d (m.log2 + 2) + a := by omega
  simp only [e1, Nat.one_shiftLeft]
  generalize min d (m.log2 + 2) = g
  rw [Nat.pow_add]
  have hp := Nat.two_pow_pos a
  rw [Nat.mul_div_mul_right _ _ hp, Nat.mul_mod_mul_right]
  generalize 2 ^ a = A at *
  have c1 : decide (2 ^ g * A < 2 * (m % 2 ^ g * A)) = decide (2 ^ g < 2 * (m % 2 ^ g)) := by
    rw [← Nat.mul_assoc]
    exact decide_eq_decide.2 ⟨fun h => Nat.lt_of_mul_lt_mul_right h, fun h => Nat.mul_lt_mul_of_pos_right h hp⟩
  have c2 : (2 ^ g * A == 2 * (m % 2 ^ g * A)) = (2 ^ g == 2 * (m % 2 ^ g)) := by
    rw [← Nat.mul_assoc, Bool.eq_iff_iff, beq_iff_eq, beq_iff_eq]
    exact ⟨fun h => Nat.eq_of_mul_eq_mul_right hp h, fun h => congrArg (· * A) h⟩
  simp only [c1, c2]
theorem zfg (m a : Nat) (p : Int) : zbs (m * 2 ^ a) p = zbs m (p + a) := by
  by_cases hm : m = 0
  · subst hm; rw [Nat.zero_mul]; unfold zbs; rw [if_pos rfl, if_pos rfl]
  · have hp := Nat.two_pow_pos a
    have hma : m * 2 ^ a ≠ 0 := Nat.mul_ne_zero hm (by omega)
    unfold zbs
    rw [if_neg hm, if_neg hma, zj5 hm]
    have e1 : max (p + ((m.log2 + a : Nat) : Int) - 52) (-1074) = max (p + a + m.log2 - 52) (-1074) := by omega
    simp only [e1]
    generalize max (p + (a : Int) + m.log2 - 52) (-1074) = last
    congr 2
    rcases Int.lt_or_le p last with h | h
    · rcases Int.lt_or_le (p + a) last with h2 | h2
      · have e2 : (p - last).toNat = 0 := by omega
        have e3 : (p + a - last).toNat = 0 := by omega
        have e4 : (last - p).toNat = a + (last - (p + a)).toNat := by omega
        rw [e2, e3, e4, Nat.shiftLeft_zero, Nat.shiftLeft_zero, zn6 hm]
      · obtain ⟨d, hd⟩ : ∃ d : Nat, p + a = last + d := ⟨(p + a - last).toNat, by omega⟩
        have e2 : (p - last).toNat = 0 := by omega
        have e3 : (p + a - last).toNat = d := by omega
        have e4 : (last - (p + a)).toNat = 0 := by omega
        have e5 : (last - p).toNat = a - d := by omega
        rw [e2, e3, e4, e5, Nat.shiftLeft_zero, zef, Nat.shiftLeft_eq]
        have e6 : m * 2 ^ a = (m * 2 ^ d) * 2 ^ (a - d) := by rw [Nat.mul_assoc, ← Nat.pow_add]; congr 2; omega
        rw [e6]
        have := zn6 (m := m * 2 ^ d) (a := a - d) (d := 0) (Nat.mul_ne_zero hm (by have := Nat.two_pow_pos d; omega))
        rw [Nat.add_zero, zef] at this
        exact this
    · have e2 : (last - p).toNat = 0 := by omega
      have e3 : (last - (p + a)).toNat = 0 := by omega
      have e4 : (p + a - last).toNat = a + (p - last).toNat := by omega
      rw [e2, e3, e4, zef, zef, Nat.shiftLeft_eq, Nat.shiftLeft_eq, Nat.mul_assoc, ← Nat.pow_add]
def hfB (m : Nat) : Nat → Bool
  | 0 => false
  | t + 1 => decide (m / 2 ^ t % 2 = 1)
def loB (m : Nat) : Nat → Bool
  | 0 => false
  | t + 1 => loB m t || hfB m t
theorem zsx (m : Nat) : ∀ t, loB m (t + 1) = decide (m % 2 ^ t ≠ 0)
  | 0 => by simp [loB, hfB, Nat.mod_one]
  | t + 1 => by
    show (loB m (t + 1) || hfB m (t + 1)) = _
    rw [zsx m t]
    simp only [hfB]
    have h1 : m % 2 ^ (t + 1) = m % 2 ^ t + 2 ^ t * (m / 2 ^ t % 2) := by rw [Nat.pow_succ, Nat.mod_mul]
    rw [h1]
    have hp := Nat.two_pow_pos t
    have h2 : m / 2 ^ t % 2 = 0 ∨ m / 2 ^ t % 2 = 1 := by omega
    rcases h2 with h2 | h2 <;> rw [h2]
    · simp
    · have : m % 2 ^ t + 2 ^ t * 1 ≠ 0 := by omega
      simp [this]
theorem zn5 (m t : Nat) : Toward.even.cut false m t = m / 2 ^ t + (if hfB m t = true ∧ (loB m t = true ∨ m / 2 ^ t % 2 = 1) then 1 else 0) := by
  cases t with
  | zero => rw [zef]; simp [hfB]
  | succ t =>
    have hp := Nat.two_pow_pos t
    have hb : m < 2 ^ (m.log2 + 1) := Nat.lt_log2_self
    by_cases hl : t + 1 ≤ m.log2 + 2
    · unfold Toward.cut
      have e1 : min (t + 1) (m.log2 + 2) = t + 1 := by omega
      simp only [e1, Nat.one_shiftLeft]
      congr 1
      have h1 : m % 2 ^ (t + 1) = m % 2 ^ t + 2 ^ t * (m / 2 ^ t % 2) := by rw [Nat.pow_succ, Nat.mod_mul]
      have hm := Nat.mod_lt m hp
      have hlo := zsx m t
      have hhf : hfB m (t + 1) = decide (m / 2 ^ t % 2 = 1) := rfl
      have h2 : m / 2 ^ t % 2 = 0 ∨ m / 2 ^ t % 2 = 1 := by omega
      rw [h1, show 2 ^ (t + 1) = 2 ^ t * 2 from Nat.pow_succ ..]
      generalize m % 2 ^ t = r at *
      generalize m / (2 ^ t * 2) % 2 = b at *
      generalize m / 2 ^ t % 2 = w at *
      rcases h2 with h2 | h2 <;> subst h2
      · have c1 : decide (2 ^ t * 2 < 2 * (r + 2 ^ t * 0)) = false := by simp; omega
        have c2 : (2 ^ t * 2 == 2 * (r + 2 ^ t * 0)) = false := by simp; omega
        rw [c1, c2, if_neg (by rw [hhf]; simp)]; rfl
      · by_cases hr : r = 0
        · subst hr
          have c1 : decide (2 ^ t * 2 < 2 * (0 + 2 ^ t * 1)) = false := by simp; omega
          have c2 : (2 ^ t * 2 == 2 * (0 + 2 ^ t * 1)) = true := by simp; omega
          rw [c1, c2]
          by_cases hb1 : b = 1
          · rw [if_pos ⟨by rw [hhf]; rfl, .inr hb1⟩, hb1]; rfl
          · rw [if_neg (fun h => by rcases h.2 with h | h; rw [hlo] at h; simp at h; exact hb1 h)]
            have : (b == 1) = false := by simpa using hb1
            rw [this]; rfl
        · have c1 : decide (2 ^ t * 2 < 2 * (r + 2 ^ t * 1)) = true := by simp; omega
          rw [c1, if_pos ⟨by rw [hhf]; rfl, .inl (by rw [hlo]; simpa using hr)⟩]; rfl
    · rw [zmv (by omega)]
      have h3 : 2 ^ (m.log2 + 1) ≤ 2 ^ t := Nat.pow_le_pow_right (by omega) (by omega)
      have h4 : m / 2 ^ t = 0 := Nat.div_eq_of_lt (by omega)
      have h5 : m / 2 ^ (t + 1) = 0 := Nat.div_eq_of_lt (by rw [Nat.pow_succ]; omega)
      simp [hfB, h4, h5]
theorem zg8 {m a b : Nat} {e : Int} (hm : m ≠ 0) (ha : a = 0 ∨ m * 2 ^ a < 9007199254740992)
    (h1 : m * 2 ^ a / 2 ^ b < 9007199254740992) (h2 : -1074 ≤ e - a + b) (h3 : (4503599627370496 ≤ m * 2 ^ a / 2 ^ b) ∨ e - a + b = -1074) :
    zbs m e = min ((e - a + b + 1074).toNat * 4503599627370496 + Toward.even.cut false (m * 2 ^ a) b) 9218868437227405312 := by
  have hs := zfg m a (e - a)
  rw [show e - (a : Int) + a = e by omega] at hs
  rw [← hs]
  have hma : m * 2 ^ a ≠ 0 := Nat.mul_ne_zero hm (by have := Nat.two_pow_pos a; omega)
  generalize m * 2 ^ a = M at *
  generalize e - (a : Int) = p at *
  have hl1 := Nat.log2_self_le hma
  have hl2 : M < 2 ^ (M.log2 + 1) := Nat.lt_log2_self
  have hb := Nat.two_pow_pos b
  -- the place that is kept
  have up : M.log2 ≤ 52 + b := by
    have h4 : M < 9007199254740992 * 2 ^ b := (Nat.div_lt_iff_lt_mul hb).1 h1
    have h5 : 9007199254740992 * 2 ^ b = 2 ^ (53 + b) := by rw [Nat.pow_add]
    rw [h5] at h4
    have := (Nat.log2_lt hma).2 h4
    omega
  have last : max (p + M.log2 - 52) (-1074) = p + b := by
    rcases h3 with h3 | h3
    · have h4 : 4503599627370496 * 2 ^ b ≤ M := (Nat.le_div_iff_mul_le hb).1 h3
      have h5 : 4503599627370496 * 2 ^ b = 2 ^ (52 + b) := by rw [Nat.pow_add]
      rw [h5] at h4
      have := (Nat.le_log2 hma).2 h4
      omega
    · omega
  unfold zbs
  rw [if_neg hma]
  simp only [last]
  have e1 : (p - (p + b)).toNat = 0 := by omega
  have e2 : (p + b - p).toNat = b := by omega
  rw [e1, e2, Nat.shiftLeft_zero, show p + (b : Int) - -1074 = p + b + 1074 by omega]
end Go.Sx
set_option linter.unusedVariables false
set_option linter.unusedSimpArgs false
namespace Go.Sx
theorem zmr {x : Nat} (h : pK x = 0) : zbm x = x % 9223372036854775808 ∧ zbm x < 9218868437227405312 := by
  have hlt : x % 9223372036854775808 < 9218868437227405312 := by
    unfold pK at h
    split at h
    · cases h
    · split at h
      · cases h
      · rename_i h2
        unfold pE₀ at h2
        omega
  have e : zbm x = x % 9223372036854775808 := by
    unfold zbm
    rcases zb1 (x % 9223372036854775808) with ⟨h1, h2⟩ | ⟨h1, h2⟩
    · exfalso
      obtain ⟨m, p, hr, _⟩ := zhl hlt
      unfold isNaN at h1
      rw [hr] at h1; cases h1
    · exact h2
  exact ⟨e, by rw [e]; exact hlt⟩
end Go.Sx
set_option linter.unusedVariables false
set_option linter.unusedSimpArgs false
set_option maxRecDepth 20000
namespace Go.Sx
open Ieee
theorem zhp {s : Bool} {k : Nat} (hk : k ≤ 9218868437227405312) : cn (Ieee.double.word s k) = Ieee.double.word s k := by
  rcases zb1 (Ieee.double.word s k) with ⟨h1, h2⟩ | ⟨h1, h2⟩
  · exfalso
    unfold isNaN at h1
    rw [zjc _ _ hk] at h1
    rcases Nat.lt_or_ge k 9218868437227405312 with h | h
    · obtain ⟨m, p, hr, _⟩ := zhl h
      rw [hr] at h1; cases s <;> cases h1
    · have : k = 9218868437227405312 := by omega
      subst this
      have hi : Ieee.double.read 9218868437227405312 = .infinity false := by decide
      rw [hi] at h1; cases s <;> cases h1
  · exact h2
theorem zoa {x y : Nat} {a b : Bool} {m n : Nat} {i j : Int} (hx : Ieee.double.read x = .number a m i) (hy : Ieee.double.read y = .number b n j) : zeu x y = Ieee.double.word (a ^^ b) (zbs (m * n) (i + j)) := by
  have ff : zeu x y = (match Ieee.double.mul x y with | some r => cn r | none => qn) := rfl
  rw [ff]
  unfold Ieee.Format.mul
  rw [hx, hy]
  simp only [Ieee.Datum.product, Option.map_some, Ieee.Format.write, zp9]
  exact zhp (zk8 _ _)
def zcy (x : Nat) (k : Int) : Nat := if pK x = 0 then Ieee.double.word (zeb x) (zbs (pM x).toNat (pE x + k)) else x
def clK (k : Int) : Int := max (min k 5000) (-5000)
theorem zka {x : Nat} {k : Int} (h : pK x ≠ 0) : zcy x k = x := if_neg h
theorem mk1 {m : Nat} (hm : 1 ≤ m) (e : Int) : ∃ N : Nat, N ≤ 52 ∧ (∀ t : Nat, t < N → m * 2 ^ t < 4503599627370496 ∧ -1074 < e - t) ∧ ¬ (m * 2 ^ N < 4503599627370496 ∧ -1074 < e - N) := by
  obtain ⟨N, h1, h2, h3⟩ := zdu (fun t => m * 2 ^ t < 4503599627370496 ∧ -1074 < e - (t : Int)) 52
  refine ⟨N, h1, h2, ?_⟩
  by_cases h : N < 52
  · exact h3 h
  · have : N = 52 := by omega
    subst this
    have : (2 : Nat) ^ 52 = 4503599627370496 := by decide
    rw [this]
    have := Nat.mul_le_mul_right 4503599627370496 hm
    omega
theorem mk2 {m : Nat} (hm : m < 2 ^ 62) {e : Int} (he : -1300 ≤ e) : ∃ N : Nat, N ≤ 400 ∧ (∀ t : Nat, t < N → 9007199254740992 ≤ m / 2 ^ t ∨ e + t < -1074) ∧ m / 2 ^ N < 9007199254740992 ∧ -1074 ≤ e + N := by
  obtain ⟨N, h1, h2, h3⟩ := zdu (fun t => 9007199254740992 ≤ m / 2 ^ t ∨ e + (t : Int) < -1074) 240
  refine ⟨N, by omega, h2, ?_⟩
  by_cases h : N < 240
  · have := h3 h; omega
  · have : N = 240 := by omega
    subst this
    have hz : m / 2 ^ 240 = 0 := by
      apply Nat.div_eq_of_lt
      have : (2 : Nat) ^ 62 ≤ 2 ^ 240 := Nat.pow_le_pow_right (by omega) (by omega)
      omega
    rw [hz]; omega
theorem zrv (m t : Nat) : m / 2 ^ t / 2 = m / 2 ^ (t + 1) := by rw [Nat.div_div_eq_div_mul, ← Nat.pow_succ]
theorem z4u {m N1 N2 : Nat} {e : Int} (hm : 1 ≤ m) (h1 : ∀ t : Nat, t < N1 → m * 2 ^ t < 4503599627370496 ∧ -1074 < e - t) (h1' : ¬ (m * 2 ^ N1 < 4503599627370496 ∧ -1074 < e - N1))
    (h2 : ∀ t : Nat, t < N2 → 9007199254740992 ≤ m * 2 ^ N1 / 2 ^ t ∨ e - N1 + t < -1074) (h3 : m * 2 ^ N1 / 2 ^ N2 < 9007199254740992) (h4 : -1074 ≤ e - N1 + N2) :
    zbs m e = min ((e - N1 + N2 + 1074).toNat * 4503599627370496 + (m * 2 ^ N1 / 2 ^ N2 + (if hfB (m * 2 ^ N1) N2 = true ∧ (loB (m * 2 ^ N1) N2 = true ∨ m * 2 ^ N1 / 2 ^ N2 % 2 = 1) then 1 else 0))) 9218868437227405312 ∧
      (m * 2 ^ N1 / 2 ^ N2 < 4503599627370496 → e - N1 + N2 = -1074) := by
  have key : 4503599627370496 ≤ m * 2 ^ N1 / 2 ^ N2 ∨ e - N1 + N2 = -1074 := by
    cases N2 with
    | zero =>
      rw [Nat.pow_zero, Nat.div_one]
      omega
    | succ n =>
      rcases h2 n (by omega) with h | h
      · left; rw [← zrv]; omega
      · right; omega
  rw [← zn5]
  refine ⟨zg8 (by omega) ?_ h3 h4 key, fun h => by omega⟩
  cases N1 with
  | zero => exact .inl rfl
  | succ n =>
    right
    have := (h1 n (by omega)).1
    rw [Nat.pow_succ, ← Nat.mul_assoc]; omega
theorem zwk {m : Nat} (hm : 1 ≤ m) {e : Int} (he : 1024 ≤ e) : zbs m e = 9218868437227405312 := by
  rcases Nat.lt_or_ge (zbs m e) 9218868437227405312 with h | h
  · exfalso
    obtain ⟨q, c, hr, hc, hq, hl, _⟩ := zmg (by omega : m ≠ 0) h
    have h0 : q ≠ 0 := by omega
    have := hq h0
    omega
  · have := zk8 m e; omega
theorem zo6 {m : Nat} {e : Int} (he : e + m.log2 < -1075) : zbs m e = 0 := by
  by_cases hm : m = 0
  · subst hm; unfold zbs; rw [if_pos rfl]
  · unfold zbs
    rw [if_neg hm]
    have e1 : max (e + m.log2 - 52) (-1074) = -1074 := by omega
    simp only [e1]
    have e2 : (e - -1074).toNat = 0 := by omega
    rw [e2, Nat.shiftLeft_zero, zmv (by omega)]
    rfl
theorem z0c {m : Nat} (h : m < 2 ^ 62) : m.log2 ≤ 61 := by
  by_cases hm : m = 0
  · subst hm; decide
  · have := (Nat.log2_lt hm).2 h; omega
end Go.Sx
set_option linter.unusedVariables false
set_option linter.unusedSimpArgs false
set_option maxRecDepth 20000
namespace Go.Sx
theorem z2u {x : Nat} (h : x < 2 ^ 64) : x &&& 9223372036854775808 = x / 9223372036854775808 * 9223372036854775808 := by
  have low : ∀ r, r < 2 ^ 63 → r &&& 9223372036854775808 = 0 := fun r hr => by
    have e : r = r &&& (2 ^ 63 - 1) := by rw [Nat.and_two_pow_sub_one_eq_mod, Nat.mod_eq_of_lt hr]
    rw [e, Nat.and_assoc]
    have : (2 ^ 63 - 1) &&& 9223372036854775808 = 0 := by decide
    rw [this, Nat.and_zero]
  rcases Nat.lt_or_ge x (2 ^ 63) with h1 | h1
  · rw [low x h1, Nat.div_eq_of_lt (by omega)]
  · obtain ⟨r, hr⟩ : ∃ r, x = 2 ^ 63 * 1 + r := ⟨x - 2 ^ 63, by omega⟩
    have hr2 : r < 2 ^ 63 := by omega
    rw [hr, Nat.two_pow_add_eq_or_of_lt hr2, Nat.and_comm, Nat.and_or_distrib_left, Nat.and_comm _ r, low r hr2]
    rw [← Nat.two_pow_add_eq_or_of_lt hr2]
    have : (2 ^ 63 * 1 + r) / 9223372036854775808 = 1 := by omega
    rw [this]; decide
theorem z8i (x : Nat) : x &&& 2047 = x % 2048 := Nat.and_two_pow_sub_one_eq_mod x 11
theorem zux {x : Nat} (h : x < 2 ^ 64) : x &&& 9227875636482146303 = x / 9223372036854775808 * 9223372036854775808 + x % 4503599627370496 := by
  have e : (9227875636482146303 : Nat) = 9223372036854775808 ||| (2 ^ 52 - 1) := by decide
  rw [e, Nat.and_or_distrib_left, z2u h, Nat.and_two_pow_sub_one_eq_mod]
  have h2 : x % 2 ^ 52 < 2 ^ 63 := Nat.lt_of_lt_of_le (Nat.mod_lt _ (by decide)) (by decide)
  have := Nat.two_pow_add_eq_or_of_lt h2 (x / 9223372036854775808)
  rw [Nat.mul_comm (x / 9223372036854775808)]
  exact this.symm
theorem z5l {s E F : Nat} (hF : F < 4503599627370496) (hE : E < 2048) : (s * 9223372036854775808 + F) ||| (E * 4503599627370496) = s * 9223372036854775808 + E * 4503599627370496 + F := by
  have h1 : F < 2 ^ 63 := by omega
  have h2 : E * 4503599627370496 + F < 2 ^ 63 := by omega
  have c1 : s * 9223372036854775808 + F = 2 ^ 63 * s + F := by rw [Nat.mul_comm s]
  have c2 : E * 4503599627370496 = 2 ^ 52 * E := Nat.mul_comm _ _
  have a1 := Nat.two_pow_add_eq_or_of_lt h1 s
  have a2 := Nat.two_pow_add_eq_or_of_lt (show F < 2 ^ 52 from hF) E
  have a3 := Nat.two_pow_add_eq_or_of_lt h2 s
  have e1 : s * 9223372036854775808 + E * 4503599627370496 + F = 2 ^ 63 * s + (E * 4503599627370496 + F) := by rw [Nat.mul_comm s, Nat.add_assoc]
  rw [e1, a3, c1, a1, Nat.or_assoc, Nat.or_comm F]
  congr 1
  rw [c2]; exact a2.symm
theorem ofU {x : Nat} (h : x < 2 ^ 64) : (BitVec.ofInt 64 (x : Int)).toNat = x := by
  rw [BitVec.toNat_ofInt]; omega
theorem zre {x y : Nat} (hx : x < 2 ^ 64) (hy : y < 2 ^ 64) : zd6 .and .u64 (x : Int) (y : Int) = ((x &&& y : Nat) : Int) := by
  show IntKind.u64.wrap ((BitVec.ofInt 64 (x : Int) &&& BitVec.ofInt 64 (y : Int)).toNat : Int) = _
  rw [BitVec.toNat_and, ofU hx, ofU hy]
  have := Nat.and_le_left (n := x) (m := y)
  rw [zqv (by omega)]
theorem zny {x y : Nat} (hx : x < 2 ^ 64) (hy : y < 2 ^ 64) : zd6 .or .u64 (x : Int) (y : Int) = ((x ||| y : Nat) : Int) := by
  show IntKind.u64.wrap ((BitVec.ofInt 64 (x : Int) ||| BitVec.ofInt 64 (y : Int)).toNat : Int) = _
  rw [BitVec.toNat_or, ofU hx, ofU hy]
  have := Nat.or_lt_two_pow hx hy
  rw [zqv (by omega)]
theorem zpt {x : Nat} (hx : x < 2 ^ 64) : zd6 .andNot .u64 (x : Int) 9218868437227405312 = ((x / 9223372036854775808 * 9223372036854775808 + x % 4503599627370496 : Nat) : Int) := by
  have e2 : ~~~(BitVec.ofInt 64 (9218868437227405312 : Int)) = BitVec.ofNat 64 9227875636482146303 := by decide
  show IntKind.u64.wrap ((BitVec.ofInt 64 (x : Int) &&& ~~~(BitVec.ofInt 64 (9218868437227405312 : Int))).toNat : Int) = _
  rw [e2, BitVec.toNat_and, ofU hx, BitVec.toNat_ofNat]
  have e3 : 9227875636482146303 % 2 ^ 64 = 9227875636482146303 := by decide
  rw [e3, zux hx]
  rw [zqv (by omega)]
theorem zrd {x : Nat} (hx : x < 2 ^ 63) : zd6 .and .i64 (x : Int) 2047 = ((x % 2048 : Nat) : Int) := by
  have e2 : (BitVec.ofInt 64 (2047 : Int)).toNat = 2047 := by decide
  show IntKind.i64.wrap ((BitVec.ofInt 64 (x : Int) &&& BitVec.ofInt 64 (2047 : Int)).toNat : Int) = _
  rw [BitVec.toNat_and, ofU (by omega), e2, z8i]
  rw [IntWalk.i64_in _ (by omega)]
theorem zv4 {x : Nat} (hx : pK x = 0) (h0 : pM x ≠ 0) (h64 : x < 2 ^ 64) :
    ∃ (y E F : Nat) (en : Int), y = (if zbm x < 4503599627370496 then zeu x 4841369599423283200 else x) ∧ en = (if zbm x < 4503599627370496 then -52 else 0) ∧
      y = (if zeb x then 9223372036854775808 else 0) + E * 4503599627370496 + F ∧ 1 ≤ E ∧ E < 2047 ∧ F < 4503599627370496 ∧ pK y = 0 ∧
      ∀ k : Int, zbs (pM x).toNat (pE x + k) = zbs (4503599627370496 + F) ((E : Int) - 1075 + en + k) := by
  have hs : x / 9223372036854775808 = (if zeb x then 1 else 0) := by
    have : x / 9223372036854775808 < 2 := by omega
    unfold zeb
    have : x / 9223372036854775808 = 0 ∨ x / 9223372036854775808 = 1 := by omega
    rcases this with h | h <;> rw [h] <;> rfl
  obtain ⟨ha, hb⟩ := zmr hx
  have hE : pE₀ x ≠ 2047 := by
    intro hE; unfold pK at hx; rw [if_pos hE] at hx; split at hx <;> cases hx
  by_cases hsm : zbm x < 4503599627370496
  · have hE0 : pE₀ x = 0 := by rw [ha] at hsm; unfold pE₀; omega
    have e1 : pM x = pM₀ x := by unfold pM; rw [if_neg hE, if_pos hE0]
    have e2 : pE x = -1074 := by unfold pE; rw [if_neg hE, if_pos hE0]
    obtain ⟨m, hm⟩ : ∃ m : Nat, pM x = m := ⟨(pM x).toNat, by have := (zgk (x := x)).1; omega⟩
    have hm1 : 1 ≤ m := by omega
    have hm2 : m < 4503599627370496 := by rw [hm] at e1; unfold pM₀ at e1; omega
    have hrx := zem hx
    rw [hm, e2] at hrx
    have hrc : Ieee.double.read 4841369599423283200 = .number false 4503599627370496 0 := by decide
    have hy := zoa hrx hrc
    rw [Bool.xor_false] at hy
    have hmt : (m : Int).toNat = m := by omega
    rw [hmt] at hy
    have hr1 := zfg m 52 (-1074)
    have c52 : (2 : Nat) ^ 52 = 4503599627370496 := by decide
    rw [c52] at hr1
    rw [show ((-1074 : Int) + 0) = -1074 by rfl, hr1] at hy
    -- how m is kept
    have hl1 := Nat.log2_self_le (show m ≠ 0 by omega)
    have hl2 : m < 2 ^ (m.log2 + 1) := Nat.lt_log2_self
    have hl3 : m.log2 < 52 := (Nat.log2_lt (by omega)).2 (by rw [c52]; exact hm2)
    obtain ⟨d, hd⟩ : ∃ d : Nat, d + m.log2 = 52 := ⟨52 - m.log2, by omega⟩
    have k1 : 4503599627370496 ≤ m * 2 ^ d := by
      have := Nat.mul_le_mul_right (2 ^ d) hl1
      rw [← Nat.pow_add, Nat.add_comm, hd, c52] at this; exact this
    have k2 : m * 2 ^ d < 9007199254740992 := by
      have := Nat.mul_lt_mul_of_pos_right hl2 (Nat.two_pow_pos d)
      rw [← Nat.pow_add, show m.log2 + 1 + d = 53 by omega] at this
      have c53 : (2 : Nat) ^ 53 = 9007199254740992 := by decide
      rw [c53] at this; exact this
    have hk := zg8 (m := m) (a := d) (b := 0) (e := -1074 + ((52 : Nat) : Int)) (by omega) (.inr k2) (by rw [Nat.pow_zero, Nat.div_one]; exact k2) (by omega) (.inl (by rw [Nat.pow_zero, Nat.div_one]; exact k1))
    rw [zef] at hk
    have hq : (-1074 + ((52 : Nat) : Int) - (d : Int) + ((0 : Nat) : Int) + 1074).toNat = 52 - d := by omega
    rw [hq, Nat.min_eq_left (by omega)] at hk
    rw [hk] at hy
    refine ⟨zeu x 4841369599423283200, 53 - d, m * 2 ^ d - 4503599627370496, -52, by rw [if_pos hsm], by rw [if_pos hsm], ?_, by omega, by omega, by omega, ?_, fun k => ?_⟩
    · rw [hy]
      unfold Ieee.Format.word
      rw [zkk]
      cases zeb x <;> simp only [if_true, Bool.false_eq_true, if_false] <;> omega
    · rw [hy]; exact (zzv (by omega)).1
    · rw [hm, hmt, e2]
      have := zfg m d (-1074 + k - d)
      rw [show 4503599627370496 + (m * 2 ^ d - 4503599627370496) = m * 2 ^ d by omega, show (((53 - d : Nat) : Int) - 1075 + -52 + k) = -1074 + k - d by omega, this]
      congr 1; omega
  · have hE0 : pE₀ x ≠ 0 := by rw [ha] at hsm; unfold pE₀; omega
    have e1 : pM x = pM₀ x + 4503599627370496 := by unfold pM; rw [if_neg hE, if_neg hE0]
    have e2 : pE x = pE₀ x - 1075 := by unfold pE; rw [if_neg hE, if_neg hE0]
    obtain ⟨F, hF⟩ : ∃ F : Nat, F = x % 4503599627370496 := ⟨_, rfl⟩
    obtain ⟨E, hEq⟩ : ∃ E : Nat, E = x / 4503599627370496 % 2048 := ⟨_, rfl⟩
    have f1 : pM₀ x = F := by unfold pM₀; omega
    have f2 : pE₀ x = E := by unfold pE₀; omega
    have f3 : x = x / 9223372036854775808 * 9223372036854775808 + E * 4503599627370496 + F := by omega
    have f4 : F < 4503599627370496 := by omega
    have f5 : E < 2048 := by omega
    rw [f1] at e1
    rw [f2] at e2 hE0 hE
    clear hF hEq f1 f2
    refine ⟨x, E, F, 0, by rw [if_neg hsm], by rw [if_neg hsm], ?_, by omega, by omega, f4, hx, fun k => ?_⟩
    · rw [hs] at f3
      conv => lhs; rw [f3]
      cases zeb x <;> simp
    · have t1 : (pM x).toNat = 4503599627370496 + F := by rw [e1]; omega
      have t2 : pE x + k = (E : Int) - 1075 + 0 + k := by rw [e2]; omega
      rw [t1, t2]
end Go.Sx
