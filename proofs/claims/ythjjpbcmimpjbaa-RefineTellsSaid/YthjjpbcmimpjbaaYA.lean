/- A part of the proofs of this seat: YA. No condition is set. -/
import Derived.KernelRfl
import Derived.Lib.SlicesCompact
import Derived.Test.YthjjpbcmimpjbaaProg
import Derived.Test.YthjjpbcmimpjbaaXF
set_option maxRecDepth 20000
namespace Go.Sx
open Go.Proofs
instance : TyI Try.prog 0 1 false := ⟨by kernel_rfl, by kernel_rfl⟩
instance : TyI Try.prog 1 1 false := ⟨by kernel_rfl, by kernel_rfl⟩
instance : ZI Try.prog 1 [.raw .nilFunc] := ⟨by kernel_rfl⟩
instance : TyI Try.prog 2 1 false := ⟨by kernel_rfl, by kernel_rfl⟩
instance : ZI Try.prog 2 [.int .i64 0] := ⟨by kernel_rfl⟩
instance : UI Try.prog 2 (.int .i64) := ⟨by kernel_rfl⟩
instance : TyI Try.prog 3 1 false := ⟨by kernel_rfl, by kernel_rfl⟩
instance : ZI Try.prog 3 [.int .i64 0] := ⟨by kernel_rfl⟩
instance : UI Try.prog 3 (.int .i64) := ⟨by kernel_rfl⟩
instance : TyI Try.prog 4 1 false := ⟨by kernel_rfl, by kernel_rfl⟩
instance : ZI Try.prog 4 [.bool false] := ⟨by kernel_rfl⟩
instance : UI Try.prog 4 (.bool) := ⟨by kernel_rfl⟩
instance : TyI Try.prog 5 1 false := ⟨by kernel_rfl, by kernel_rfl⟩
instance : ZI Try.prog 5 [.int .u8 0] := ⟨by kernel_rfl⟩
instance : UI Try.prog 5 (.int .u8) := ⟨by kernel_rfl⟩
instance : TyI Try.prog 6 1 false := ⟨by kernel_rfl, by kernel_rfl⟩
instance : ZI Try.prog 6 [.int .u8 0] := ⟨by kernel_rfl⟩
instance : UI Try.prog 6 (.int .u8) := ⟨by kernel_rfl⟩
instance : TyI Try.prog 7 4 true := ⟨by kernel_rfl, by kernel_rfl⟩
instance : FldI Try.prog 7 0 0 2 := ⟨by kernel_rfl, by kernel_rfl⟩
instance : FldI Try.prog 7 1 1 3 := ⟨by kernel_rfl, by kernel_rfl⟩
instance : FldI Try.prog 7 2 2 4 := ⟨by kernel_rfl, by kernel_rfl⟩
instance : FldI Try.prog 7 3 3 6 := ⟨by kernel_rfl, by kernel_rfl⟩
instance : ZI Try.prog 7 [.int .i64 0, .int .i64 0, .bool false, .int .u8 0] := ⟨by kernel_rfl⟩
instance : BdI Try.prog 7 [.int .i64 0, .int .i64 0, .bool false, .int .u8 0] [(0, 1), (1, 1), (2, 1), (3, 1)] := ⟨by kernel_rfl⟩
instance : TyI Try.prog 8 4 true := ⟨by kernel_rfl, by kernel_rfl⟩
instance : FldI Try.prog 8 0 0 2 := ⟨by kernel_rfl, by kernel_rfl⟩
instance : FldI Try.prog 8 1 1 3 := ⟨by kernel_rfl, by kernel_rfl⟩
instance : FldI Try.prog 8 2 2 4 := ⟨by kernel_rfl, by kernel_rfl⟩
instance : FldI Try.prog 8 3 3 6 := ⟨by kernel_rfl, by kernel_rfl⟩
instance : ZI Try.prog 8 [.int .i64 0, .int .i64 0, .bool false, .int .u8 0] := ⟨by kernel_rfl⟩
instance : BdI Try.prog 8 [.int .i64 0, .int .i64 0, .bool false, .int .u8 0] [(0, 1), (1, 1), (2, 1), (3, 1)] := ⟨by kernel_rfl⟩
instance : TyI Try.prog 9 1 false := ⟨by kernel_rfl, by kernel_rfl⟩
instance : ZI Try.prog 9 [.str .empty] := ⟨by kernel_rfl⟩
instance : UI Try.prog 9 (.string) := ⟨by kernel_rfl⟩
instance : TyI Try.prog 10 1 false := ⟨by kernel_rfl, by kernel_rfl⟩
instance : ZI Try.prog 10 [.str .empty] := ⟨by kernel_rfl⟩
instance : UI Try.prog 10 (.string) := ⟨by kernel_rfl⟩
instance : TyI Try.prog 11 1 false := ⟨by kernel_rfl, by kernel_rfl⟩
instance : ZI Try.prog 11 [.str .empty] := ⟨by kernel_rfl⟩
instance : UI Try.prog 11 (.string) := ⟨by kernel_rfl⟩
instance : TyI Try.prog 12 1 false := ⟨by kernel_rfl, by kernel_rfl⟩
instance : ZI Try.prog 12 [.int .u64 0] := ⟨by kernel_rfl⟩
instance : UI Try.prog 12 (.int .u64) := ⟨by kernel_rfl⟩
instance : TyI Try.prog 13 2 true := ⟨by kernel_rfl, by kernel_rfl⟩
instance : FldI Try.prog 13 0 0 9 := ⟨by kernel_rfl, by kernel_rfl⟩
instance : FldI Try.prog 13 1 1 12 := ⟨by kernel_rfl, by kernel_rfl⟩
instance : ZI Try.prog 13 [.str .empty, .int .u64 0] := ⟨by kernel_rfl⟩
instance : BdI Try.prog 13 [.str .empty, .int .u64 0] [(0, 1), (1, 1)] := ⟨by kernel_rfl⟩
instance : TyI Try.prog 14 2 true := ⟨by kernel_rfl, by kernel_rfl⟩
instance : FldI Try.prog 14 0 0 9 := ⟨by kernel_rfl, by kernel_rfl⟩
instance : FldI Try.prog 14 1 1 12 := ⟨by kernel_rfl, by kernel_rfl⟩
instance : ZI Try.prog 14 [.str .empty, .int .u64 0] := ⟨by kernel_rfl⟩
instance : BdI Try.prog 14 [.str .empty, .int .u64 0] [(0, 1), (1, 1)] := ⟨by kernel_rfl⟩
instance : TyI Try.prog 15 1 false := ⟨by kernel_rfl, by kernel_rfl⟩
instance : ZI Try.prog 15 [.raw (.pointer none)] := ⟨by kernel_rfl⟩
instance : PtI Try.prog 15 := ⟨by kernel_rfl⟩
instance : TyI Try.prog 16 1 false := ⟨by kernel_rfl, by kernel_rfl⟩
instance : ZI Try.prog 16 [.raw (.pointer none)] := ⟨by kernel_rfl⟩
instance : TyI Try.prog 17 1 false := ⟨by kernel_rfl, by kernel_rfl⟩
instance : ZI Try.prog 17 [.raw (.pointer none)] := ⟨by kernel_rfl⟩
instance : PtI Try.prog 17 := ⟨by kernel_rfl⟩
instance : TyI Try.prog 18 1 true := ⟨by kernel_rfl, by kernel_rfl⟩
instance : FldI Try.prog 18 0 0 17 := ⟨by kernel_rfl, by kernel_rfl⟩
instance : ZI Try.prog 18 [.raw (.pointer none)] := ⟨by kernel_rfl⟩
instance : BdI Try.prog 18 [.raw (.pointer none)] [(0, 1)] := ⟨by kernel_rfl⟩
instance : TyI Try.prog 19 1 true := ⟨by kernel_rfl, by kernel_rfl⟩
instance : FldI Try.prog 19 0 0 17 := ⟨by kernel_rfl, by kernel_rfl⟩
instance : ZI Try.prog 19 [.raw (.pointer none)] := ⟨by kernel_rfl⟩
instance : BdI Try.prog 19 [.raw (.pointer none)] [(0, 1)] := ⟨by kernel_rfl⟩
instance : TyI Try.prog 20 1 false := ⟨by kernel_rfl, by kernel_rfl⟩
instance : ZI Try.prog 20 [.raw .nilIface] := ⟨by kernel_rfl⟩
instance : TyI Try.prog 21 1 false := ⟨by kernel_rfl, by kernel_rfl⟩
instance : ZI Try.prog 21 [.int .i32 0] := ⟨by kernel_rfl⟩
instance : UI Try.prog 21 (.int .i32) := ⟨by kernel_rfl⟩
instance : TyI Try.prog 22 1 false := ⟨by kernel_rfl, by kernel_rfl⟩
instance : SlI Try.prog 22 45 1 := ⟨by kernel_rfl, by kernel_rfl⟩
instance : EI Try.prog 22 1 8 [.flt 0] := ⟨by kernel_rfl⟩
instance : ZI Try.prog 22 [.slnil] := ⟨by kernel_rfl⟩
instance : TyI Try.prog 23 5 true := ⟨by kernel_rfl, by kernel_rfl⟩
instance : FldI Try.prog 23 0 0 22 := ⟨by kernel_rfl, by kernel_rfl⟩
instance : FldI Try.prog 23 1 1 3 := ⟨by kernel_rfl, by kernel_rfl⟩
instance : FldI Try.prog 23 2 2 3 := ⟨by kernel_rfl, by kernel_rfl⟩
instance : FldI Try.prog 23 3 3 3 := ⟨by kernel_rfl, by kernel_rfl⟩
instance : FldI Try.prog 23 4 4 3 := ⟨by kernel_rfl, by kernel_rfl⟩
instance : ZI Try.prog 23 [.slnil, .int .i64 0, .int .i64 0, .int .i64 0, .int .i64 0] := ⟨by kernel_rfl⟩
instance : BdI Try.prog 23 [.slnil, .int .i64 0, .int .i64 0, .int .i64 0, .int .i64 0] [(0, 1), (1, 1), (2, 1), (3, 1), (4, 1)] := ⟨by kernel_rfl⟩
instance : TyI Try.prog 24 5 true := ⟨by kernel_rfl, by kernel_rfl⟩
instance : FldI Try.prog 24 0 0 22 := ⟨by kernel_rfl, by kernel_rfl⟩
instance : FldI Try.prog 24 1 1 3 := ⟨by kernel_rfl, by kernel_rfl⟩
instance : FldI Try.prog 24 2 2 3 := ⟨by kernel_rfl, by kernel_rfl⟩
instance : FldI Try.prog 24 3 3 3 := ⟨by kernel_rfl, by kernel_rfl⟩
instance : FldI Try.prog 24 4 4 3 := ⟨by kernel_rfl, by kernel_rfl⟩
instance : ZI Try.prog 24 [.slnil, .int .i64 0, .int .i64 0, .int .i64 0, .int .i64 0] := ⟨by kernel_rfl⟩
instance : BdI Try.prog 24 [.slnil, .int .i64 0, .int .i64 0, .int .i64 0, .int .i64 0] [(0, 1), (1, 1), (2, 1), (3, 1), (4, 1)] := ⟨by kernel_rfl⟩
instance : TyI Try.prog 25 1 false := ⟨by kernel_rfl, by kernel_rfl⟩
instance : SlI Try.prog 25 3 1 := ⟨by kernel_rfl, by kernel_rfl⟩
instance : EI Try.prog 25 1 8 [.int .i64 0] := ⟨by kernel_rfl⟩
instance : ZI Try.prog 25 [.slnil] := ⟨by kernel_rfl⟩
instance : TyI Try.prog 26 6 true := ⟨by kernel_rfl, by kernel_rfl⟩
instance : FldI Try.prog 26 0 0 24 := ⟨by kernel_rfl, by kernel_rfl⟩
instance : FldI Try.prog 26 1 5 25 := ⟨by kernel_rfl, by kernel_rfl⟩
instance : ZI Try.prog 26 [.slnil, .int .i64 0, .int .i64 0, .int .i64 0, .int .i64 0, .slnil] := ⟨by kernel_rfl⟩
instance : BdI Try.prog 26 [.slnil, .int .i64 0, .int .i64 0, .int .i64 0, .int .i64 0, .slnil] [(0, 5), (5, 1)] := ⟨by kernel_rfl⟩
instance : TyI Try.prog 27 6 true := ⟨by kernel_rfl, by kernel_rfl⟩
instance : FldI Try.prog 27 0 0 24 := ⟨by kernel_rfl, by kernel_rfl⟩
instance : FldI Try.prog 27 1 5 25 := ⟨by kernel_rfl, by kernel_rfl⟩
instance : ZI Try.prog 27 [.slnil, .int .i64 0, .int .i64 0, .int .i64 0, .int .i64 0, .slnil] := ⟨by kernel_rfl⟩
instance : BdI Try.prog 27 [.slnil, .int .i64 0, .int .i64 0, .int .i64 0, .int .i64 0, .slnil] [(0, 5), (5, 1)] := ⟨by kernel_rfl⟩
instance : TyI Try.prog 28 1 false := ⟨by kernel_rfl, by kernel_rfl⟩
instance : ZI Try.prog 28 [.raw .nilFunc] := ⟨by kernel_rfl⟩
instance : TyI Try.prog 29 1 false := ⟨by kernel_rfl, by kernel_rfl⟩
instance : ZI Try.prog 29 [.raw .nilFunc] := ⟨by kernel_rfl⟩
instance : TyI Try.prog 30 13 true := ⟨by kernel_rfl, by kernel_rfl⟩
instance : FldI Try.prog 30 0 0 24 := ⟨by kernel_rfl, by kernel_rfl⟩
instance : FldI Try.prog 30 1 5 27 := ⟨by kernel_rfl, by kernel_rfl⟩
instance : FldI Try.prog 30 2 11 25 := ⟨by kernel_rfl, by kernel_rfl⟩
instance : FldI Try.prog 30 3 12 25 := ⟨by kernel_rfl, by kernel_rfl⟩
instance : ZI Try.prog 30 [.slnil, .int .i64 0, .int .i64 0, .int .i64 0, .int .i64 0, .slnil, .int .i64 0, .int .i64 0, .int .i64 0, .int .i64 0, .slnil, .slnil, .slnil] := ⟨by kernel_rfl⟩
instance : BdI Try.prog 30 [.slnil, .int .i64 0, .int .i64 0, .int .i64 0, .int .i64 0, .slnil, .int .i64 0, .int .i64 0, .int .i64 0, .int .i64 0, .slnil, .slnil, .slnil] [(0, 5), (5, 6), (11, 1), (12, 1)] := ⟨by kernel_rfl⟩
instance : TyI Try.prog 31 13 true := ⟨by kernel_rfl, by kernel_rfl⟩
instance : FldI Try.prog 31 0 0 24 := ⟨by kernel_rfl, by kernel_rfl⟩
instance : FldI Try.prog 31 1 5 27 := ⟨by kernel_rfl, by kernel_rfl⟩
instance : FldI Try.prog 31 2 11 25 := ⟨by kernel_rfl, by kernel_rfl⟩
instance : FldI Try.prog 31 3 12 25 := ⟨by kernel_rfl, by kernel_rfl⟩
instance : ZI Try.prog 31 [.slnil, .int .i64 0, .int .i64 0, .int .i64 0, .int .i64 0, .slnil, .int .i64 0, .int .i64 0, .int .i64 0, .int .i64 0, .slnil, .slnil, .slnil] := ⟨by kernel_rfl⟩
instance : BdI Try.prog 31 [.slnil, .int .i64 0, .int .i64 0, .int .i64 0, .int .i64 0, .slnil, .int .i64 0, .int .i64 0, .int .i64 0, .int .i64 0, .slnil, .slnil, .slnil] [(0, 5), (5, 6), (11, 1), (12, 1)] := ⟨by kernel_rfl⟩
instance : TyI Try.prog 32 3 true := ⟨by kernel_rfl, by kernel_rfl⟩
instance : FldI Try.prog 32 0 0 3 := ⟨by kernel_rfl, by kernel_rfl⟩
instance : FldI Try.prog 32 1 1 3 := ⟨by kernel_rfl, by kernel_rfl⟩
instance : FldI Try.prog 32 2 2 22 := ⟨by kernel_rfl, by kernel_rfl⟩
instance : ZI Try.prog 32 [.int .i64 0, .int .i64 0, .slnil] := ⟨by kernel_rfl⟩
instance : BdI Try.prog 32 [.int .i64 0, .int .i64 0, .slnil] [(0, 1), (1, 1), (2, 1)] := ⟨by kernel_rfl⟩
instance : TyI Try.prog 33 3 true := ⟨by kernel_rfl, by kernel_rfl⟩
instance : FldI Try.prog 33 0 0 3 := ⟨by kernel_rfl, by kernel_rfl⟩
instance : FldI Try.prog 33 1 1 3 := ⟨by kernel_rfl, by kernel_rfl⟩
instance : FldI Try.prog 33 2 2 22 := ⟨by kernel_rfl, by kernel_rfl⟩
instance : ZI Try.prog 33 [.int .i64 0, .int .i64 0, .slnil] := ⟨by kernel_rfl⟩
instance : BdI Try.prog 33 [.int .i64 0, .int .i64 0, .slnil] [(0, 1), (1, 1), (2, 1)] := ⟨by kernel_rfl⟩
instance : TyI Try.prog 34 9 true := ⟨by kernel_rfl, by kernel_rfl⟩
instance : FldI Try.prog 34 0 0 33 := ⟨by kernel_rfl, by kernel_rfl⟩
instance : FldI Try.prog 34 1 3 33 := ⟨by kernel_rfl, by kernel_rfl⟩
instance : FldI Try.prog 34 2 6 25 := ⟨by kernel_rfl, by kernel_rfl⟩
instance : FldI Try.prog 34 3 7 25 := ⟨by kernel_rfl, by kernel_rfl⟩
instance : FldI Try.prog 34 4 8 25 := ⟨by kernel_rfl, by kernel_rfl⟩
instance : ZI Try.prog 34 [.int .i64 0, .int .i64 0, .slnil, .int .i64 0, .int .i64 0, .slnil, .slnil, .slnil, .slnil] := ⟨by kernel_rfl⟩
instance : BdI Try.prog 34 [.int .i64 0, .int .i64 0, .slnil, .int .i64 0, .int .i64 0, .slnil, .slnil, .slnil, .slnil] [(0, 3), (3, 3), (6, 1), (7, 1), (8, 1)] := ⟨by kernel_rfl⟩
instance : TyI Try.prog 35 9 true := ⟨by kernel_rfl, by kernel_rfl⟩
instance : FldI Try.prog 35 0 0 33 := ⟨by kernel_rfl, by kernel_rfl⟩
instance : FldI Try.prog 35 1 3 33 := ⟨by kernel_rfl, by kernel_rfl⟩
instance : FldI Try.prog 35 2 6 25 := ⟨by kernel_rfl, by kernel_rfl⟩
instance : FldI Try.prog 35 3 7 25 := ⟨by kernel_rfl, by kernel_rfl⟩
instance : FldI Try.prog 35 4 8 25 := ⟨by kernel_rfl, by kernel_rfl⟩
instance : ZI Try.prog 35 [.int .i64 0, .int .i64 0, .slnil, .int .i64 0, .int .i64 0, .slnil, .slnil, .slnil, .slnil] := ⟨by kernel_rfl⟩
instance : BdI Try.prog 35 [.int .i64 0, .int .i64 0, .slnil, .int .i64 0, .int .i64 0, .slnil, .slnil, .slnil, .slnil] [(0, 3), (3, 3), (6, 1), (7, 1), (8, 1)] := ⟨by kernel_rfl⟩
instance : TyI Try.prog 36 1 false := ⟨by kernel_rfl, by kernel_rfl⟩
instance : TyI Try.prog 37 1 false := ⟨by kernel_rfl, by kernel_rfl⟩
instance : ZI Try.prog 37 [.raw .nilFunc] := ⟨by kernel_rfl⟩
instance : TyI Try.prog 38 1 false := ⟨by kernel_rfl, by kernel_rfl⟩
instance : ZI Try.prog 38 [.int .i64 0] := ⟨by kernel_rfl⟩
instance : UI Try.prog 38 (.int .i64) := ⟨by kernel_rfl⟩
instance : TyI Try.prog 39 1 false := ⟨by kernel_rfl, by kernel_rfl⟩
instance : TyI Try.prog 40 1 false := ⟨by kernel_rfl, by kernel_rfl⟩
instance : ZI Try.prog 40 [.raw .nilFunc] := ⟨by kernel_rfl⟩
instance : TyI Try.prog 41 1 false := ⟨by kernel_rfl, by kernel_rfl⟩
instance : ZI Try.prog 41 [.raw .nilFunc] := ⟨by kernel_rfl⟩
instance : TyI Try.prog 42 1 false := ⟨by kernel_rfl, by kernel_rfl⟩
instance : ZI Try.prog 42 [.raw .nilFunc] := ⟨by kernel_rfl⟩
instance : TyI Try.prog 43 1 false := ⟨by kernel_rfl, by kernel_rfl⟩
instance : ZI Try.prog 43 [.raw .nilFunc] := ⟨by kernel_rfl⟩
instance : TyI Try.prog 44 1 false := ⟨by kernel_rfl, by kernel_rfl⟩
instance : ZI Try.prog 44 [.raw .nilFunc] := ⟨by kernel_rfl⟩
instance : TyI Try.prog 45 1 false := ⟨by kernel_rfl, by kernel_rfl⟩
instance : ZI Try.prog 45 [.flt 0] := ⟨by kernel_rfl⟩
instance : UI Try.prog 45 (.float .f64) := ⟨by kernel_rfl⟩
instance : TyI Try.prog 46 1 false := ⟨by kernel_rfl, by kernel_rfl⟩
instance : TyI Try.prog 47 1 false := ⟨by kernel_rfl, by kernel_rfl⟩
instance : ZI Try.prog 47 [.raw .nilFunc] := ⟨by kernel_rfl⟩
instance : TyI Try.prog 48 1 false := ⟨by kernel_rfl, by kernel_rfl⟩
instance : TyI Try.prog 49 1 false := ⟨by kernel_rfl, by kernel_rfl⟩
instance : ZI Try.prog 49 [.raw .nilFunc] := ⟨by kernel_rfl⟩
instance : TyI Try.prog 50 1 false := ⟨by kernel_rfl, by kernel_rfl⟩
instance : ZI Try.prog 50 [.raw .nilFunc] := ⟨by kernel_rfl⟩
instance : TyI Try.prog 51 1 false := ⟨by kernel_rfl, by kernel_rfl⟩
instance : ZI Try.prog 51 [.raw .nilFunc] := ⟨by kernel_rfl⟩
instance : TyI Try.prog 52 1 false := ⟨by kernel_rfl, by kernel_rfl⟩
instance : ZI Try.prog 52 [.raw .nilFunc] := ⟨by kernel_rfl⟩
instance : TyI Try.prog 53 1 false := ⟨by kernel_rfl, by kernel_rfl⟩
instance : ZI Try.prog 53 [.raw .nilFunc] := ⟨by kernel_rfl⟩
instance : TyI Try.prog 54 1 false := ⟨by kernel_rfl, by kernel_rfl⟩
instance : ZI Try.prog 54 [.raw .nilFunc] := ⟨by kernel_rfl⟩
instance : TyI Try.prog 55 1 false := ⟨by kernel_rfl, by kernel_rfl⟩
instance : SlI Try.prog 55 56 1 := ⟨by kernel_rfl, by kernel_rfl⟩
instance : EI Try.prog 55 1 2 [.int .i16 0] := ⟨by kernel_rfl⟩
instance : ZI Try.prog 55 [.slnil] := ⟨by kernel_rfl⟩
instance : TyI Try.prog 56 1 false := ⟨by kernel_rfl, by kernel_rfl⟩
instance : ZI Try.prog 56 [.int .i16 0] := ⟨by kernel_rfl⟩
instance : UI Try.prog 56 (.int .i16) := ⟨by kernel_rfl⟩
instance : TyI Try.prog 57 1 false := ⟨by kernel_rfl, by kernel_rfl⟩
instance : ZI Try.prog 57 [.raw .nilFunc] := ⟨by kernel_rfl⟩
instance : TyI Try.prog 58 1 false := ⟨by kernel_rfl, by kernel_rfl⟩
instance : ZI Try.prog 58 [.raw .nilFunc] := ⟨by kernel_rfl⟩
instance : TyI Try.prog 59 1 false := ⟨by kernel_rfl, by kernel_rfl⟩
instance : ZI Try.prog 59 [.raw .nilFunc] := ⟨by kernel_rfl⟩
instance : TyI Try.prog 60 1 false := ⟨by kernel_rfl, by kernel_rfl⟩
instance : TyI Try.prog 61 1 false := ⟨by kernel_rfl, by kernel_rfl⟩
instance : ZI Try.prog 61 [.raw .nilFunc] := ⟨by kernel_rfl⟩
instance : TyI Try.prog 62 1 false := ⟨by kernel_rfl, by kernel_rfl⟩
instance : TyI Try.prog 63 1 false := ⟨by kernel_rfl, by kernel_rfl⟩
instance : ZI Try.prog 63 [.raw .nilFunc] := ⟨by kernel_rfl⟩
instance : TyI Try.prog 64 1 false := ⟨by kernel_rfl, by kernel_rfl⟩
instance : ZI Try.prog 64 [.raw .nilFunc] := ⟨by kernel_rfl⟩
instance : TyI Try.prog 65 1 false := ⟨by kernel_rfl, by kernel_rfl⟩
instance : ZI Try.prog 65 [.raw .nilFunc] := ⟨by kernel_rfl⟩
instance : TyI Try.prog 66 1 false := ⟨by kernel_rfl, by kernel_rfl⟩
instance : ZI Try.prog 66 [.raw .nilFunc] := ⟨by kernel_rfl⟩
instance : TyI Try.prog 67 1 false := ⟨by kernel_rfl, by kernel_rfl⟩
instance : ZI Try.prog 67 [.raw .nilFunc] := ⟨by kernel_rfl⟩
instance : TyI Try.prog 68 1 false := ⟨by kernel_rfl, by kernel_rfl⟩
instance : ZI Try.prog 68 [.raw .nilFunc] := ⟨by kernel_rfl⟩
instance : TyI Try.prog 69 1 false := ⟨by kernel_rfl, by kernel_rfl⟩
instance : ZI Try.prog 69 [.raw .nilFunc] := ⟨by kernel_rfl⟩
instance : TyI Try.prog 70 1 false := ⟨by kernel_rfl, by kernel_rfl⟩
instance : ZI Try.prog 70 [.raw .nilFunc] := ⟨by kernel_rfl⟩
instance : TyI Try.prog 71 1 false := ⟨by kernel_rfl, by kernel_rfl⟩
instance : ZI Try.prog 71 [.raw .nilFunc] := ⟨by kernel_rfl⟩
instance : TyI Try.prog 72 1 false := ⟨by kernel_rfl, by kernel_rfl⟩
instance : TyI Try.prog 73 1 false := ⟨by kernel_rfl, by kernel_rfl⟩
instance : ZI Try.prog 73 [.raw .nilFunc] := ⟨by kernel_rfl⟩
instance : TyI Try.prog 74 1 false := ⟨by kernel_rfl, by kernel_rfl⟩
instance : ZI Try.prog 74 [.raw .nilFunc] := ⟨by kernel_rfl⟩
instance : TyI Try.prog 75 1 false := ⟨by kernel_rfl, by kernel_rfl⟩
instance : ZI Try.prog 75 [.raw .nilFunc] := ⟨by kernel_rfl⟩
instance : TyI Try.prog 76 1 false := ⟨by kernel_rfl, by kernel_rfl⟩
instance : ZI Try.prog 76 [.raw .nilFunc] := ⟨by kernel_rfl⟩
instance : TyI Try.prog 77 1 false := ⟨by kernel_rfl, by kernel_rfl⟩
instance : TyI Try.prog 78 1 false := ⟨by kernel_rfl, by kernel_rfl⟩
instance : ZI Try.prog 78 [.raw .nilFunc] := ⟨by kernel_rfl⟩
instance : TyI Try.prog 79 1 false := ⟨by kernel_rfl, by kernel_rfl⟩
instance : TyI Try.prog 80 1 false := ⟨by kernel_rfl, by kernel_rfl⟩
instance : ZI Try.prog 80 [.raw .nilFunc] := ⟨by kernel_rfl⟩
instance : TyI Try.prog 81 1 false := ⟨by kernel_rfl, by kernel_rfl⟩
instance : ZI Try.prog 81 [.raw .nilFunc] := ⟨by kernel_rfl⟩
instance : TyI Try.prog 82 1 false := ⟨by kernel_rfl, by kernel_rfl⟩
instance : ZI Try.prog 82 [.int .u64 0] := ⟨by kernel_rfl⟩
instance : UI Try.prog 82 (.int .u64) := ⟨by kernel_rfl⟩
instance : TyI Try.prog 83 1 false := ⟨by kernel_rfl, by kernel_rfl⟩
instance : TyI Try.prog 84 1 false := ⟨by kernel_rfl, by kernel_rfl⟩
instance : ZI Try.prog 84 [.raw .nilFunc] := ⟨by kernel_rfl⟩
instance : TyI Try.prog 85 1 false := ⟨by kernel_rfl, by kernel_rfl⟩
instance : ZI Try.prog 85 [.raw .nilFunc] := ⟨by kernel_rfl⟩
instance : TyI Try.prog 86 1 false := ⟨by kernel_rfl, by kernel_rfl⟩
instance : ZI Try.prog 86 [.raw .nilFunc] := ⟨by kernel_rfl⟩
instance : TyI Try.prog 87 1 false := ⟨by kernel_rfl, by kernel_rfl⟩
instance : ZI Try.prog 87 [.raw .nilFunc] := ⟨by kernel_rfl⟩
instance : TyI Try.prog 88 1 false := ⟨by kernel_rfl, by kernel_rfl⟩
instance : ZI Try.prog 88 [.raw .nilFunc] := ⟨by kernel_rfl⟩
instance : TyI Try.prog 89 1 false := ⟨by kernel_rfl, by kernel_rfl⟩
instance : ZI Try.prog 89 [.raw .nilFunc] := ⟨by kernel_rfl⟩
instance : TyI Try.prog 90 1 false := ⟨by kernel_rfl, by kernel_rfl⟩
instance : ZI Try.prog 90 [.raw .nilFunc] := ⟨by kernel_rfl⟩
instance : TyI Try.prog 91 1 false := ⟨by kernel_rfl, by kernel_rfl⟩
instance : ZI Try.prog 91 [.raw .nilFunc] := ⟨by kernel_rfl⟩
instance : TyI Try.prog 92 1 false := ⟨by kernel_rfl, by kernel_rfl⟩
instance : TyI Try.prog 93 1 false := ⟨by kernel_rfl, by kernel_rfl⟩
instance : ZI Try.prog 93 [.raw .nilFunc] := ⟨by kernel_rfl⟩
instance : TyI Try.prog 94 1 false := ⟨by kernel_rfl, by kernel_rfl⟩
instance : ZI Try.prog 94 [.raw .nilFunc] := ⟨by kernel_rfl⟩
instance : TyI Try.prog 95 1 false := ⟨by kernel_rfl, by kernel_rfl⟩
instance : ZI Try.prog 95 [.raw .nilFunc] := ⟨by kernel_rfl⟩
instance : TyI Try.prog 96 1 false := ⟨by kernel_rfl, by kernel_rfl⟩
instance : ZI Try.prog 96 [.raw .nilFunc] := ⟨by kernel_rfl⟩
instance : TyI Try.prog 97 1 false := ⟨by kernel_rfl, by kernel_rfl⟩
instance : TyI Try.prog 98 1 false := ⟨by kernel_rfl, by kernel_rfl⟩
instance : ZI Try.prog 98 [.raw .nilFunc] := ⟨by kernel_rfl⟩
instance : TyI Try.prog 99 1 false := ⟨by kernel_rfl, by kernel_rfl⟩
instance : TyI Try.prog 100 1 false := ⟨by kernel_rfl, by kernel_rfl⟩
instance : ZI Try.prog 100 [.raw .nilFunc] := ⟨by kernel_rfl⟩
instance : TyI Try.prog 101 4 true := ⟨by kernel_rfl, by kernel_rfl⟩
instance : FldI Try.prog 101 0 0 22 := ⟨by kernel_rfl, by kernel_rfl⟩
instance : FldI Try.prog 101 1 1 3 := ⟨by kernel_rfl, by kernel_rfl⟩
instance : FldI Try.prog 101 2 2 3 := ⟨by kernel_rfl, by kernel_rfl⟩
instance : FldI Try.prog 101 3 3 3 := ⟨by kernel_rfl, by kernel_rfl⟩
instance : ZI Try.prog 101 [.slnil, .int .i64 0, .int .i64 0, .int .i64 0] := ⟨by kernel_rfl⟩
instance : BdI Try.prog 101 [.slnil, .int .i64 0, .int .i64 0, .int .i64 0] [(0, 1), (1, 1), (2, 1), (3, 1)] := ⟨by kernel_rfl⟩
instance : TyI Try.prog 102 4 true := ⟨by kernel_rfl, by kernel_rfl⟩
instance : FldI Try.prog 102 0 0 22 := ⟨by kernel_rfl, by kernel_rfl⟩
instance : FldI Try.prog 102 1 1 3 := ⟨by kernel_rfl, by kernel_rfl⟩
instance : FldI Try.prog 102 2 2 3 := ⟨by kernel_rfl, by kernel_rfl⟩
instance : FldI Try.prog 102 3 3 3 := ⟨by kernel_rfl, by kernel_rfl⟩
instance : ZI Try.prog 102 [.slnil, .int .i64 0, .int .i64 0, .int .i64 0] := ⟨by kernel_rfl⟩
instance : BdI Try.prog 102 [.slnil, .int .i64 0, .int .i64 0, .int .i64 0] [(0, 1), (1, 1), (2, 1), (3, 1)] := ⟨by kernel_rfl⟩
instance : TyI Try.prog 103 1 false := ⟨by kernel_rfl, by kernel_rfl⟩
instance : ZI Try.prog 103 [.raw .nilFunc] := ⟨by kernel_rfl⟩
instance : TyI Try.prog 104 1 false := ⟨by kernel_rfl, by kernel_rfl⟩
instance : ZI Try.prog 104 [.raw .nilFunc] := ⟨by kernel_rfl⟩
instance : TyI Try.prog 105 1 false := ⟨by kernel_rfl, by kernel_rfl⟩
instance : ZI Try.prog 105 [.raw .nilFunc] := ⟨by kernel_rfl⟩
instance : TyI Try.prog 106 1 false := ⟨by kernel_rfl, by kernel_rfl⟩
instance : ZI Try.prog 106 [.raw .nilFunc] := ⟨by kernel_rfl⟩
instance : TyI Try.prog 107 1 false := ⟨by kernel_rfl, by kernel_rfl⟩
instance : ZI Try.prog 107 [.raw .nilFunc] := ⟨by kernel_rfl⟩
instance : TyI Try.prog 108 1 false := ⟨by kernel_rfl, by kernel_rfl⟩
instance : ZI Try.prog 108 [.raw .nilFunc] := ⟨by kernel_rfl⟩
instance : TyI Try.prog 109 1 false := ⟨by kernel_rfl, by kernel_rfl⟩
instance : ZI Try.prog 109 [.raw .nilFunc] := ⟨by kernel_rfl⟩
instance : TyI Try.prog 110 1 false := ⟨by kernel_rfl, by kernel_rfl⟩
instance : ZI Try.prog 110 [.raw .nilFunc] := ⟨by kernel_rfl⟩
instance : TyI Try.prog 111 1 false := ⟨by kernel_rfl, by kernel_rfl⟩
instance : ZI Try.prog 111 [.raw .nilFunc] := ⟨by kernel_rfl⟩
instance : TyI Try.prog 112 1 false := ⟨by kernel_rfl, by kernel_rfl⟩
instance : ZI Try.prog 112 [.raw .nilFunc] := ⟨by kernel_rfl⟩
instance : TyI Try.prog 113 1 false := ⟨by kernel_rfl, by kernel_rfl⟩
instance : ZI Try.prog 113 [.raw .nilFunc] := ⟨by kernel_rfl⟩
instance : TyI Try.prog 114 1 false := ⟨by kernel_rfl, by kernel_rfl⟩
instance : ZI Try.prog 114 [.raw .nilFunc] := ⟨by kernel_rfl⟩
instance : TyI Try.prog 115 1 false := ⟨by kernel_rfl, by kernel_rfl⟩
instance : ZI Try.prog 115 [.raw .nilFunc] := ⟨by kernel_rfl⟩
instance : TyI Try.prog 116 1 false := ⟨by kernel_rfl, by kernel_rfl⟩
instance : ZI Try.prog 116 [.raw .nilFunc] := ⟨by kernel_rfl⟩
instance : TyI Try.prog 117 1 false := ⟨by kernel_rfl, by kernel_rfl⟩
instance : ZI Try.prog 117 [.raw .nilFunc] := ⟨by kernel_rfl⟩
instance : TyI Try.prog 118 1 false := ⟨by kernel_rfl, by kernel_rfl⟩
instance : ZI Try.prog 118 [.raw .nilFunc] := ⟨by kernel_rfl⟩
instance : TyI Try.prog 119 1 false := ⟨by kernel_rfl, by kernel_rfl⟩
instance : ZI Try.prog 119 [.raw .nilFunc] := ⟨by kernel_rfl⟩
instance : TyI Try.prog 120 2 true := ⟨by kernel_rfl, by kernel_rfl⟩
instance : FldI Try.prog 120 0 0 118 := ⟨by kernel_rfl, by kernel_rfl⟩
instance : FldI Try.prog 120 1 1 119 := ⟨by kernel_rfl, by kernel_rfl⟩
instance : ZI Try.prog 120 [.raw .nilFunc, .raw .nilFunc] := ⟨by kernel_rfl⟩
instance : BdI Try.prog 120 [.raw .nilFunc, .raw .nilFunc] [(0, 1), (1, 1)] := ⟨by kernel_rfl⟩
instance : TyI Try.prog 121 2 true := ⟨by kernel_rfl, by kernel_rfl⟩
instance : FldI Try.prog 121 0 0 118 := ⟨by kernel_rfl, by kernel_rfl⟩
instance : FldI Try.prog 121 1 1 119 := ⟨by kernel_rfl, by kernel_rfl⟩
instance : ZI Try.prog 121 [.raw .nilFunc, .raw .nilFunc] := ⟨by kernel_rfl⟩
instance : BdI Try.prog 121 [.raw .nilFunc, .raw .nilFunc] [(0, 1), (1, 1)] := ⟨by kernel_rfl⟩
instance : TyI Try.prog 122 1 false := ⟨by kernel_rfl, by kernel_rfl⟩
instance : ZI Try.prog 122 [.raw .nilFunc] := ⟨by kernel_rfl⟩
instance : TyI Try.prog 123 1 false := ⟨by kernel_rfl, by kernel_rfl⟩
instance : ZI Try.prog 123 [.raw .nilFunc] := ⟨by kernel_rfl⟩
instance : TyI Try.prog 124 1 false := ⟨by kernel_rfl, by kernel_rfl⟩
instance : ZI Try.prog 124 [.int .u64 0] := ⟨by kernel_rfl⟩
instance : UI Try.prog 124 (.int .u64) := ⟨by kernel_rfl⟩
instance : TyI Try.prog 125 1 false := ⟨by kernel_rfl, by kernel_rfl⟩
instance : ZI Try.prog 125 [.raw .nilFunc] := ⟨by kernel_rfl⟩
instance : TyI Try.prog 126 1 false := ⟨by kernel_rfl, by kernel_rfl⟩
instance : ZI Try.prog 126 [.raw .nilFunc] := ⟨by kernel_rfl⟩
instance : TyI Try.prog 127 1 false := ⟨by kernel_rfl, by kernel_rfl⟩
instance : ZI Try.prog 127 [.raw (.pointer none)] := ⟨by kernel_rfl⟩
instance : PtI Try.prog 127 := ⟨by kernel_rfl⟩
instance : TyI Try.prog 128 1 false := ⟨by kernel_rfl, by kernel_rfl⟩
instance : TyI Try.prog 129 1 false := ⟨by kernel_rfl, by kernel_rfl⟩
instance : ZI Try.prog 129 [.raw .nilFunc] := ⟨by kernel_rfl⟩
instance : TyI Try.prog 130 1 false := ⟨by kernel_rfl, by kernel_rfl⟩
instance : ZI Try.prog 130 [.raw .nilFunc] := ⟨by kernel_rfl⟩
instance : TyI Try.prog 131 1 false := ⟨by kernel_rfl, by kernel_rfl⟩
instance : ZI Try.prog 131 [.raw .nilFunc] := ⟨by kernel_rfl⟩
instance : TyI Try.prog 132 1 false := ⟨by kernel_rfl, by kernel_rfl⟩
instance : ZI Try.prog 132 [.raw .nilFunc] := ⟨by kernel_rfl⟩
instance : TyI Try.prog 133 1 false := ⟨by kernel_rfl, by kernel_rfl⟩
instance : ZI Try.prog 133 [.raw .nilFunc] := ⟨by kernel_rfl⟩
instance : TyI Try.prog 134 1 false := ⟨by kernel_rfl, by kernel_rfl⟩
instance : TyI Try.prog 135 1 false := ⟨by kernel_rfl, by kernel_rfl⟩
instance : ZI Try.prog 135 [.raw .nilFunc] := ⟨by kernel_rfl⟩
instance : TyI Try.prog 136 1 false := ⟨by kernel_rfl, by kernel_rfl⟩
instance : ZI Try.prog 136 [.raw .nilFunc] := ⟨by kernel_rfl⟩
instance : TyI Try.prog 137 1 false := ⟨by kernel_rfl, by kernel_rfl⟩
instance : ZI Try.prog 137 [.raw .nilFunc] := ⟨by kernel_rfl⟩
instance : TyI Try.prog 138 1 false := ⟨by kernel_rfl, by kernel_rfl⟩
instance : ZI Try.prog 138 [.raw .nilFunc] := ⟨by kernel_rfl⟩
instance : TyI Try.prog 139 1 false := ⟨by kernel_rfl, by kernel_rfl⟩
instance : ZI Try.prog 139 [.raw .nilFunc] := ⟨by kernel_rfl⟩
instance : TyI Try.prog 140 1 false := ⟨by kernel_rfl, by kernel_rfl⟩
instance : ZI Try.prog 140 [.raw .nilFunc] := ⟨by kernel_rfl⟩
instance : TyI Try.prog 141 1 false := ⟨by kernel_rfl, by kernel_rfl⟩
instance : ZI Try.prog 141 [.raw .nilFunc] := ⟨by kernel_rfl⟩
instance : TyI Try.prog 142 1 false := ⟨by kernel_rfl, by kernel_rfl⟩
instance : ZI Try.prog 142 [.raw (.pointer none)] := ⟨by kernel_rfl⟩
instance : PtI Try.prog 142 := ⟨by kernel_rfl⟩
instance : TyI Try.prog 143 1 false := ⟨by kernel_rfl, by kernel_rfl⟩
instance : ZI Try.prog 143 [.raw .nilFunc] := ⟨by kernel_rfl⟩
instance : TyI Try.prog 144 1 false := ⟨by kernel_rfl, by kernel_rfl⟩
instance : ZI Try.prog 144 [.raw .nilFunc] := ⟨by kernel_rfl⟩
instance : TyI Try.prog 145 1 false := ⟨by kernel_rfl, by kernel_rfl⟩
instance : ZI Try.prog 145 [.raw .nilFunc] := ⟨by kernel_rfl⟩
instance : TyI Try.prog 146 1 false := ⟨by kernel_rfl, by kernel_rfl⟩
instance : ZI Try.prog 146 [.raw .nilFunc] := ⟨by kernel_rfl⟩
instance : TyI Try.prog 147 1 false := ⟨by kernel_rfl, by kernel_rfl⟩
instance : ZI Try.prog 147 [.raw .nilFunc] := ⟨by kernel_rfl⟩
instance : TyI Try.prog 148 1 false := ⟨by kernel_rfl, by kernel_rfl⟩
instance : ZI Try.prog 148 [.raw .nilFunc] := ⟨by kernel_rfl⟩
instance : TyI Try.prog 149 1 false := ⟨by kernel_rfl, by kernel_rfl⟩
instance : ZI Try.prog 149 [.raw .nilFunc] := ⟨by kernel_rfl⟩
instance : TyI Try.prog 150 1 false := ⟨by kernel_rfl, by kernel_rfl⟩
instance : ZI Try.prog 150 [.raw .nilFunc] := ⟨by kernel_rfl⟩
instance : TyI Try.prog 151 9 true := ⟨by kernel_rfl, by kernel_rfl⟩
instance : FldI Try.prog 151 0 0 24 := ⟨by kernel_rfl, by kernel_rfl⟩
instance : FldI Try.prog 151 1 5 102 := ⟨by kernel_rfl, by kernel_rfl⟩
instance : ZI Try.prog 151 [.slnil, .int .i64 0, .int .i64 0, .int .i64 0, .int .i64 0, .slnil, .int .i64 0, .int .i64 0, .int .i64 0] := ⟨by kernel_rfl⟩
instance : BdI Try.prog 151 [.slnil, .int .i64 0, .int .i64 0, .int .i64 0, .int .i64 0, .slnil, .int .i64 0, .int .i64 0, .int .i64 0] [(0, 5), (5, 4)] := ⟨by kernel_rfl⟩
instance : TyI Try.prog 152 9 true := ⟨by kernel_rfl, by kernel_rfl⟩
instance : FldI Try.prog 152 0 0 24 := ⟨by kernel_rfl, by kernel_rfl⟩
instance : FldI Try.prog 152 1 5 102 := ⟨by kernel_rfl, by kernel_rfl⟩
instance : ZI Try.prog 152 [.slnil, .int .i64 0, .int .i64 0, .int .i64 0, .int .i64 0, .slnil, .int .i64 0, .int .i64 0, .int .i64 0] := ⟨by kernel_rfl⟩
instance : BdI Try.prog 152 [.slnil, .int .i64 0, .int .i64 0, .int .i64 0, .int .i64 0, .slnil, .int .i64 0, .int .i64 0, .int .i64 0] [(0, 5), (5, 4)] := ⟨by kernel_rfl⟩
instance : TyI Try.prog 153 1 false := ⟨by kernel_rfl, by kernel_rfl⟩
instance : ZI Try.prog 153 [.raw .nilFunc] := ⟨by kernel_rfl⟩
instance : TyI Try.prog 154 1 false := ⟨by kernel_rfl, by kernel_rfl⟩
instance : ZI Try.prog 154 [.raw .nilFunc] := ⟨by kernel_rfl⟩
instance : TyI Try.prog 155 1 false := ⟨by kernel_rfl, by kernel_rfl⟩
instance : ZI Try.prog 155 [.raw .nilFunc] := ⟨by kernel_rfl⟩
instance : TyI Try.prog 156 7 true := ⟨by kernel_rfl, by kernel_rfl⟩
instance : FldI Try.prog 156 0 0 3 := ⟨by kernel_rfl, by kernel_rfl⟩
instance : FldI Try.prog 156 1 1 3 := ⟨by kernel_rfl, by kernel_rfl⟩
instance : FldI Try.prog 156 2 2 45 := ⟨by kernel_rfl, by kernel_rfl⟩
instance : FldI Try.prog 156 3 3 22 := ⟨by kernel_rfl, by kernel_rfl⟩
instance : FldI Try.prog 156 4 4 22 := ⟨by kernel_rfl, by kernel_rfl⟩
instance : FldI Try.prog 156 5 5 3 := ⟨by kernel_rfl, by kernel_rfl⟩
instance : FldI Try.prog 156 6 6 3 := ⟨by kernel_rfl, by kernel_rfl⟩
instance : ZI Try.prog 156 [.int .i64 0, .int .i64 0, .flt 0, .slnil, .slnil, .int .i64 0, .int .i64 0] := ⟨by kernel_rfl⟩
instance : BdI Try.prog 156 [.int .i64 0, .int .i64 0, .flt 0, .slnil, .slnil, .int .i64 0, .int .i64 0] [(0, 1), (1, 1), (2, 1), (3, 1), (4, 1), (5, 1), (6, 1)] := ⟨by kernel_rfl⟩
instance : TyI Try.prog 157 7 true := ⟨by kernel_rfl, by kernel_rfl⟩
instance : FldI Try.prog 157 0 0 3 := ⟨by kernel_rfl, by kernel_rfl⟩
instance : FldI Try.prog 157 1 1 3 := ⟨by kernel_rfl, by kernel_rfl⟩
instance : FldI Try.prog 157 2 2 45 := ⟨by kernel_rfl, by kernel_rfl⟩
instance : FldI Try.prog 157 3 3 22 := ⟨by kernel_rfl, by kernel_rfl⟩
instance : FldI Try.prog 157 4 4 22 := ⟨by kernel_rfl, by kernel_rfl⟩
instance : FldI Try.prog 157 5 5 3 := ⟨by kernel_rfl, by kernel_rfl⟩
instance : FldI Try.prog 157 6 6 3 := ⟨by kernel_rfl, by kernel_rfl⟩
instance : ZI Try.prog 157 [.int .i64 0, .int .i64 0, .flt 0, .slnil, .slnil, .int .i64 0, .int .i64 0] := ⟨by kernel_rfl⟩
instance : BdI Try.prog 157 [.int .i64 0, .int .i64 0, .flt 0, .slnil, .slnil, .int .i64 0, .int .i64 0] [(0, 1), (1, 1), (2, 1), (3, 1), (4, 1), (5, 1), (6, 1)] := ⟨by kernel_rfl⟩
instance : TyI Try.prog 158 1 false := ⟨by kernel_rfl, by kernel_rfl⟩
instance : ZI Try.prog 158 [.raw .nilFunc] := ⟨by kernel_rfl⟩
instance : TyI Try.prog 159 1 false := ⟨by kernel_rfl, by kernel_rfl⟩
instance : TyI Try.prog 160 1 false := ⟨by kernel_rfl, by kernel_rfl⟩
instance : ZI Try.prog 160 [.raw .nilFunc] := ⟨by kernel_rfl⟩
instance : TyI Try.prog 161 1 false := ⟨by kernel_rfl, by kernel_rfl⟩
instance : ZI Try.prog 161 [.raw .nilFunc] := ⟨by kernel_rfl⟩
instance : TyI Try.prog 162 1 false := ⟨by kernel_rfl, by kernel_rfl⟩
instance : TyI Try.prog 163 1 false := ⟨by kernel_rfl, by kernel_rfl⟩
instance : ZI Try.prog 163 [.raw .nilFunc] := ⟨by kernel_rfl⟩
instance : TyI Try.prog 164 1 false := ⟨by kernel_rfl, by kernel_rfl⟩
instance : ZI Try.prog 164 [.raw .nilFunc] := ⟨by kernel_rfl⟩
instance : TyI Try.prog 165 1 false := ⟨by kernel_rfl, by kernel_rfl⟩
instance : TyI Try.prog 166 1 false := ⟨by kernel_rfl, by kernel_rfl⟩
instance : ZI Try.prog 166 [.raw .nilFunc] := ⟨by kernel_rfl⟩
instance : TyI Try.prog 167 1 false := ⟨by kernel_rfl, by kernel_rfl⟩
instance : ZI Try.prog 167 [.raw .nilFunc] := ⟨by kernel_rfl⟩
instance : TyI Try.prog 168 1 false := ⟨by kernel_rfl, by kernel_rfl⟩
instance : ZI Try.prog 168 [.raw .nilFunc] := ⟨by kernel_rfl⟩
instance : TyI Try.prog 169 1 false := ⟨by kernel_rfl, by kernel_rfl⟩
instance : ZI Try.prog 169 [.raw .nilFunc] := ⟨by kernel_rfl⟩
instance : TyI Try.prog 170 1 false := ⟨by kernel_rfl, by kernel_rfl⟩
instance : ZI Try.prog 170 [.raw .nilFunc] := ⟨by kernel_rfl⟩
instance : TyI Try.prog 171 1 false := ⟨by kernel_rfl, by kernel_rfl⟩
instance : ZI Try.prog 171 [.raw .nilFunc] := ⟨by kernel_rfl⟩
instance : TyI Try.prog 172 1 false := ⟨by kernel_rfl, by kernel_rfl⟩
instance : ZI Try.prog 172 [.raw .nilFunc] := ⟨by kernel_rfl⟩
instance : TyI Try.prog 173 1 false := ⟨by kernel_rfl, by kernel_rfl⟩
instance : ZI Try.prog 173 [.raw .nilFunc] := ⟨by kernel_rfl⟩
instance : TyI Try.prog 174 1 false := ⟨by kernel_rfl, by kernel_rfl⟩
instance : TyI Try.prog 175 1 false := ⟨by kernel_rfl, by kernel_rfl⟩
instance : ZI Try.prog 175 [.raw .nilFunc] := ⟨by kernel_rfl⟩
instance : TyI Try.prog 176 1 false := ⟨by kernel_rfl, by kernel_rfl⟩
instance : ZI Try.prog 176 [.raw .nilFunc] := ⟨by kernel_rfl⟩
instance : TyI Try.prog 177 4 true := ⟨by kernel_rfl, by kernel_rfl⟩
instance : FldI Try.prog 177 0 0 17 := ⟨by kernel_rfl, by kernel_rfl⟩
instance : FldI Try.prog 177 1 1 17 := ⟨by kernel_rfl, by kernel_rfl⟩
instance : FldI Try.prog 177 2 2 17 := ⟨by kernel_rfl, by kernel_rfl⟩
instance : FldI Try.prog 177 3 3 9 := ⟨by kernel_rfl, by kernel_rfl⟩
instance : ZI Try.prog 177 [.raw (.pointer none), .raw (.pointer none), .raw (.pointer none), .str .empty] := ⟨by kernel_rfl⟩
instance : BdI Try.prog 177 [.raw (.pointer none), .raw (.pointer none), .raw (.pointer none), .str .empty] [(0, 1), (1, 1), (2, 1), (3, 1)] := ⟨by kernel_rfl⟩
instance : TyI Try.prog 178 4 true := ⟨by kernel_rfl, by kernel_rfl⟩
instance : FldI Try.prog 178 0 0 17 := ⟨by kernel_rfl, by kernel_rfl⟩
instance : FldI Try.prog 178 1 1 17 := ⟨by kernel_rfl, by kernel_rfl⟩
instance : FldI Try.prog 178 2 2 17 := ⟨by kernel_rfl, by kernel_rfl⟩
instance : FldI Try.prog 178 3 3 9 := ⟨by kernel_rfl, by kernel_rfl⟩
instance : ZI Try.prog 178 [.raw (.pointer none), .raw (.pointer none), .raw (.pointer none), .str .empty] := ⟨by kernel_rfl⟩
instance : BdI Try.prog 178 [.raw (.pointer none), .raw (.pointer none), .raw (.pointer none), .str .empty] [(0, 1), (1, 1), (2, 1), (3, 1)] := ⟨by kernel_rfl⟩
instance : TyI Try.prog 179 0 true := ⟨by kernel_rfl, by kernel_rfl⟩
instance : ZI Try.prog 179 [] := ⟨by kernel_rfl⟩
instance : TyI Try.prog 180 0 true := ⟨by kernel_rfl, by kernel_rfl⟩
instance : ZI Try.prog 180 [] := ⟨by kernel_rfl⟩
instance : BdI Try.prog 180 [] [(0, 0)] := ⟨by kernel_rfl⟩
instance : TyI Try.prog 181 0 true := ⟨by kernel_rfl, by kernel_rfl⟩
instance : ZI Try.prog 181 [] := ⟨by kernel_rfl⟩
instance : BdI Try.prog 181 [] [(0, 0)] := ⟨by kernel_rfl⟩
instance : TyI Try.prog 182 1 false := ⟨by kernel_rfl, by kernel_rfl⟩
instance : ZI Try.prog 182 [.raw .nilFunc] := ⟨by kernel_rfl⟩
instance : TyI Try.prog 183 1 false := ⟨by kernel_rfl, by kernel_rfl⟩
instance : ZI Try.prog 183 [.int .u32 0] := ⟨by kernel_rfl⟩
instance : UI Try.prog 183 (.int .u32) := ⟨by kernel_rfl⟩
instance : TyI Try.prog 184 1 false := ⟨by kernel_rfl, by kernel_rfl⟩
instance : ZI Try.prog 184 [.int .u8 0] := ⟨by kernel_rfl⟩
instance : UI Try.prog 184 (.int .u8) := ⟨by kernel_rfl⟩
instance : TyI Try.prog 185 1 false := ⟨by kernel_rfl, by kernel_rfl⟩
instance : ZI Try.prog 185 [.int .u8 0] := ⟨by kernel_rfl⟩
instance : UI Try.prog 185 (.int .u8) := ⟨by kernel_rfl⟩
instance : TyI Try.prog 186 1 false := ⟨by kernel_rfl, by kernel_rfl⟩
instance : ZI Try.prog 186 [.raw .nilFunc] := ⟨by kernel_rfl⟩
instance : TyI Try.prog 187 1 false := ⟨by kernel_rfl, by kernel_rfl⟩
instance : ZI Try.prog 187 [.raw (.pointer none)] := ⟨by kernel_rfl⟩
instance : PtI Try.prog 187 := ⟨by kernel_rfl⟩
instance : TyI Try.prog 188 1 false := ⟨by kernel_rfl, by kernel_rfl⟩
instance : ZI Try.prog 188 [.int .i32 0] := ⟨by kernel_rfl⟩
instance : UI Try.prog 188 (.int .i32) := ⟨by kernel_rfl⟩
instance : TyI Try.prog 189 1 false := ⟨by kernel_rfl, by kernel_rfl⟩
instance : ZI Try.prog 189 [.int .i32 0] := ⟨by kernel_rfl⟩
instance : UI Try.prog 189 (.int .i32) := ⟨by kernel_rfl⟩
instance : TyI Try.prog 190 11 true := ⟨by kernel_rfl, by kernel_rfl⟩
instance : FldI Try.prog 190 0 0 12 := ⟨by kernel_rfl, by kernel_rfl⟩
instance : FldI Try.prog 190 1 1 12 := ⟨by kernel_rfl, by kernel_rfl⟩
instance : FldI Try.prog 190 2 2 183 := ⟨by kernel_rfl, by kernel_rfl⟩
instance : FldI Try.prog 190 3 3 184 := ⟨by kernel_rfl, by kernel_rfl⟩
instance : FldI Try.prog 190 4 4 5 := ⟨by kernel_rfl, by kernel_rfl⟩
instance : FldI Try.prog 190 5 5 5 := ⟨by kernel_rfl, by kernel_rfl⟩
instance : FldI Try.prog 190 6 6 185 := ⟨by kernel_rfl, by kernel_rfl⟩
instance : FldI Try.prog 190 7 7 186 := ⟨by kernel_rfl, by kernel_rfl⟩
instance : FldI Try.prog 190 8 8 187 := ⟨by kernel_rfl, by kernel_rfl⟩
instance : FldI Try.prog 190 9 9 188 := ⟨by kernel_rfl, by kernel_rfl⟩
instance : FldI Try.prog 190 10 10 189 := ⟨by kernel_rfl, by kernel_rfl⟩
instance : ZI Try.prog 190 [.int .u64 0, .int .u64 0, .int .u32 0, .int .u8 0, .int .u8 0, .int .u8 0, .int .u8 0, .raw .nilFunc, .raw (.pointer none), .int .i32 0, .int .i32 0] := ⟨by kernel_rfl⟩
instance : BdI Try.prog 190 [.int .u64 0, .int .u64 0, .int .u32 0, .int .u8 0, .int .u8 0, .int .u8 0, .int .u8 0, .raw .nilFunc, .raw (.pointer none), .int .i32 0, .int .i32 0] [(0, 1), (1, 1), (2, 1), (3, 1), (4, 1), (5, 1), (6, 1), (7, 1), (8, 1), (9, 1), (10, 1)] := ⟨by kernel_rfl⟩
instance : TyI Try.prog 191 11 true := ⟨by kernel_rfl, by kernel_rfl⟩
instance : FldI Try.prog 191 0 0 12 := ⟨by kernel_rfl, by kernel_rfl⟩
instance : FldI Try.prog 191 1 1 12 := ⟨by kernel_rfl, by kernel_rfl⟩
instance : FldI Try.prog 191 2 2 183 := ⟨by kernel_rfl, by kernel_rfl⟩
instance : FldI Try.prog 191 3 3 184 := ⟨by kernel_rfl, by kernel_rfl⟩
instance : FldI Try.prog 191 4 4 5 := ⟨by kernel_rfl, by kernel_rfl⟩
instance : FldI Try.prog 191 5 5 5 := ⟨by kernel_rfl, by kernel_rfl⟩
instance : FldI Try.prog 191 6 6 185 := ⟨by kernel_rfl, by kernel_rfl⟩
instance : FldI Try.prog 191 7 7 186 := ⟨by kernel_rfl, by kernel_rfl⟩
instance : FldI Try.prog 191 8 8 187 := ⟨by kernel_rfl, by kernel_rfl⟩
instance : FldI Try.prog 191 9 9 188 := ⟨by kernel_rfl, by kernel_rfl⟩
instance : FldI Try.prog 191 10 10 189 := ⟨by kernel_rfl, by kernel_rfl⟩
instance : ZI Try.prog 191 [.int .u64 0, .int .u64 0, .int .u32 0, .int .u8 0, .int .u8 0, .int .u8 0, .int .u8 0, .raw .nilFunc, .raw (.pointer none), .int .i32 0, .int .i32 0] := ⟨by kernel_rfl⟩
instance : BdI Try.prog 191 [.int .u64 0, .int .u64 0, .int .u32 0, .int .u8 0, .int .u8 0, .int .u8 0, .int .u8 0, .raw .nilFunc, .raw (.pointer none), .int .i32 0, .int .i32 0] [(0, 1), (1, 1), (2, 1), (3, 1), (4, 1), (5, 1), (6, 1), (7, 1), (8, 1), (9, 1), (10, 1)] := ⟨by kernel_rfl⟩
instance : TyI Try.prog 192 1 false := ⟨by kernel_rfl, by kernel_rfl⟩
instance : ZI Try.prog 192 [.raw (.pointer none)] := ⟨by kernel_rfl⟩
theorem fol : Try.prog.follows .mixedOrders = true := by kernel_rfl
theorem dOk {esc : Bool} {n : Nat} {fz : List Nat} (C : Cx) (h1 : C.P = Try.prog) (h2 : C.cfg = ⟨esc, n, fz⟩) : DrawOk C (drawX Try.prog ⟨esc, n, fz⟩) := by
  have := drawOk (C := C) (by rw [h1]; exact fol)
  rw [h1, h2] at this; exact this
end Go.Sx

set_option linter.unusedVariables false
set_option linter.unusedSimpArgs false
namespace Go.Sx
/-! ### the order of floats that are not below 0 -/
def fB : Nat := 4503599627370496
def fVal (x : Nat) : Nat := if x < fB then x else (fB + x % fB) * 2 ^ (x / fB - 1)
theorem fVal_mono {x y : Nat} (h : x < y) : fVal x < fVal y := by
  have hB : 0 < fB := by decide
  unfold fVal
  have hx := Nat.div_add_mod x fB
  have hy := Nat.div_add_mod y fB
  have hxm := Nat.mod_lt x hB
  have hym := Nat.mod_lt y hB
  by_cases h1 : x < fB
  · by_cases h2 : y < fB
    · rw [if_pos h1, if_pos h2]; exact h
    · rw [if_pos h1, if_neg h2]
      have : 1 ≤ 2 ^ (y / fB - 1) := Nat.one_le_two_pow
      have := Nat.mul_le_mul (Nat.le_refl (fB + y % fB)) this
      omega
  · by_cases h2 : y < fB
    · omega
    · rw [if_neg h1, if_neg h2]
      have hqx : 1 ≤ x / fB := (Nat.le_div_iff_mul_le hB).2 (by omega)
      rcases Nat.lt_trichotomy (x / fB) (y / fB) with hq | hq | hq
      · have e1 : (fB + x % fB) * 2 ^ (x / fB - 1) < (2 * fB) * 2 ^ (x / fB - 1) := Nat.mul_lt_mul_of_pos_right (by omega) (Nat.two_pow_pos _)
        have e2 : (2 * fB) * 2 ^ (x / fB - 1) = fB * 2 ^ (x / fB) := by
          have : 2 ^ (x / fB) = 2 * 2 ^ (x / fB - 1) := by
            rw [← Nat.pow_succ']; congr 1; omega
          rw [this, ← Nat.mul_assoc, Nat.mul_comm 2 fB]
        have e3 : fB * 2 ^ (x / fB) ≤ (fB + y % fB) * 2 ^ (y / fB - 1) := Nat.mul_le_mul (by omega) (Nat.pow_le_pow_right (by omega) (by omega))
        omega
      · rw [hq] at hx ⊢
        exact Nat.mul_lt_mul_of_pos_right (by omega) (Nat.two_pow_pos _)
      · have : y / fB + 1 ≤ x / fB := hq
        have := Nat.mul_le_mul (Nat.le_refl fB) this
        rw [Nat.mul_add, Nat.mul_one] at this
        omega
theorem fVal_cmp (x y : Nat) : compare (fVal x) (fVal y) = compare x y := by
  rcases Nat.lt_trichotomy x y with h | h | h
  · rw [Nat.compare_eq_lt.2 h, Nat.compare_eq_lt.2 (fVal_mono h)]
  · subst h; rw [Nat.compare_eq_eq.2 rfl, Nat.compare_eq_eq.2 rfl]
  · rw [Nat.compare_eq_gt.2 h, Nat.compare_eq_gt.2 (fVal_mono h)]
def fInf : Nat := 9218868437227405312
theorem read_pos {x : Nat} (h : x < fInf) : ∃ m e : Nat, Ieee.double.read x = .number false m (Ieee.double.leastPlace + (e : Int)) ∧ fVal x = m * 2 ^ e := by
  have e1 : Ieee.double.signWeight = 9223372036854775808 := by decide
  have e2 : Ieee.double.binade = fB := by decide
  have e3 : Ieee.double.infRung = fInf := by decide
  have hx : x < 9223372036854775808 := by unfold fInf at h; omega
  have h0 : (x / 9223372036854775808 % 2 == 1) = false := by
    rw [Nat.div_eq_of_lt hx]; rfl
  have hm : x % 9223372036854775808 = x := Nat.mod_eq_of_lt hx
  unfold Ieee.Format.read fVal
  simp only [e1, e2, e3, h0, hm]
  by_cases h1 : x < fB
  · rw [if_pos h1, if_pos h1]
    exact ⟨x, 0, by simp, by simp⟩
  · rw [if_neg h1, if_pos h, if_neg h1]
    exact ⟨_, _, rfl, rfl⟩
theorem read_inf : Ieee.double.read fInf = .infinity false := by decide
theorem shl_cmp (m n a b : Nat) (i j k : Nat) (hi : a = i + k) (hj : b = j + k) : compare ((m <<< i : Nat) : Int) ((n <<< j : Nat) : Int) = compare (m * 2 ^ a) (n * 2 ^ b) := by
  have e : ∀ x y : Nat, compare (x : Int) (y : Int) = compare x y := by
    intro x y
    rcases Nat.lt_trichotomy x y with h | h | h
    · rw [Nat.compare_eq_lt.2 h, Int.compare_eq_lt.2 (by omega)]
    · subst h; rw [Nat.compare_eq_eq.2 rfl, Int.compare_eq_eq.2 rfl]
    · rw [Nat.compare_eq_gt.2 h, Int.compare_eq_gt.2 (by omega)]
  rw [e, Nat.shiftLeft_eq, Nat.shiftLeft_eq]
  subst hi hj
  have h1 : m * 2 ^ (i + k) = m * 2 ^ i * 2 ^ k := by rw [Nat.pow_add, Nat.mul_assoc]
  have h2 : n * 2 ^ (j + k) = n * 2 ^ j * 2 ^ k := by rw [Nat.pow_add, Nat.mul_assoc]
  rw [h1, h2]
  have hp : 0 < 2 ^ k := Nat.two_pow_pos k
  rcases Nat.lt_trichotomy (m * 2 ^ i) (n * 2 ^ j) with h | h | h
  · rw [Nat.compare_eq_lt.2 h, Nat.compare_eq_lt.2 (Nat.mul_lt_mul_of_pos_right h hp)]
  · rw [h, Nat.compare_eq_eq.2 rfl, Nat.compare_eq_eq.2 rfl]
  · rw [Nat.compare_eq_gt.2 h, Nat.compare_eq_gt.2 (Nat.mul_lt_mul_of_pos_right h hp)]
theorem order_pos {x y : Nat} (hx : x ≤ fInf) (hy : y ≤ fInf) : Ieee.double.order x y = some (compare x y) := by
  unfold Ieee.Format.order
  rcases Nat.lt_or_ge x fInf with h1 | h1
  · obtain ⟨m, e, r1, v1⟩ := read_pos h1
    rcases Nat.lt_or_ge y fInf with h2 | h2
    · obtain ⟨n, f, r2, v2⟩ := read_pos h2
      rw [r1, r2]
      simp only [Ieee.Datum.order, Ieee.signed, Bool.false_eq_true, if_false, Option.some.injEq]
      rw [shl_cmp m n e f _ _ (min e f) (by omega) (by omega), ← v1, ← v2, fVal_cmp]
    · have : y = fInf := by omega
      subst this
      rw [r1, read_inf]
      simp [Ieee.Datum.order, Nat.compare_eq_lt.2 h1]
  · have : x = fInf := by omega
    subst this
    rcases Nat.lt_or_ge y fInf with h2 | h2
    · obtain ⟨n, f, r2, v2⟩ := read_pos h2
      rw [r2, read_inf]
      simp [Ieee.Datum.order, Nat.compare_eq_gt.2 h2]
    · have : y = fInf := by omega
      subst this
      rw [read_inf]
      simp [Ieee.Datum.order]
theorem flt_pos {x y : Nat} (hx : x ≤ fInf) (hy : y ≤ fInf) : flt x y = decide (x < y) := by
  unfold flt
  rw [order_pos hx hy]
  rcases Nat.lt_trichotomy x y with h | h | h
  · rw [Nat.compare_eq_lt.2 h]; simp [h]
  · subst h; rw [Nat.compare_eq_eq.2 rfl]; simp
  · rw [Nat.compare_eq_gt.2 h]; simp; omega
end Go.Sx

set_option linter.unusedVariables false
set_option linter.unusedSimpArgs false
namespace Go.Sx
/-! ### a matrix within a list, written -/
def loc (off ld : Int) (r c p : Nat) : Option (Nat × Nat) :=
  if 0 ≤ (p : Int) - off ∧ (((p : Int) - off) % ld).toNat < r ∧ (((p : Int) - off) / ld).toNat < c then some ((((p : Int) - off) % ld).toNat, (((p : Int) - off) / ld).toNat) else none
def setM (L : List Nat) (off ld : Int) (r c : Nat) (g : Nat → Nat → Nat) : List Nat :=
  rml (fun p => match loc off ld r c p with | some q => g q.1 q.2 | none => L.getD p 0) L.length
@[simp] theorem setM_len (L : List Nat) (off ld : Int) (r c : Nat) (g : Nat → Nat → Nat) : (setM L off ld r c g).length = L.length := by simp [setM]
def pos (off ld : Int) (i j : Nat) : Nat := (off + (i : Int) + (j : Int) * ld).toNat
theorem mel_pos (l : List Nat) (off ld : Int) (i j : Nat) : mel l off ld i j = l.getD (pos off ld i j) 0 := rfl
section
variable {off ld : Int} {r c n : Nat}
theorem loc_pos (hG : GoodP n off r c ld) {i j : Nat} (hi : i < r) (hj : j < c) : loc off ld r c (pos off ld i j) = some (i, j) := by
  obtain ⟨h1, h2, h3, h4, h5, h6⟩ := id hG
  have hp := good_place hG (i := (i : Int)) (j := (j : Int)) (by omega) (by omega) (by omega) (by omega)
  have e : ((pos off ld i j : Nat) : Int) - off = (i : Int) + (j : Int) * ld := by unfold pos; omega
  have e1 : ((i : Int) + (j : Int) * ld) % ld = i := by
    rw [Int.add_mul_emod_self_right]; exact Int.emod_eq_of_lt (by omega) (by omega)
  have e2 : ((i : Int) + (j : Int) * ld) / ld = j := by
    rw [Int.add_mul_ediv_right _ _ (by omega), Int.ediv_eq_zero_of_lt (by omega) (by omega)]; omega
  unfold loc
  rw [e, e1, e2]
  rw [if_pos ⟨by omega, by omega, by omega⟩]
  simp
theorem loc_some {p i j : Nat} (h4 : 1 ≤ ld) (h3 : 0 ≤ off) (h : loc off ld r c p = some (i, j)) : i < r ∧ j < c ∧ p = pos off ld i j := by
  unfold loc at h
  split at h
  · rename_i hc
    simp only [Option.some.injEq, Prod.mk.injEq] at h
    obtain ⟨rfl, rfl⟩ := h
    refine ⟨hc.2.1, hc.2.2, ?_⟩
    unfold pos
    have e1 := Int.emod_nonneg ((p : Int) - off) (show ld ≠ 0 by omega)
    have e2 := Int.ediv_nonneg hc.1 (show 0 ≤ ld by omega)
    have e3 := Int.mul_ediv_add_emod ((p : Int) - off) ld
    rw [Int.toNat_of_nonneg e1, Int.toNat_of_nonneg e2]
    have : ((p : Int) - off) / ld * ld = ld * (((p : Int) - off) / ld) := Int.mul_comm _ _
    omega
  · cases h
theorem pos_lt (hG : GoodP n off r c ld) {i j : Nat} (hi : i < r) (hj : j < c) : pos off ld i j < n := by
  have hp := good_place hG (i := (i : Int)) (j := (j : Int)) (by omega) (by omega) (by omega) (by omega)
  unfold pos; omega
theorem mel_setM {L : List Nat} {g : Nat → Nat → Nat} (hG : GoodP L.length off r c ld) {i j : Nat} (hi : i < r) (hj : j < c) : mel (setM L off ld r c g) off ld i j = g i j := by
  rw [mel_pos, setM, rml_get (pos_lt hG hi hj), loc_pos hG hi hj]
theorem setM_congr {L : List Nat} {g g' : Nat → Nat → Nat} (h4 : 1 ≤ ld) (h3 : 0 ≤ off) (h : ∀ i j, i < r → j < c → g i j = g' i j) : setM L off ld r c g = setM L off ld r c g' := by
  unfold setM
  refine rml_congr fun p hp => ?_
  cases hl : loc off ld r c p with
  | some q =>
    obtain ⟨i, j⟩ := q
    obtain ⟨hi, hj, _⟩ := loc_some h4 h3 hl
    exact h i j hi hj
  | none => rfl
theorem setM_mel {L : List Nat} (h4 : 1 ≤ ld) (h3 : 0 ≤ off) : setM L off ld r c (mel L off ld) = L := by
  apply List.ext_getElem
  · simp
  · intro p h1 h2
    have hp : p < L.length := h2
    have := rml_get (g := fun p => match loc off ld r c p with | some q => mel L off ld q.1 q.2 | none => L.getD p 0) hp
    have e : (setM L off ld r c (mel L off ld)).getD p 0 = L.getD p 0 := by
      rw [setM, this]
      cases hl : loc off ld r c p with
      | some q =>
        obtain ⟨i, j⟩ := q
        obtain ⟨_, _, rfl⟩ := loc_some h4 h3 hl
        rfl
      | none => rfl
    simpa [List.getD, h1, h2] using e
def updG (g : Nat → Nat → Nat) (i j x : Nat) : Nat → Nat → Nat := fun i' j' => if i' = i ∧ j' = j then x else g i' j'
theorem set_setM {L : List Nat} {g : Nat → Nat → Nat} (hG : GoodP L.length off r c ld) {i j x : Nat} (hi : i < r) (hj : j < c) : (setM L off ld r c g).set (pos off ld i j) x = setM L off ld r c (updG g i j x) := by
  obtain ⟨h1, h2, h3, h4, h5, h6⟩ := id hG
  apply List.ext_getElem
  · simp
  · intro p k1 k2
    simp only [setM_len] at k2
    rw [List.getElem_set]
    have val : ∀ g : Nat → Nat → Nat, (setM L off ld r c g)[p]'(by simpa using k2) = match loc off ld r c p with | some q => g q.1 q.2 | none => L.getD p 0 := by
      intro g; simp [setM, rml]
    rw [val, val]
    split
    · rename_i hp
      subst hp
      rw [loc_pos hG hi hj]
      simp [updG]
    · rename_i hp
      cases hl : loc off ld r c p with
      | some q =>
        obtain ⟨i', j'⟩ := q
        obtain ⟨hi', hj', rfl⟩ := loc_some h4 h3 hl
        simp only [updG]
        rw [if_neg]
        rintro ⟨rfl, rfl⟩; exact hp rfl
      | none => rfl
end
end Go.Sx

set_option linter.unusedVariables false
set_option linter.unusedSimpArgs false
namespace Go.Sx
section
variable {P : Program} {cfg : Cfg} {e : List (Nat × EV)} {L : List (Nat × List AV)} {H N : List (List AV)} {K : St → Prop}
variable {ty : TypeId} {pos : String} {aft : Array Edge} {gd : Option (Nat × Bool)} {dd : Nat}
/-! ### one block of old that is written over and over: the blocks are 'H.set b ..' -/
theorem hb_set {b : Nat} {cs : List AV} (h : b < H.length) : (H.set b cs)[b]? = some cs := by simp [h]
theorem l_bF {t : TypeId} {b g o len sz k : Nat} {X : List Nat} [i : TyI P t 1 false] (hb : b < H.length) (hg : X.length = g) (hk : o + k < X.length) (h : K ⟨(dd, .val (.flt (X.getD (o + k) 0))) :: e, L, H.set b (fl X) ++ N⟩) :
    loadK P t dd K ⟨e, L, H.set b (fl X) ++ N⟩ (.val (.eptr (.slm b g o len sz) k)) :=
  l_ptr1 (by simp only [sread, hg_old (hb_set hb), Option.bind_some, fl_len, hg, if_true]; exact gc_one (fl_get hk)) h
theorem b_stB {t : TypeId} {x v : Operand} {b g o len sz k : Nat} {X X' : List Nat} {f : Nat} [ti : TyI P t 1 false] (hx : St.ev ⟨e, L, H.set b (fl X) ++ N⟩ x = .val (.eptr (.slm b g o len sz) k)) (hv : St.ev ⟨e, L, H.set b (fl X) ++ N⟩ v = .val (.flt f)) (hb : b < H.length)
    (hg : X.length = g) (hk : o + k < X.length) (hX : X.set (o + k) f = X') (h : K ⟨e, L, H.set b (fl X') ++ N⟩) : opX P cfg ⟨none, .store t x v, ty, pos, aft, gd⟩ K ⟨e, L, H.set b (fl X) ++ N⟩ := by
  refine b_stF hx hv (hb_set hb) hg hk hX ?_
  rw [List.set_set]; exact h
theorem b_nilC {x : Operand} {s : AV} {o : Nat} (hx : St.ev ⟨e, L, H⟩ x = .val (.eptr s o)) (h : K ⟨(dd, .val (.eptr s o)) :: e, L, H⟩) : opX P cfg ⟨some dd, .nilCheck x, ty, pos, aft, gd⟩ K ⟨e, L, H⟩ := by
  rw [op_pure P cfg e L H K _ _ _ _ _ _ rfl]
  simp only [pureV, hx]
  exact ⟨trivial, h⟩
theorem b_iaM {m : Nat} {t el : TypeId} {x y : Operand} [si : SlI P t el 1] {s : AV} {k : IntKind} {i : Int} {len : Nat} (hx : St.ev ⟨e, L, H⟩ x = .val s) (hy : St.ev ⟨e, L, H⟩ y = .val (.int k i)) (hl : slen s = some len) (hi : i = (m : Int)) (hm : m < len)
    (h : K ⟨(dd, .val (.eptr s m)) :: e, L, H⟩) : opX P cfg ⟨some dd, .indexAddr t x y, ty, pos, aft, gd⟩ K ⟨e, L, H⟩ :=
  b_ia (i := m) hx hy hl hi hm (by simpa using h)
theorem FL.set {b g q : Nat} {X : List Nat} (hb : b < H.length) (hg : g = X.length) (hq : q = X.length) : FL (H.set b (fl X) ++ N) (.slm b g 0 q 1) X :=
  (FL.old (hb_set hb) hg hq).app N
end
end Go.Sx

set_option linter.unusedVariables false
set_option linter.unusedSimpArgs false
namespace Go.Sx
/-! ### signs of products -/
open Ieee
theorem e_sw : Ieee.double.signWeight = 9223372036854775808 := by decide
theorem e_bn : Ieee.double.binade = 4503599627370496 := by decide
theorem e_ir : Ieee.double.infRung = 9218868437227405312 := by decide
theorem e_lp : Ieee.double.leastPlace = -1074 := by decide
theorem e_fb : Ieee.double.fractionBits = 52 := by decide
theorem read_word (s : Bool) (k : Nat) (h : k ≤ 9218868437227405312) : Ieee.double.read (Ieee.double.word s k) = (if s then (Ieee.double.read k).opposite else Ieee.double.read k) := by
  have hk : k < 9223372036854775808 := by omega
  have h1 : (k / 9223372036854775808 % 2 == 1) = false := by rw [Nat.div_eq_of_lt hk]; rfl
  have h2 : k % 9223372036854775808 = k := Nat.mod_eq_of_lt hk
  cases s with
  | false =>
    have : Ieee.double.word false k = k := by simp [Ieee.Format.word, e_sw]
    rw [this]; rfl
  | true =>
    have e : Ieee.double.word true k = 9223372036854775808 + k := by simp [Ieee.Format.word, e_sw]
    rw [e]
    have h3 : ((9223372036854775808 + k) / 9223372036854775808 % 2 == 1) = true := by
      have : (9223372036854775808 + k) / 9223372036854775808 = 1 := by omega
      rw [this]; rfl
    have h4 : (9223372036854775808 + k) % 9223372036854775808 = k := by omega
    unfold Ieee.Format.read
    simp only [e_sw, e_bn, e_ir, h1, h2, h3, h4, if_true]
    split
    · simp [Ieee.Datum.opposite]
    · split
      · simp [Ieee.Datum.opposite]
      · split
        · simp [Ieee.Datum.opposite]
        · simp [Ieee.Datum.opposite]
def rungF (m : Nat) (p : Int) : Nat :=
  if m = 0 then 0 else
    let last := max (p + m.log2 - 52) (-1074)
    min ((last - (-1074)).toNat * 4503599627370496 + Toward.even.cut false (m <<< (p - last).toNat) (last - p).toNat) 9218868437227405312
theorem cut_even (s : Bool) (n d : Nat) : Toward.even.cut s n d = Toward.even.cut false n d := rfl
theorem nearest_eq (s : Bool) (m : Nat) (p : Int) : Ieee.double.nearest s m p = Ieee.double.word s (rungF m p) := by
  unfold Ieee.Format.nearest rungF
  by_cases h : m = 0
  · simp [h]
  · simp only [h, if_false, e_fb, e_lp, e_bn, e_ir, cut_even s]
    rfl
theorem rungF_le (m : Nat) (p : Int) : rungF m p ≤ 9218868437227405312 := by
  unfold rungF
  split
  · omega
  · exact Nat.min_le_right _ _
theorem log2_of {n k : Nat} (h1 : 2 ^ k ≤ n) (h2 : n < 2 ^ (k + 1)) : n.log2 = k := by
  have hn : n ≠ 0 := by have := Nat.two_pow_pos k; omega
  exact (Nat.log2_eq_iff hn).2 ⟨h1, h2⟩
theorem cut_exact {n : Nat} (h : 1 ≤ n) : Toward.even.cut false ((4503599627370496 * n) <<< 0) 52 = n := by
  have hl : 52 ≤ (4503599627370496 * n).log2 := by
    rw [Nat.le_log2 (by omega)]
    have : 2 ^ 52 = 4503599627370496 := by decide
    omega
  unfold Toward.cut
  have e0 : (4503599627370496 * n) <<< 0 = 4503599627370496 * n := rfl
  have e1 : min 52 ((4503599627370496 * n).log2 + 2) = 52 := by omega
  have e2 : (1 : Nat) <<< 52 = 4503599627370496 := by decide
  simp only [e0, e1, e2]
  have e3 : 4503599627370496 * n / 4503599627370496 = n := Nat.mul_div_cancel_left n (by decide)
  have e4 : 4503599627370496 * n % 4503599627370496 = 0 := Nat.mul_mod_right _ _
  rw [e3, e4]
  simp
/-- what is read is written again, from a place 52 further down -/
theorem rungF_read {k : Nat} (h : k < 9218868437227405312) : ∃ m e, Ieee.double.read k = .number false m e ∧ rungF (4503599627370496 * m) (e + -52) = k := by
  have hk : k < 9223372036854775808 := by omega
  have h1 : (k / 9223372036854775808 % 2 == 1) = false := by rw [Nat.div_eq_of_lt hk]; rfl
  have h2 : k % 9223372036854775808 = k := Nat.mod_eq_of_lt hk
  unfold Ieee.Format.read
  simp only [e_sw, e_bn, e_ir, e_lp, h1, h2]
  by_cases hB : k < 4503599627370496
  · rw [if_pos hB]
    refine ⟨k, -1074, rfl, ?_⟩
    by_cases h0 : k = 0
    · subst h0; decide
    · have hl2 : (4503599627370496 * k).log2 < 104 := by
        rw [Nat.log2_lt (by omega)]
        have : 2 ^ 104 = 4503599627370496 * 4503599627370496 := by decide
        omega
      unfold rungF
      rw [if_neg (by omega)]
      have e1 : max (-1074 + -52 + (((4503599627370496 * k).log2 : Nat) : Int) - 52) (-1074) = -1074 := by omega
      simp only [e1]
      have e2 : ((-1074 : Int) + -52 - -1074).toNat = 0 := by decide
      have e3 : ((-1074 : Int) - (-1074 + -52)).toNat = 52 := by decide
      have e4 : ((-1074 : Int) - -1074).toNat = 0 := by decide
      rw [e2, e3, e4, cut_exact (by omega)]
      omega
  · rw [if_neg hB, if_pos h]
    refine ⟨_, _, rfl, ?_⟩
    have hd := Nat.div_add_mod k 4503599627370496
    have hm := Nat.mod_lt k (show 0 < 4503599627370496 by decide)
    have hq : 1 ≤ k / 4503599627370496 := (Nat.le_div_iff_mul_le (by decide)).2 (by omega)
    generalize k % 4503599627370496 = r at hd hm
    generalize k / 4503599627370496 = q at hd hq
    have hl : (4503599627370496 * (4503599627370496 + r)).log2 = 104 := by
      apply log2_of
      · have : 2 ^ 104 = 4503599627370496 * 4503599627370496 := by decide
        omega
      · have : 2 ^ (104 + 1) = 4503599627370496 * 9007199254740992 := by decide
        omega
    unfold rungF
    rw [if_neg (by omega), hl]
    have e1 : max ((-1074 : Int) + ((q - 1 : Nat) : Int) + -52 + ((104 : Nat) : Int) - 52) (-1074) = -1074 + ((q - 1 : Nat) : Int) := by omega
    simp only [e1]
    have e2 : ((-1074 : Int) + ((q - 1 : Nat) : Int) + -52 - (-1074 + ((q - 1 : Nat) : Int))).toNat = 0 := by omega
    have e3 : ((-1074 : Int) + ((q - 1 : Nat) : Int) - (-1074 + ((q - 1 : Nat) : Int) + -52)).toNat = 52 := by omega
    have e4 : ((-1074 : Int) + ((q - 1 : Nat) : Int) - -1074).toNat = q - 1 := by omega
    rw [e2, e3, e4, cut_exact (by omega)]
    have : (q - 1) * 4503599627370496 + (4503599627370496 + r) = k := by omega
    rw [this]; omega
end Go.Sx

set_option linter.unusedVariables false
set_option linter.unusedSimpArgs false
namespace Go.Sx
theorem hs_set2 {H N : List (List AV)} {b : Nat} {X Y : List AV} (h : b < H.length) : (H.set b X ++ N).set b Y = H.set b Y ++ N := by
  rw [hs_old (by simpa using h), List.set_set]
theorem OldOk.set2 {H N N' : List (List AV)} {n b : Nat} {X Y : List AV} (hb : b < H.length) (h : n ≤ H.length) (hm : mxL Y ≤ n) : OldOk n (H.set b X ++ N) (H.set b Y ++ N') := by
  have := OldOk.set (A := H.set b X) (N := N) (N' := N') (n := n) (i := b) (cs := Y) (by simpa using h) hm
  rwa [List.set_set] at this
theorem hg_set {H N : List (List AV)} {b : Nat} {X : List AV} (h : b < H.length) : (H.set b X ++ N)[b]? = some X := hg_old (hb_set h)
/-! ### the factors, step by step -/
end Go.Sx

set_option linter.unusedVariables false
set_option linter.unusedSimpArgs false
namespace Go.Sx
theorem sc_all {cs xs : List AV} (h : xs.length = cs.length) : sc cs 0 xs = xs := by
  apply List.ext_getElem?
  intro i
  rw [sc_get _ _ _ _ (by omega)]
  by_cases hi : i < xs.length
  · rw [if_pos (by omega)]; simp
  · rw [if_neg (by omega), List.getElem?_eq_none (by omega), List.getElem?_eq_none (by omega)]
section
variable {P : Program} {cfg : Cfg} {e : List (Nat × EV)} {L : List (Nat × List AV)} {H N : List (List AV)} {K : St → Prop}
variable {ty : TypeId} {pos : String} {aft : Array Edge} {gd : Option (Nat × Bool)} {dd : Nat}
end
theorem v_to {e : List (Nat × EV)} {L : List (Nat × List AV)} {H : List (List AV)} {K : St → Prop} {dd : Nat} (n' : Int) {n : Int} (hw : -9223372036854775808 ≤ n ∧ n ≤ 9223372036854775807) (hn : n = n') (h : K ⟨(dd, .val (.int .i64 n')) :: e, L, H⟩) : valK dd K ⟨e, L, H⟩ (some (True, .int .i64 (IntKind.i64.wrap n))) := by
  subst hn; exact v_w hw h
/-! ### a list that grows while others, too, have become -/
theorem gN_ne {l : List AV} (h : l ≠ []) : gN l = [l] := if_neg h
end Go.Sx

set_option linter.unusedVariables false
set_option linter.unusedSimpArgs false
namespace Go.Sx
/-! ### a square in a list of its own, column by column -/
/-! ### what the loop leaves behind -/
theorem b_growG {P : Program} {cfg : Cfg} {e : List (Nat × EV)} {L : List (Nat × List AV)} {K : St → Prop} {ty : TypeId} {pos : String} {aft : Array Edge} {gd : Option (Nat × Bool)} {dd : Nat}
    {t tx : TypeId} {s x : Operand} {n i k by_ el' z' : Nat} {z v : AV} {l l' : List AV} {A N₀ G : List (List AV)} [ei : EI P t 1 by_ [z]] [si : SlI P tx el' z'] (hs : St.ev ⟨e, L, A ++ (N₀ ++ (gN l ++ G))⟩ s = .val (gV n i k)) (hx : St.ev ⟨e, L, A ++ (N₀ ++ (gN l ++ G))⟩ x = .val (.sl none 1 [v]))
    (hA : A.length = n) (hi : N₀.length = i) (hk : l.length = k) (hG : k = 0 → G = []) (hm : k + 1 ≤ 2 ^ 32) (hn : cfg.n0 = n) (hz : (decide (by_ ≤ 2 ^ 10) && decide (0 < by_)) = true) (hl : l ++ [v] = l')
    (h : K ⟨(dd, .val (gV n i (k + 1))) :: e, L, A ++ (N₀ ++ (gN l' ++ G))⟩) :
    opX P cfg ⟨some dd, .call { callee := .builtin .append, args := #[s, x], argTypes := #[t, tx] }, ty, pos, aft, gd⟩ K ⟨e, L, A ++ (N₀ ++ (gN l ++ G))⟩ := by
  cases l with
  | nil =>
    simp only [List.length_nil] at hk; subst hk
    have hG' := hG rfl
    subst hG'
    simp only [List.append_nil] at hs hx h ⊢
    exact b_grow hs hx hA hi rfl hm hn hz hl h
  | cons a l =>
    subst hl
    have e1 : gV n i (k + 1) = .slm (n + i) (k + 1) 0 (k + 1) 1 := by simp [gV]
    have e2 : gN (a :: l ++ [v]) = [a :: l ++ [v]] := by simp [gN]
    rw [e1, e2] at h
    have hk0 : k ≠ 0 := by simp at hk; omega
    have e3 : gV n i k = .slm (n + i) k 0 k 1 := by simp [gV, hk0]
    have e4 : gN (a :: l) = [a :: l] := by simp [gN]
    rw [e3] at hs
    rw [e4] at hs hx ⊢
    subst hi
    exact b_appN (cs := a :: l) (xs := [v]) (m := 1) hs hx hA (by simp) (src_fz rfl) hk rfl hm (.inl (by omega)) hz rfl (by simp) (by simp at hk ⊢; omega) rfl h
theorem gV_frG {n i k : Nat} {l : List AV} {A N₀ G : List (List AV)} (hA : A.length = n) (hi : N₀.length = i) (hk : l.length = k) (hm : mxL l ≤ n) : Fr n [] (A ++ (N₀ ++ (gN l ++ G))) (gV n i k) (.sl none k l) := by
  cases l with
  | nil =>
    simp only [List.length_nil] at hk; subst hk
    simp only [gV, if_true]; exact Fr.nil
  | cons a l =>
    have hk0 : k ≠ 0 := by simp at hk; omega
    simp only [gV, if_neg hk0]
    have : (A ++ (N₀ ++ (gN (a :: l) ++ G)))[n + i]? = some (a :: l) := by
      refine hg_new hA ?_
      subst hi; simp [gN]
    exact Fr.fz (by omega) (by simp) this hk (gc_all _ (by rw [hk]; omega)) (Frs.old hm)
end Go.Sx

set_option linter.unusedVariables false
set_option linter.unusedSimpArgs false
namespace Go.Sx
/-! ### pivots -/
def pivP (p : List Int) : Prop := ∀ k, k < p.length → ((k : Int) ≤ p.getD k 0 ∧ p.getD k 0 < p.length)
instance (p : List Int) : Decidable (pivP p) := by unfold pivP; infer_instance
theorem first_bad (q : Nat → Prop) [DecidablePred q] : ∀ n, ∃ N, N ≤ n ∧ (∀ k, k < N → q k) ∧ (N < n → ¬ q N)
  | 0 => ⟨0, Nat.le_refl _, fun k hk => by omega, fun h => by omega⟩
  | n + 1 => by
    obtain ⟨N, h1, h2, h3⟩ := first_bad q n
    by_cases h : N < n
    · exact ⟨N, by omega, h2, fun _ => h3 h⟩
    · have : N = n := by omega
      subst this
      by_cases hq : q N
      · exact ⟨N + 1, Nat.le_refl _, fun k hk => by rcases Nat.lt_succ_iff_lt_or_eq.1 hk with h | h; exact h2 k h; exact h ▸ hq, fun h => by omega⟩
      · exact ⟨N, by omega, h2, fun _ => hq⟩
end Go.Sx

set_option linter.unusedVariables false
set_option linter.unusedSimpArgs false
namespace Go.Sx
/-! ### triangular systems, number by number -/
def updV (f : Nat → Nat) (i x : Nat) : Nat → Nat := fun k => if k = i then x else f k
/-- lower, column by column -/
def lo1 (a : Nat → Nat → Nat) (f : Nat → Nat) : Nat → Nat → Nat
  | 0 => f
  | j + 1 => fun i => if j < i then fsub (lo1 a f j i) (fmul (a i j) (lo1 a f j j)) else lo1 a f j i
def lo1P (a : Nat → Nat → Nat) (f : Nat → Nat) (j i : Nat) : Nat → Nat := fun i' => if i' < i then lo1 a f (j + 1) i' else lo1 a f j i'
def lo1R (a : Nat → Nat → Nat) (f : Nat → Nat) (i j : Nat) : Nat → Nat := fun i' => if i' < i then lo1 a f i' i' else if i' = i then lo1 a f j i' else f i'
theorem lo1_ge {a : Nat → Nat → Nat} {f : Nat → Nat} {j i : Nat} (h : i ≤ j) : lo1 a f (j + 1) i = lo1 a f j i := by
  show (if j < i then _ else _) = _
  rw [if_neg (by omega)]
theorem lo1_gt {a : Nat → Nat → Nat} {f : Nat → Nat} {j i : Nat} (h : j < i) : lo1 a f (j + 1) i = fsub (lo1 a f j i) (fmul (a i j) (lo1 a f j j)) := by
  show (if j < i then _ else _) = _
  rw [if_pos h]
theorem lo1_stop {a : Nat → Nat → Nat} {f : Nat → Nat} {j i : Nat} (h : i ≤ j) : lo1 a f j i = lo1 a f i i := by
  induction j with
  | zero => have : i = 0 := by omega
            subst this; rfl
  | succ j ih =>
    by_cases e : i = j + 1
    · subst e; rfl
    · rw [lo1_ge (by omega), ih (by omega)]
theorem lo1P_first {a : Nat → Nat → Nat} {f : Nat → Nat} {j : Nat} (i' : Nat) : lo1P a f j (j + 1) i' = lo1 a f j i' := by
  unfold lo1P
  split
  · rw [lo1_ge (by omega)]
  · rfl
theorem lo1P_step {a : Nat → Nat → Nat} {f : Nat → Nat} {j i : Nat} (h : j < i) (i' : Nat) :
    updV (lo1P a f j i) i (fsub (lo1P a f j i i) (fmul (a i j) (lo1P a f j i j))) i' = lo1P a f j (i + 1) i' := by
  unfold updV
  split
  · rename_i e; subst e
    have e1 : lo1P a f j i' i' = lo1 a f j i' := by unfold lo1P; rw [if_neg (by omega)]
    have e2 : lo1P a f j i' j = lo1 a f j j := by unfold lo1P; rw [if_pos (by omega), lo1_ge (by omega)]
    have e3 : lo1P a f j (i' + 1) i' = lo1 a f (j + 1) i' := by unfold lo1P; rw [if_pos (by omega)]
    rw [e1, e2, e3, lo1_gt h]
  · rename_i e
    unfold lo1P
    by_cases h1 : i' < i
    · rw [if_pos h1, if_pos (by omega)]
    · rw [if_neg h1, if_neg (by omega)]
theorem lo1P_last {a : Nat → Nat → Nat} {f : Nat → Nat} {j n : Nat} (i' : Nat) (h : i' < n) : lo1P a f j n i' = lo1 a f (j + 1) i' := by
  unfold lo1P; rw [if_pos h]
theorem lo1R_first {a : Nat → Nat → Nat} {f : Nat → Nat} (i' : Nat) : lo1R a f 0 0 i' = f i' := by
  unfold lo1R; rw [if_neg (by omega)]; split <;> rfl
theorem lo1R_step {a : Nat → Nat → Nat} {f : Nat → Nat} {i j : Nat} (h : j < i) (i' : Nat) :
    updV (lo1R a f i j) i (fsub (lo1R a f i j i) (fmul (a i j) (lo1R a f i j j))) i' = lo1R a f i (j + 1) i' := by
  unfold updV
  split
  · rename_i e; subst e
    have e1 : lo1R a f i' j i' = lo1 a f j i' := by unfold lo1R; rw [if_neg (by omega), if_pos rfl]
    have e2 : lo1R a f i' j j = lo1 a f j j := by unfold lo1R; rw [if_pos (by omega)]
    have e3 : lo1R a f i' (j + 1) i' = lo1 a f (j + 1) i' := by unfold lo1R; rw [if_neg (by omega), if_pos rfl]
    rw [e1, e2, e3, lo1_gt h]
  · rename_i e
    unfold lo1R
    by_cases h1 : i' < i
    · rw [if_pos h1, if_pos h1]
    · rw [if_neg h1, if_neg h1, if_neg e, if_neg e]
theorem lo1R_row {a : Nat → Nat → Nat} {f : Nat → Nat} {i : Nat} (i' : Nat) : lo1R a f i i i' = lo1R a f (i + 1) 0 i' := by
  unfold lo1R
  by_cases h1 : i' < i
  · rw [if_pos h1, if_pos (by omega)]
  · by_cases h2 : i' = i
    · subst h2; rw [if_neg h1, if_pos rfl, if_pos (by omega)]
    · rw [if_neg h1, if_neg h2, if_neg (by omega)]; split <;> rfl
theorem lo1R_last {a : Nat → Nat → Nat} {f : Nat → Nat} {n : Nat} (i' : Nat) (h : i' < n) : lo1R a f n 0 i' = lo1 a f n i' := by
  unfold lo1R; rw [if_pos h, lo1_stop (j := n) (by omega)]
/-- upper, column by column, from the last one -/
def up2 (a : Nat → Nat → Nat) (f : Nat → Nat) (n : Nat) : Nat → Nat → Nat
  | 0 => f
  | t + 1 => fun i => if i < n - 1 - t then fsub (up2 a f n t i) (fmul (a i (n - 1 - t)) (fdiv (up2 a f n t (n - 1 - t)) (a (n - 1 - t) (n - 1 - t)))) else if i = n - 1 - t then fdiv (up2 a f n t i) (a i i) else up2 a f n t i
theorem up2_lt {a : Nat → Nat → Nat} {f : Nat → Nat} {n t i : Nat} (h : i < n - 1 - t) : up2 a f n (t + 1) i = fsub (up2 a f n t i) (fmul (a i (n - 1 - t)) (fdiv (up2 a f n t (n - 1 - t)) (a (n - 1 - t) (n - 1 - t)))) := by
  show (if i < n - 1 - t then _ else _) = _
  rw [if_pos h]
theorem up2_at {a : Nat → Nat → Nat} {f : Nat → Nat} {n t i : Nat} (h : i = n - 1 - t) : up2 a f n (t + 1) i = fdiv (up2 a f n t i) (a i i) := by
  show (if i < n - 1 - t then _ else _) = _
  rw [if_neg (by omega), if_pos h]
theorem up2_gt {a : Nat → Nat → Nat} {f : Nat → Nat} {n t i : Nat} (h : n - 1 - t < i) : up2 a f n (t + 1) i = up2 a f n t i := by
  show (if i < n - 1 - t then _ else _) = _
  rw [if_neg (by omega), if_neg (by omega)]
theorem up2_stop {a : Nat → Nat → Nat} {f : Nat → Nat} {n t s i : Nat} (hs : n ≤ s + i) (h : s ≤ t) (htn : t ≤ n) : up2 a f n t i = up2 a f n s i := by
  induction t with
  | zero => have : s = 0 := by omega
            subst this; rfl
  | succ t ih =>
    by_cases e : s = t + 1
    · subst e; rfl
    · rw [up2_gt (by omega), ih (by omega) (by omega)]
def up2P (a : Nat → Nat → Nat) (f : Nat → Nat) (n t i : Nat) : Nat → Nat := fun i' => if i' < i ∨ i' = n - 1 - t then up2 a f n (t + 1) i' else up2 a f n t i'
theorem up2P_first {a : Nat → Nat → Nat} {f : Nat → Nat} {n t : Nat} (i' : Nat) : updV (up2 a f n t) (n - 1 - t) (fdiv (up2 a f n t (n - 1 - t)) (a (n - 1 - t) (n - 1 - t))) i' = up2P a f n t 0 i' := by
  unfold updV up2P
  split
  · rename_i e; subst e; rw [if_pos (by omega), up2_at rfl]
  · rename_i e; rw [if_neg (by omega)]
theorem up2P_step {a : Nat → Nat → Nat} {f : Nat → Nat} {n t i : Nat} (h : i < n - 1 - t) (i' : Nat) :
    updV (up2P a f n t i) i (fsub (up2P a f n t i i) (fmul (a i (n - 1 - t)) (up2P a f n t i (n - 1 - t)))) i' = up2P a f n t (i + 1) i' := by
  unfold updV
  split
  · rename_i e; subst e
    have e1 : up2P a f n t i' i' = up2 a f n t i' := by unfold up2P; rw [if_neg (by omega)]
    have e2 : up2P a f n t i' (n - 1 - t) = fdiv (up2 a f n t (n - 1 - t)) (a (n - 1 - t) (n - 1 - t)) := by unfold up2P; rw [if_pos (by omega), up2_at rfl]
    have e3 : up2P a f n t (i' + 1) i' = up2 a f n (t + 1) i' := by unfold up2P; rw [if_pos (by omega)]
    rw [e1, e2, e3, up2_lt h]
  · rename_i e
    unfold up2P
    by_cases h1 : i' < i ∨ i' = n - 1 - t
    · rw [if_pos h1, if_pos (by omega)]
    · rw [if_neg h1, if_neg (by omega)]
theorem up2P_last {a : Nat → Nat → Nat} {f : Nat → Nat} {n t : Nat} (i' : Nat) : up2P a f n t (n - 1 - t) i' = up2 a f n (t + 1) i' := by
  unfold up2P
  split
  · rfl
  · rw [up2_gt (by omega)]
def up2R (a : Nat → Nat → Nat) (f : Nat → Nat) (n t m : Nat) : Nat → Nat := fun i' => if n ≤ i' + t then up2 a f n (n - i') i' else if i' + t + 1 = n then up2 a f n m i' else f i'
theorem up2R_first {a : Nat → Nat → Nat} {f : Nat → Nat} {n : Nat} (i' : Nat) (h : i' < n) : up2R a f n 0 0 i' = f i' := by
  unfold up2R; rw [if_neg (by omega)]; split <;> rfl
theorem up2R_step {a : Nat → Nat → Nat} {f : Nat → Nat} {n t m : Nat} (ht : t < n) (h : m < t) (i' : Nat) :
    updV (up2R a f n t m) (n - 1 - t) (fsub (up2R a f n t m (n - 1 - t)) (fmul (a (n - 1 - t) (n - 1 - m)) (up2R a f n t m (n - 1 - m)))) i' = up2R a f n t (m + 1) i' := by
  unfold updV
  split
  · rename_i e; subst e
    have e1 : up2R a f n t m (n - 1 - t) = up2 a f n m (n - 1 - t) := by unfold up2R; rw [if_neg (by omega), if_pos (by omega)]
    have e2 : up2R a f n t m (n - 1 - m) = fdiv (up2 a f n m (n - 1 - m)) (a (n - 1 - m) (n - 1 - m)) := by
      unfold up2R; rw [if_pos (by omega), show n - (n - 1 - m) = m + 1 by omega, up2_at rfl]
    have e3 : up2R a f n t (m + 1) (n - 1 - t) = up2 a f n (m + 1) (n - 1 - t) := by unfold up2R; rw [if_neg (by omega), if_pos (by omega)]
    rw [e1, e2, e3, up2_lt (by omega)]
  · rename_i e
    unfold up2R
    by_cases h1 : n ≤ i' + t
    · rw [if_pos h1, if_pos h1]
    · rw [if_neg h1, if_neg h1, if_neg (by omega), if_neg (by omega)]
theorem up2R_row {a : Nat → Nat → Nat} {f : Nat → Nat} {n t : Nat} (ht : t < n) (i' : Nat) :
    updV (up2R a f n t t) (n - 1 - t) (fdiv (up2R a f n t t (n - 1 - t)) (a (n - 1 - t) (n - 1 - t))) i' = up2R a f n (t + 1) 0 i' := by
  unfold updV
  split
  · rename_i e; subst e
    have e1 : up2R a f n t t (n - 1 - t) = up2 a f n t (n - 1 - t) := by unfold up2R; rw [if_neg (by omega), if_pos (by omega)]
    rw [e1]
    unfold up2R
    rw [if_pos (by omega), show n - (n - 1 - t) = t + 1 by omega, up2_at rfl]
  · rename_i e
    unfold up2R
    by_cases h1 : n ≤ i' + t
    · rw [if_pos h1, if_pos (by omega)]
    · rw [if_neg h1, if_neg (by omega), if_neg (by omega)]; split <;> rfl
theorem up2R_last {a : Nat → Nat → Nat} {f : Nat → Nat} {n : Nat} (i' : Nat) (h : i' < n) : up2R a f n n 0 i' = up2 a f n n i' := by
  unfold up2R
  rw [if_pos (by omega), up2_stop (t := n) (s := n - i') (by omega) (by omega) (Nat.le_refl n)]
/-- swaps by pivots -/
def swV (f : Nat → Nat) (i k : Nat) : Nat → Nat := fun t => if t = i then f k else if t = k then f i else f t
theorem swV_eq {f : Nat → Nat} {i k : Nat} (t : Nat) : updV (updV f i (f k)) k (f i) t = swV f i k t := by
  unfold updV swV
  by_cases h1 : t = k
  · subst h1
    by_cases h2 : t = i
    · subst h2; simp
    · simp [h2]
  · by_cases h2 : t = i
    · subst h2; simp [h1]
    · simp [h1, h2]
def tkF (p : List Int) (f : Nat → Nat) : Nat → Nat → Nat
  | 0 => f
  | k + 1 => swV (tkF p f k) k (p.getD k 0).toNat
/-! ### a vector within a list -/
def setV (l : List Nat) (off inc : Int) (n : Nat) (f : Nat → Nat) : List Nat := setM l off inc 1 n (fun _ j => f j)
def vf (l : List Nat) (off inc : Int) : Nat → Nat := fun j => mel l off inc 0 j
@[simp] theorem setV_len (l : List Nat) (off inc : Int) (n : Nat) (f : Nat → Nat) : (setV l off inc n f).length = l.length := by simp [setV]
theorem RightP.good {m : Nat} {off n inc : Int} (h : RightP m off n inc) : GoodP m off 1 n inc := by
  obtain ⟨h1, h2, h3, h4⟩ := h
  refine ⟨by omega, h1, h3, h2, h2, ?_⟩
  rcases h4 with h4 | ⟨h4, h5⟩
  · exact .inr (.inl h4)
  · exact .inr (.inr ⟨h4, by omega, by omega⟩)
theorem RightP.goodN {m n : Nat} {off inc : Int} (h : RightP m off n inc) : GoodP m off ((1 : Nat) : Int) (n : Int) inc := h.good
theorem VI.mat {m : Nat} {off n inc : Int} (h : VI m off n inc) : MI m off 1 n inc := by
  obtain ⟨a, b, c, d, e, f, g⟩ := h
  exact ⟨a, b, c, by omega, by omega, d, e, f, g⟩
section
variable {l : List Nat} {off inc : Int} {n : Nat} (hR : RightP l.length off n inc)
theorem setV_self (h3 : 0 ≤ off) (h4 : 1 ≤ inc) : setV l off inc n (vf l off inc) = l := by
  have h := setM_mel (L := l) (off := off) (ld := inc) (r := 1) (c := n) h4 h3
  rw [← h]
  unfold setV
  rw [h]
  refine (setM_congr h4 h3 fun i j hi hj => ?_).trans h
  have : i = 0 := by omega
  subst this; rfl
theorem setV_congr (h3 : 0 ≤ off) (h4 : 1 ≤ inc) {f g : Nat → Nat} (h : ∀ i, i < n → f i = g i) : setV l off inc n f = setV l off inc n g :=
  setM_congr h4 h3 fun i j hi hj => h j hj
include hR in
theorem set_setV {f : Nat → Nat} {i x : Nat} (hi : i < n) : (setV l off inc n f).set (pos off inc 0 i) x = setV l off inc n (updV f i x) := by
  have h := set_setM (L := l) (g := fun _ j => f j) (r := 1) (c := n) hR.goodN (i := 0) (j := i) (x := x) (by omega) hi
  unfold setV
  rw [h]
  refine setM_congr hR.2.1 hR.2.2.1 fun i' j' hi' hj' => ?_
  have : i' = 0 := by omega
  subst this
  simp [updG, updV]
include hR in
theorem setV_get {f : Nat → Nat} {k : Nat} (hk : k < n) : (setV l off inc n f).getD (pos off inc 0 k) 0 = f k := by
  have h := mel_setM (L := l) (g := fun _ j => f j) (r := 1) (c := n) hR.goodN (i := 0) (j := k) (by omega) hk
  exact h
include hR in
theorem vpos_lt {k : Nat} (hk : k < n) : pos off inc 0 k < l.length := pos_lt (r := 1) (c := n) hR.goodN (by omega) hk
include hR in
theorem vpos_eq {k : Nat} (hk : k < n) : off + (k : Int) * inc = ((pos off inc 0 k : Nat) : Int) := by
  have h := right_at hR (i := (k : Int)) (by omega) (by omega)
  unfold pos
  omega
end
end Go.Sx

set_option linter.unusedVariables false
set_option linter.unusedSimpArgs false
namespace Go.Sx
/-- have two stretches a place in common? -/
def SpansP (a b c d : Int) : Prop := a ≤ b ∧ c ≤ d ∧ a ≤ d ∧ c ≤ b
instance (a b c d : Int) : Decidable (SpansP a b c d) := by unfold SpansP; infer_instance
theorem rml_set {f : Nat → Nat} {n i x : Nat} (hi : i < n) : (rml f n).set i x = rml (updV f i x) n := by
  apply List.ext_getElem (by simp)
  intro j h1 h2
  simp only [List.getElem_set, rml, List.getElem_map, List.getElem_range, updV]
  by_cases h : i = j
  · subst h; simp
  · simp [h, show ¬ j = i from fun e => h e.symm]
theorem rml_set' {f g : Nat → Nat} {n i x : Nat} (hi : i < n) (h : ∀ t, t < n → updV f i x t = g t) : (rml f n).set i x = rml g n := by
  rw [rml_set hi]; exact rml_congr h
end Go.Sx

set_option linter.unusedVariables false
set_option linter.unusedSimpArgs false
namespace Go.Sx
theorem curG_of {H : List (List AV)} {b g : Nat} {l : List Nat} (h : H[b]? = some (fl l)) (hg : l.length = g) : curG H b g = true := by
  simp [curG, h, hg]
theorem first_zero (a : Nat → Nat → Nat) (n : Nat) : (∀ k, k < n → feq (a k k) 0 = false) ∨ ∃ z, z < n ∧ (∀ k, k < z → feq (a k k) 0 = false) ∧ feq (a z z) 0 = true := by
  obtain ⟨N, h1, h2, h3⟩ := first_bad (fun k => feq (a k k) 0 = false) n
  by_cases h : N < n
  · exact .inr ⟨N, h, h2, by simpa using h3 h⟩
  · exact .inl fun k hk => h2 k (by omega)
end Go.Sx

set_option linter.unusedVariables false
set_option linter.unusedSimpArgs false
namespace Go.Sx
/-! ### L and U, filled number by number; the rows' order -/
def befo (i0 j0 i j : Nat) : Prop := i < i0 ∨ (i = i0 ∧ j < j0)
instance (i0 j0 i j : Nat) : Decidable (befo i0 j0 i j) := by unfold befo; infer_instance
end Go.Sx

set_option linter.unusedVariables false
set_option linter.unusedSimpArgs false
/-! ### contracts turned -/
namespace Go.Sx
theorem CSpec.spec {P : Program} {f : Nat} {a : List AV} {H H' : List (List AV)} {r : AV} (he : Enters P f) (h : CSpec P f a H r H') : Spec P f a H r H' := by
  rcases h with ⟨_, h⟩ | ⟨_, h⟩
  · exact h
  · intro w g c hw hl
    obtain ⟨v, h1, _⟩ := h w g c hl
    rw [he] at h1; cases h1
theorem Spec.weak {P : Program} {f : Nat} {a : List AV} {H H' : List (List AV)} {r r' : AV} (h : Spec P f a H r H') (hr : ∀ w g v, VRep w g r v → VRep w g r' v) : Spec P f a H r' H' := by
  intro w g c hw hl
  refine (h w g c hw hl).mono fun e w' ⟨v, g', h1, h2, h3, h4⟩ => ⟨v, g', h1, h2, h3, hr _ _ _ h4⟩
theorem CSpec.args {P : Program} {f : Nat} {a a' : List AV} {H H' : List (List AV)} {r : AV} (h : CSpec P f a H r H') (ha : ∀ w g vs, LRep w g a' vs → LRep w g a vs) : CSpec P f a' H r H' := by
  rcases h with ⟨he, h⟩ | ⟨he, h⟩
  · exact .inl ⟨he, fun w g c hw hl => h w g c hw (ha _ _ _ hl)⟩
  · exact .inr ⟨he, fun w g c hl => h w g c (ha _ _ _ hl)⟩
theorem cn_can (b : Nat) : cn (cn b) = cn b := by
  rcases cn_cases b with ⟨h1, h2⟩ | ⟨h1, h2⟩
  · rw [h2]; decide
  · rw [h2, h2]
theorem cn_lt {b : Nat} (h : b < 2 ^ 64) : cn b < 2 ^ 64 := by
  unfold cn; split
  · decide
  · exact h
/-- a float's value is below 2^64, and the only one of its kind -/
theorem Spec.can {P : Program} {f : Nat} {x : Nat} {rest : List AV} {H H' : List (List AV)} {r : AV} (h : x < 2 ^ 64 → cn x = x → Spec P f (.flt x :: rest) H r H') : Spec P f (.flt x :: rest) H r H' := by
  intro w g c hw hl
  obtain ⟨b, h1, h2, h3⟩ := LRep_raw1 hl
  exact h (by rw [← h2]; exact cn_lt h1) (by rw [← h2]; exact cn_can b) w g c hw hl
end Go.Sx

set_option linter.unusedVariables false
set_option linter.unusedSimpArgs false
/-! ### the document's exact numbers: digits of 16 bits at their places -/
namespace Go.Sx
structure DV where
  neg : Bool
  l : List Int
  e : Int
def Digs (l : List Int) : Prop := ∀ d ∈ l, 0 ≤ d ∧ d < 65536
def cutL (l : List Int) (a b : Nat) : List Int := (l.drop a).take (l.length - a - b)
@[simp] theorem cutL_len (l : List Int) (a b : Nat) : (cutL l a b).length = l.length - a - b := by simp only [cutL, List.length_take, List.length_drop]; omega
end Go.Sx

set_option linter.unusedVariables false
set_option linter.unusedSimpArgs false
/-! ### what 'Made' hands back -/
namespace Go.Sx
def lead : List Int → Nat
  | [] => 0
  | d :: l => if d = 0 then lead l + 1 else 0
def mk (l : List Int) : List Int := cutL l (lead l) (lead l.reverse)
def mn (neg : Bool) (l : List Int) : Bool := if lead l = l.length then false else neg
end Go.Sx

set_option linter.unusedVariables false
set_option linter.unusedSimpArgs false
/-! ### what a number is worth -/
namespace Go.Sx
def p2 (k : Int) : Rat := (2 : Rat) ^ k
def sgn (b : Bool) (x : Rat) : Rat := if b then -x else x
structure In (d : DV) (B : Int) : Prop where
  dig : Digs d.l
  nil : d.l = [] → d.neg = false ∧ d.e = 0
  ne : d.l ≠ [] → d.l.getD 0 0 ≠ 0 ∧ d.l.getD (d.l.length - 1) 0 ≠ 0
  lo : d.l ≠ [] → -B ≤ d.e
  hi : d.l ≠ [] → d.e + d.l.length ≤ B
theorem In.mono {d : DV} {B C : Int} (h : In d B) (hBC : B ≤ C) : In d C :=
  ⟨h.dig, h.nil, h.ne, fun hl => by have := h.lo hl; omega, fun hl => by have := h.hi hl; omega⟩
theorem In.len {d : DV} {B : Int} (h : In d B) (h0 : 0 ≤ B) (hB : B ≤ 2 ^ 19) : d.l.length ≤ 2 ^ 20 := by
  by_cases hl : d.l = []
  · rw [hl]; simp
  · have := h.lo hl; have := h.hi hl; omega
theorem Digs.drop {l : List Int} (h : Digs l) (k : Nat) : Digs (l.drop k) := fun d hd => h d (List.mem_of_mem_drop hd)
theorem Digs.take {l : List Int} (h : Digs l) (k : Nat) : Digs (l.take k) := fun d hd => h d (List.mem_of_mem_take hd)
/-! 'Mul' -/
section
variable {a b : Nat → Int} (ha : ∀ j, 0 ≤ a j ∧ a j < 65536) (hb : ∀ j, 0 ≤ b j ∧ b j < 65536)
include ha hb in
end
section
variable {a b : Nat → Int} {lb k u : Nat} {f : Nat → Int}
end
end Go.Sx

set_option linter.unusedVariables false
set_option linter.unusedSimpArgs false
/-! ### what a float is worth -/
namespace Go.Sx
def pNeg (b : Nat) : Bool := decide ((b : Int) / 9223372036854775808 = 1)
def pE₀ (b : Nat) : Int := (b : Int) / 4503599627370496 % 2048
def pM₀ (b : Nat) : Int := (b : Int) % 4503599627370496
def pM (b : Nat) : Int := if pE₀ b = 2047 then 0 else if pE₀ b = 0 then pM₀ b else pM₀ b + 4503599627370496
def pE (b : Nat) : Int := if pE₀ b = 2047 then 0 else if pE₀ b = 0 then -1074 else pE₀ b - 1075
def pK (b : Nat) : Int := if pE₀ b = 2047 ∧ pM₀ b = 0 then 1 else if pE₀ b = 2047 then 2 else 0
def sNeg (b : Nat) : Bool := b / 9223372036854775808 % 2 == 1
theorem sNeg_p {b : Nat} (h : b < 2 ^ 64) : pNeg b = sNeg b := by
  unfold pNeg sNeg
  by_cases h1 : b / 9223372036854775808 = 1
  · rw [h1]; simp; omega
  · have : b / 9223372036854775808 = 0 := by omega
    rw [this]; simp; omega
/-- what a finite float is worth -/
def fv (x : Nat) : Rat := sgn (sNeg x) (((pM x : Int) : Rat) * p2 (pE x))
theorem cn_fin {x b : Nat} (hx : pK x = 0) (hb : cn b = x) : b = x := by
  unfold cn at hb
  split at hb
  · subst hb; exact absurd hx (by decide)
  · exact hb
theorem pM_rng {x : Nat} : 0 ≤ pM x ∧ pM x < 9007199254740992 := by
  unfold pM pM₀; repeat' split
  all_goals omega
theorem pE_rng {x : Nat} : -1074 ≤ pE x ∧ pE x ≤ 971 := by
  unfold pE pE₀; repeat' split
  all_goals omega
end Go.Sx

set_option linter.unusedVariables false
set_option linter.unusedSimpArgs false
/-! ### one rounding -/
namespace Go.Sx
open Ieee
theorem cut_zero (n : Nat) : Toward.even.cut false n 0 = n := by
  unfold Toward.cut
  have e1 : min 0 (n.log2 + 2) = 0 := by omega
  simp only [e1]
  have e2 : (1 : Nat) <<< 0 = 1 := rfl
  rw [e2, Nat.div_one, Nat.mod_one]
  simp
/-- cut to the nearest -/
theorem cut_mid {n d : Nat} (h : d ≤ n.log2 + 2) : 2 * (Toward.even.cut false n d * 2 ^ d) ≤ 2 * n + 2 ^ d ∧ 2 * n ≤ 2 * (Toward.even.cut false n d * 2 ^ d) + 2 ^ d := by
  unfold Toward.cut
  have e1 : min d (n.log2 + 2) = d := by omega
  simp only [e1, Nat.one_shiftLeft]
  have hd := Nat.div_add_mod n (2 ^ d)
  have hp := Nat.two_pow_pos d
  have hm := Nat.mod_lt n hp
  generalize n % 2 ^ d = r at *
  generalize n / 2 ^ d = q at *
  generalize 2 ^ d = g at *
  rw [Nat.mul_comm] at hd
  by_cases hc : g < 2 * r ∨ (g = 2 * r ∧ q % 2 = 1)
  · have : (decide (g < 2 * r) || g == 2 * r && q % 2 == 1) = true := by simp; exact hc
    rw [this, Bool.toNat_true, Nat.add_mul]
    omega
  · have : (decide (g < 2 * r) || g == 2 * r && q % 2 == 1) = false := by
      rw [Bool.eq_false_iff]; simpa using hc
    rw [this, Bool.toNat_false, Nat.add_zero]
    omega
/-- far below: nought -/
theorem cut_far {n d : Nat} (h : n.log2 + 2 ≤ d) : Toward.even.cut false n d = 0 := by
  unfold Toward.cut
  have e1 : min d (n.log2 + 2) = n.log2 + 2 := by omega
  simp only [e1, Nat.one_shiftLeft]
  have hn : n < 2 ^ (n.log2 + 1) := Nat.lt_log2_self
  have h2 : 2 ^ (n.log2 + 2) = 2 * 2 ^ (n.log2 + 1) := by rw [Nat.pow_succ']
  rw [Nat.div_eq_of_lt (by omega), Nat.mod_eq_of_lt (by omega), h2]
  have c1 : decide (2 * 2 ^ (n.log2 + 1) < 2 * n) = false := by simp; omega
  have c2 : (2 * 2 ^ (n.log2 + 1) == 2 * n) = false := by simp; omega
  rw [c1, c2]; rfl
/-- how a number is kept: at which place, and what -/
theorem rung_kept {m : Nat} {p : Int} (hm : m ≠ 0) (hf : rungF m p < 9218868437227405312) : ∃ q c : Nat, rungF m p = q * 4503599627370496 + c ∧ c ≤ 9007199254740992 ∧ (q ≠ 0 → 4503599627370496 ≤ c) ∧ (q : Int) - 1074 = max (p + m.log2 - 52) (-1074) ∧ c = Toward.even.cut false (m <<< (p - ((q : Int) - 1074)).toNat) (((q : Int) - 1074) - p).toNat := by
  unfold rungF at hf ⊢
  rw [if_neg hm] at hf ⊢
  simp only at hf ⊢
  obtain ⟨q, hq⟩ : ∃ q : Nat, (q : Int) - 1074 = max (p + m.log2 - 52) (-1074) := ⟨(max (p + m.log2 - 52) (-1074) + 1074).toNat, by omega⟩
  rw [← hq] at hf ⊢
  have e1 : ((q : Int) - 1074 - -1074).toNat = q := by omega
  rw [e1] at hf ⊢
  have h1 := Nat.log2_self_le hm
  have h2 : m < 2 ^ (m.log2 + 1) := Nat.lt_log2_self
  have key : Toward.even.cut false (m <<< (p - ((q : Int) - 1074)).toNat) (((q : Int) - 1074) - p).toNat ≤ 9007199254740992 ∧ (q ≠ 0 → 4503599627370496 ≤ Toward.even.cut false (m <<< (p - ((q : Int) - 1074)).toNat) (((q : Int) - 1074) - p).toNat) := by
    by_cases hd : p ≤ (q : Int) - 1074
    · have e2 : (p - ((q : Int) - 1074)).toNat = 0 := by omega
      rw [e2, Nat.shiftLeft_zero]
      obtain ⟨d, hd'⟩ : ∃ d : Nat, (q : Int) - 1074 = p + d := ⟨((q : Int) - 1074 - p).toNat, by omega⟩
      have e3 : ((q : Int) - 1074 - p).toNat = d := by omega
      rw [e3]
      by_cases hdl : d ≤ m.log2 + 2
      · obtain ⟨c1, c2⟩ := cut_mid hdl
        generalize Toward.even.cut false m d = c at *
        constructor
        · -- m < 2^(log2+1) ≤ 2^(53+d)
          have : 2 ^ (m.log2 + 1) ≤ 2 ^ (53 + d) := Nat.pow_le_pow_right (by omega) (by omega)
          rw [Nat.pow_add 2 53 d] at this
          have hp := Nat.two_pow_pos d
          generalize 2 ^ d = g at *
          have h53 : 2 ^ 53 = 9007199254740992 := by decide
          rw [h53] at this
          rcases Nat.lt_or_ge 9007199254740992 c with hc | hc
          · have := Nat.mul_le_mul_right g (show 9007199254740993 ≤ c by omega)
            omega
          · exact hc
        · intro hq0
          have hl : d + 52 = m.log2 := by omega
          have : 2 ^ (52 + d) ≤ m := by rw [show 52 + d = m.log2 by omega]; exact h1
          rw [Nat.pow_add 2 52 d] at this
          have hp := Nat.two_pow_pos d
          generalize 2 ^ d = g at *
          have h52 : 2 ^ 52 = 4503599627370496 := by decide
          rw [h52] at this
          rcases Nat.lt_or_ge c 4503599627370496 with hc | hc
          · have := Nat.mul_le_mul_right g (show c ≤ 4503599627370495 by omega)
            omega
          · exact hc
      · rw [cut_far (by omega)]
        exact ⟨by omega, fun hq0 => by omega⟩
    · have e3 : ((q : Int) - 1074 - p).toNat = 0 := by omega
      rw [e3, cut_zero, Nat.shiftLeft_eq]
      obtain ⟨d, hd'⟩ : ∃ d : Nat, p = (q : Int) - 1074 + d := ⟨(p - ((q : Int) - 1074)).toNat, by omega⟩
      have e4 : (p - ((q : Int) - 1074)).toNat = d := by omega
      rw [e4]
      constructor
      · have : 2 ^ (m.log2 + 1) * 2 ^ d ≤ 2 ^ 53 := by rw [← Nat.pow_add]; exact Nat.pow_le_pow_right (by omega) (by omega)
        have h53 : 2 ^ 53 = 9007199254740992 := by decide
        have := Nat.mul_le_mul_right (2 ^ d) (Nat.le_of_lt h2)
        omega
      · intro hq0
        have : 2 ^ m.log2 * 2 ^ d = 2 ^ 52 := by rw [← Nat.pow_add]; congr 1; omega
        have h52 : 2 ^ 52 = 4503599627370496 := by decide
        have := Nat.mul_le_mul_right (2 ^ d) h1
        omega
  refine ⟨q, _, Nat.min_eq_left ?_, key.1, key.2, rfl, rfl⟩
  omega
end Go.Sx

set_option linter.unusedVariables false
set_option linter.unusedSimpArgs false
set_option maxRecDepth 20000
/-! ### what sums, products and quotients of floats are worth -/
namespace Go.Sx
open Ieee
def dv : Datum → Rat
  | .number s m p => sgn s ((m : Rat) * p2 p)
  | _ => 0
theorem read_fin {x : Nat} (h : pK x = 0) : Ieee.double.read x = .number (sNeg x) (pM x).toNat (pE x) := by
  have hE : pE₀ x ≠ 2047 := by
    intro hE
    unfold pK at h
    rw [if_pos hE] at h
    split at h <;> cases h
  unfold Ieee.Format.read
  simp only [e_sw, e_bn, e_ir, e_lp]
  have hs : (x / 9223372036854775808 % 2 == 1) = sNeg x := rfl
  rw [hs]
  by_cases h0 : pE₀ x = 0
  · have e1 : pM x = pM₀ x := by unfold pM; rw [if_neg hE, if_pos h0]
    have e2 : pE x = -1074 := by unfold pE; rw [if_neg hE, if_pos h0]
    rw [e1, e2]
    unfold pE₀ at h0
    rw [if_pos (by omega)]
    congr 1
    unfold pM₀; omega
  · have e1 : pM x = pM₀ x + 4503599627370496 := by unfold pM; rw [if_neg hE, if_neg h0]
    have e2 : pE x = pE₀ x - 1075 := by unfold pE; rw [if_neg hE, if_neg h0]
    rw [e1, e2]
    unfold pE₀ at *
    unfold pM₀
    rw [if_neg (by omega), if_pos (by omega)]
    congr 1 <;> omega
theorem fv_read {x : Nat} (h : pK x = 0) : fv x = dv (Ieee.double.read x) := by
  rw [read_fin h]
  unfold fv dv
  have := (pM_rng (x := x)).1
  have e : ((pM x : Int) : Rat) = (((pM x).toNat : Nat) : Rat) := by
    conv => lhs; rw [show pM x = (((pM x).toNat : Nat) : Int) by omega]
    rfl
  rw [e]
theorem fin_of {x : Nat} {s : Bool} {m : Nat} {p : Int} (h : Ieee.double.read x = .number s m p) : pK x = 0 := by
  unfold Ieee.Format.read at h
  simp only [e_sw, e_bn, e_ir] at h
  unfold pK pE₀
  split at h
  · rw [if_neg (by omega), if_neg (by omega)]
  · split at h
    · rw [if_neg (by omega), if_neg (by omega)]
    · split at h <;> cases h
theorem fv_word {s : Bool} {k : Nat} (hk : k < 9218868437227405312) : pK (Ieee.double.word s k) = 0 ∧ fv (Ieee.double.word s k) = sgn s (fv k) := by
  obtain ⟨m, p, h1, _⟩ := rungF_read hk
  have hr := read_word s k (Nat.le_of_lt hk)
  rw [h1] at hr
  have hr' : Ieee.double.read (Ieee.double.word s k) = .number s m p := by rw [hr]; cases s <;> rfl
  have f1 := fin_of hr'
  have f2 := fin_of h1
  refine ⟨f1, ?_⟩
  rw [fv_read f1, fv_read f2, hr', h1]
  rfl
end Go.Sx

set_option linter.unusedVariables false
set_option linter.unusedSimpArgs false
set_option maxRecDepth 20000
/-! ### scaled by a power of 2 -/
namespace Go.Sx
open Ieee
theorem log2_shift {m : Nat} (hm : m ≠ 0) (a : Nat) : (m * 2 ^ a).log2 = m.log2 + a := by
  apply log2_of
  · rw [Nat.pow_add]; exact Nat.mul_le_mul_right _ (Nat.log2_self_le hm)
  · rw [show m.log2 + a + 1 = (m.log2 + 1) + a by omega, Nat.pow_add]
    exact Nat.mul_lt_mul_of_pos_right Nat.lt_log2_self (Nat.two_pow_pos _)
theorem cut_mulS {m a d : Nat} (hm : m ≠ 0) : Toward.even.cut false (m * 2 ^ a) (a + d) = Toward.even.cut false m d := by
  unfold Toward.cut
  rw [log2_shift hm]
  have e1 : min (a + d) (m.log2 + a + 2) = min d (m.log2 + 2) + a := by omega
  simp only [e1, Nat.one_shiftLeft]
  generalize min d (m.log2 + 2) = g
  rw [Nat.pow_add]
  have hp := Nat.two_pow_pos a
  rw [Nat.mul_div_mul_right _ _ hp, Nat.mul_mod_mul_right]
  generalize 2 ^ a = A at *
  have c1 : decide (2 ^ g * A < 2 * (m % 2 ^ g * A)) = decide (2 ^ g < 2 * (m % 2 ^ g)) := by
    rw [← Nat.mul_assoc]
    exact decide_eq_decide.2 ⟨fun h => Nat.lt_of_mul_lt_mul_right h, fun h => Nat.mul_lt_mul_of_pos_right h hp⟩
  have c2 : (2 ^ g * A == 2 * (m % 2 ^ g * A)) = (2 ^ g == 2 * (m % 2 ^ g)) := by
    rw [← Nat.mul_assoc, Bool.eq_iff_iff, beq_iff_eq, beq_iff_eq]
    exact ⟨fun h => Nat.eq_of_mul_eq_mul_right hp h, fun h => congrArg (· * A) h⟩
  simp only [c1, c2]
theorem rungF_shift (m a : Nat) (p : Int) : rungF (m * 2 ^ a) p = rungF m (p + a) := by
  by_cases hm : m = 0
  · subst hm; rw [Nat.zero_mul]; unfold rungF; rw [if_pos rfl, if_pos rfl]
  · have hp := Nat.two_pow_pos a
    have hma : m * 2 ^ a ≠ 0 := Nat.mul_ne_zero hm (by omega)
    unfold rungF
    rw [if_neg hm, if_neg hma, log2_shift hm]
    have e1 : max (p + ((m.log2 + a : Nat) : Int) - 52) (-1074) = max (p + a + m.log2 - 52) (-1074) := by omega
    simp only [e1]
    generalize max (p + (a : Int) + m.log2 - 52) (-1074) = last
    congr 2
    rcases Int.lt_or_le p last with h | h
    · rcases Int.lt_or_le (p + a) last with h2 | h2
      · have e2 : (p - last).toNat = 0 := by omega
        have e3 : (p + a - last).toNat = 0 := by omega
        have e4 : (last - p).toNat = a + (last - (p + a)).toNat := by omega
        rw [e2, e3, e4, Nat.shiftLeft_zero, Nat.shiftLeft_zero, cut_mulS hm]
      · obtain ⟨d, hd⟩ : ∃ d : Nat, p + a = last + d := ⟨(p + a - last).toNat, by omega⟩
        have e2 : (p - last).toNat = 0 := by omega
        have e3 : (p + a - last).toNat = d := by omega
        have e4 : (last - (p + a)).toNat = 0 := by omega
        have e5 : (last - p).toNat = a - d := by omega
        rw [e2, e3, e4, e5, Nat.shiftLeft_zero, cut_zero, Nat.shiftLeft_eq]
        have e6 : m * 2 ^ a = (m * 2 ^ d) * 2 ^ (a - d) := by rw [Nat.mul_assoc, ← Nat.pow_add]; congr 2; omega
        rw [e6]
        have := cut_mulS (m := m * 2 ^ d) (a := a - d) (d := 0) (Nat.mul_ne_zero hm (by have := Nat.two_pow_pos d; omega))
        rw [Nat.add_zero, cut_zero] at this
        exact this
    · have e2 : (last - p).toNat = 0 := by omega
      have e3 : (last - (p + a)).toNat = 0 := by omega
      have e4 : (p + a - last).toNat = a + (p - last).toNat := by omega
      rw [e2, e3, e4, cut_zero, cut_zero, Nat.shiftLeft_eq, Nat.shiftLeft_eq, Nat.mul_assoc, ← Nat.pow_add]
/-! the document's way: doubled, then halved, then rounded -/
/-- of a number that is halved so often: the last digit that went, and whether any went before -/
def hfB (m : Nat) : Nat → Bool
  | 0 => false
  | t + 1 => decide (m / 2 ^ t % 2 = 1)
def loB (m : Nat) : Nat → Bool
  | 0 => false
  | t + 1 => loB m t || hfB m t
theorem loB_iff (m : Nat) : ∀ t, loB m (t + 1) = decide (m % 2 ^ t ≠ 0)
  | 0 => by simp [loB, hfB, Nat.mod_one]
  | t + 1 => by
    show (loB m (t + 1) || hfB m (t + 1)) = _
    rw [loB_iff m t]
    simp only [hfB]
    have h1 : m % 2 ^ (t + 1) = m % 2 ^ t + 2 ^ t * (m / 2 ^ t % 2) := by rw [Nat.pow_succ, Nat.mod_mul]
    rw [h1]
    have hp := Nat.two_pow_pos t
    have h2 : m / 2 ^ t % 2 = 0 ∨ m / 2 ^ t % 2 = 1 := by omega
    rcases h2 with h2 | h2 <;> rw [h2]
    · simp
    · have : m % 2 ^ t + 2 ^ t * 1 ≠ 0 := by omega
      simp [this]
/-- rounded to the nearest, or the even one -/
theorem cut_half (m t : Nat) : Toward.even.cut false m t = m / 2 ^ t + (if hfB m t = true ∧ (loB m t = true ∨ m / 2 ^ t % 2 = 1) then 1 else 0) := by
  cases t with
  | zero => rw [cut_zero]; simp [hfB]
  | succ t =>
    have hp := Nat.two_pow_pos t
    have hb : m < 2 ^ (m.log2 + 1) := Nat.lt_log2_self
    by_cases hl : t + 1 ≤ m.log2 + 2
    · unfold Toward.cut
      have e1 : min (t + 1) (m.log2 + 2) = t + 1 := by omega
      simp only [e1, Nat.one_shiftLeft]
      congr 1
      have h1 : m % 2 ^ (t + 1) = m % 2 ^ t + 2 ^ t * (m / 2 ^ t % 2) := by rw [Nat.pow_succ, Nat.mod_mul]
      have hm := Nat.mod_lt m hp
      have hlo := loB_iff m t
      have hhf : hfB m (t + 1) = decide (m / 2 ^ t % 2 = 1) := rfl
      have h2 : m / 2 ^ t % 2 = 0 ∨ m / 2 ^ t % 2 = 1 := by omega
      rw [h1, show 2 ^ (t + 1) = 2 ^ t * 2 from Nat.pow_succ ..]
      generalize m % 2 ^ t = r at *
      generalize m / (2 ^ t * 2) % 2 = b at *
      generalize m / 2 ^ t % 2 = w at *
      rcases h2 with h2 | h2 <;> subst h2
      · have c1 : decide (2 ^ t * 2 < 2 * (r + 2 ^ t * 0)) = false := by simp; omega
        have c2 : (2 ^ t * 2 == 2 * (r + 2 ^ t * 0)) = false := by simp; omega
        rw [c1, c2, if_neg (by rw [hhf]; simp)]; rfl
      · by_cases hr : r = 0
        · subst hr
          have c1 : decide (2 ^ t * 2 < 2 * (0 + 2 ^ t * 1)) = false := by simp; omega
          have c2 : (2 ^ t * 2 == 2 * (0 + 2 ^ t * 1)) = true := by simp; omega
          rw [c1, c2]
          by_cases hb1 : b = 1
          · rw [if_pos ⟨by rw [hhf]; rfl, .inr hb1⟩, hb1]; rfl
          · rw [if_neg (fun h => by rcases h.2 with h | h; rw [hlo] at h; simp at h; exact hb1 h)]
            have : (b == 1) = false := by simpa using hb1
            rw [this]; rfl
        · have c1 : decide (2 ^ t * 2 < 2 * (r + 2 ^ t * 1)) = true := by simp; omega
          rw [c1, if_pos ⟨by rw [hhf]; rfl, .inl (by rw [hlo]; simpa using hr)⟩]; rfl
    · rw [cut_far (by omega)]
      have h3 : 2 ^ (m.log2 + 1) ≤ 2 ^ t := Nat.pow_le_pow_right (by omega) (by omega)
      have h4 : m / 2 ^ t = 0 := Nat.div_eq_of_lt (by omega)
      have h5 : m / 2 ^ (t + 1) = 0 := Nat.div_eq_of_lt (by rw [Nat.pow_succ]; omega)
      simp [hfB, h4, h5]
/-- how a number is kept that is not 0: doubled a times, halved b times -/
theorem rung_made {m a b : Nat} {e : Int} (hm : m ≠ 0) (ha : a = 0 ∨ m * 2 ^ a < 9007199254740992)
    (h1 : m * 2 ^ a / 2 ^ b < 9007199254740992) (h2 : -1074 ≤ e - a + b) (h3 : (4503599627370496 ≤ m * 2 ^ a / 2 ^ b) ∨ e - a + b = -1074) :
    rungF m e = min ((e - a + b + 1074).toNat * 4503599627370496 + Toward.even.cut false (m * 2 ^ a) b) 9218868437227405312 := by
  have hs := rungF_shift m a (e - a)
  rw [show e - (a : Int) + a = e by omega] at hs
  rw [← hs]
  have hma : m * 2 ^ a ≠ 0 := Nat.mul_ne_zero hm (by have := Nat.two_pow_pos a; omega)
  generalize m * 2 ^ a = M at *
  generalize e - (a : Int) = p at *
  have hl1 := Nat.log2_self_le hma
  have hl2 : M < 2 ^ (M.log2 + 1) := Nat.lt_log2_self
  have hb := Nat.two_pow_pos b
  -- the place that is kept
  have up : M.log2 ≤ 52 + b := by
    have h4 : M < 9007199254740992 * 2 ^ b := (Nat.div_lt_iff_lt_mul hb).1 h1
    have h5 : 9007199254740992 * 2 ^ b = 2 ^ (53 + b) := by rw [Nat.pow_add]
    rw [h5] at h4
    have := (Nat.log2_lt hma).2 h4
    omega
  have last : max (p + M.log2 - 52) (-1074) = p + b := by
    rcases h3 with h3 | h3
    · have h4 : 4503599627370496 * 2 ^ b ≤ M := (Nat.le_div_iff_mul_le hb).1 h3
      have h5 : 4503599627370496 * 2 ^ b = 2 ^ (52 + b) := by rw [Nat.pow_add]
      rw [h5] at h4
      have := (Nat.le_log2 hma).2 h4
      omega
    · omega
  unfold rungF
  rw [if_neg hma]
  simp only [last]
  have e1 : (p - (p + b)).toNat = 0 := by omega
  have e2 : (p + b - p).toNat = b := by omega
  rw [e1, e2, Nat.shiftLeft_zero, show p + (b : Int) - -1074 = p + b + 1074 by omega]
end Go.Sx

set_option linter.unusedVariables false
set_option linter.unusedSimpArgs false
/-! ### the growth is as near as one rounding -/
namespace Go.Sx
theorem abs_fin {x : Nat} (h : pK x = 0) : absF x = x % 9223372036854775808 ∧ absF x < 9218868437227405312 := by
  have hlt : x % 9223372036854775808 < 9218868437227405312 := by
    unfold pK at h
    split at h
    · cases h
    · split at h
      · cases h
      · rename_i h2
        unfold pE₀ at h2
        omega
  have e : absF x = x % 9223372036854775808 := by
    unfold absF
    rcases cn_cases (x % 9223372036854775808) with ⟨h1, h2⟩ | ⟨h1, h2⟩
    · exfalso
      obtain ⟨m, p, hr, _⟩ := rungF_read hlt
      unfold isNaN at h1
      rw [hr] at h1; cases h1
    · exact h2
  exact ⟨e, by rw [e]; exact hlt⟩
end Go.Sx

set_option linter.unusedVariables false
set_option linter.unusedSimpArgs false
set_option maxRecDepth 20000
/-! ### scaled by a power of 2, the program's way and the document's -/
namespace Go.Sx
open Ieee
theorem word_cn {s : Bool} {k : Nat} (hk : k ≤ 9218868437227405312) : cn (Ieee.double.word s k) = Ieee.double.word s k := by
  rcases cn_cases (Ieee.double.word s k) with ⟨h1, h2⟩ | ⟨h1, h2⟩
  · exfalso
    unfold isNaN at h1
    rw [read_word _ _ hk] at h1
    rcases Nat.lt_or_ge k 9218868437227405312 with h | h
    · obtain ⟨m, p, hr, _⟩ := rungF_read h
      rw [hr] at h1; cases s <;> cases h1
    · have : k = 9218868437227405312 := by omega
      subst this
      have hi : Ieee.double.read 9218868437227405312 = .infinity false := by decide
      rw [hi] at h1; cases s <;> cases h1
  · exact h2
theorem fmul_num {x y : Nat} {a b : Bool} {m n : Nat} {i j : Int} (hx : Ieee.double.read x = .number a m i) (hy : Ieee.double.read y = .number b n j) : fmul x y = Ieee.double.word (a ^^ b) (rungF (m * n) (i + j)) := by
  have ff : fmul x y = (match Ieee.double.mul x y with | some r => cn r | none => qn) := rfl
  rw [ff]
  unfold Ieee.Format.mul
  rw [hx, hy]
  simp only [Ieee.Datum.product, Option.map_some, Ieee.Format.write, nearest_eq]
  exact word_cn (rungF_le _ _)
/-- a number times 2^k -/
def scaleF (x : Nat) (k : Int) : Nat := if pK x = 0 then Ieee.double.word (sNeg x) (rungF (pM x).toNat (pE x + k)) else x
def clK (k : Int) : Int := max (min k 5000) (-5000)
theorem scaleF_inf {x : Nat} {k : Int} (h : pK x ≠ 0) : scaleF x k = x := if_neg h
/-! the document's: doubled so often -/
theorem mk1 {m : Nat} (hm : 1 ≤ m) (e : Int) : ∃ N : Nat, N ≤ 52 ∧ (∀ t : Nat, t < N → m * 2 ^ t < 4503599627370496 ∧ -1074 < e - t) ∧ ¬ (m * 2 ^ N < 4503599627370496 ∧ -1074 < e - N) := by
  obtain ⟨N, h1, h2, h3⟩ := first_bad (fun t => m * 2 ^ t < 4503599627370496 ∧ -1074 < e - (t : Int)) 52
  refine ⟨N, h1, h2, ?_⟩
  by_cases h : N < 52
  · exact h3 h
  · have : N = 52 := by omega
    subst this
    have : (2 : Nat) ^ 52 = 4503599627370496 := by decide
    rw [this]
    have := Nat.mul_le_mul_right 4503599627370496 hm
    omega
/-- .. halved so often -/
theorem mk2 {m : Nat} (hm : m < 2 ^ 62) {e : Int} (he : -1300 ≤ e) : ∃ N : Nat, N ≤ 400 ∧ (∀ t : Nat, t < N → 9007199254740992 ≤ m / 2 ^ t ∨ e + t < -1074) ∧ m / 2 ^ N < 9007199254740992 ∧ -1074 ≤ e + N := by
  obtain ⟨N, h1, h2, h3⟩ := first_bad (fun t => 9007199254740992 ≤ m / 2 ^ t ∨ e + (t : Int) < -1074) 240
  refine ⟨N, by omega, h2, ?_⟩
  by_cases h : N < 240
  · have := h3 h; omega
  · have : N = 240 := by omega
    subst this
    have hz : m / 2 ^ 240 = 0 := by
      apply Nat.div_eq_of_lt
      have : (2 : Nat) ^ 62 ≤ 2 ^ 240 := Nat.pow_le_pow_right (by omega) (by omega)
      omega
    rw [hz]; omega
theorem div_two (m t : Nat) : m / 2 ^ t / 2 = m / 2 ^ (t + 1) := by rw [Nat.div_div_eq_div_mul, ← Nat.pow_succ]
/-- what comes out of it -/
theorem mk_end {m N1 N2 : Nat} {e : Int} (hm : 1 ≤ m) (h1 : ∀ t : Nat, t < N1 → m * 2 ^ t < 4503599627370496 ∧ -1074 < e - t) (h1' : ¬ (m * 2 ^ N1 < 4503599627370496 ∧ -1074 < e - N1))
    (h2 : ∀ t : Nat, t < N2 → 9007199254740992 ≤ m * 2 ^ N1 / 2 ^ t ∨ e - N1 + t < -1074) (h3 : m * 2 ^ N1 / 2 ^ N2 < 9007199254740992) (h4 : -1074 ≤ e - N1 + N2) :
    rungF m e = min ((e - N1 + N2 + 1074).toNat * 4503599627370496 + (m * 2 ^ N1 / 2 ^ N2 + (if hfB (m * 2 ^ N1) N2 = true ∧ (loB (m * 2 ^ N1) N2 = true ∨ m * 2 ^ N1 / 2 ^ N2 % 2 = 1) then 1 else 0))) 9218868437227405312 ∧
      (m * 2 ^ N1 / 2 ^ N2 < 4503599627370496 → e - N1 + N2 = -1074) := by
  have key : 4503599627370496 ≤ m * 2 ^ N1 / 2 ^ N2 ∨ e - N1 + N2 = -1074 := by
    cases N2 with
    | zero =>
      rw [Nat.pow_zero, Nat.div_one]
      omega
    | succ n =>
      rcases h2 n (by omega) with h | h
      · left; rw [← div_two]; omega
      · right; omega
  rw [← cut_half]
  refine ⟨rung_made (by omega) ?_ h3 h4 key, fun h => by omega⟩
  cases N1 with
  | zero => exact .inl rfl
  | succ n =>
    right
    have := (h1 n (by omega)).1
    rw [Nat.pow_succ, ← Nat.mul_assoc]; omega
/-- far above: infinite; far below: nought -/
theorem rung_far {m : Nat} (hm : 1 ≤ m) {e : Int} (he : 1024 ≤ e) : rungF m e = 9218868437227405312 := by
  rcases Nat.lt_or_ge (rungF m e) 9218868437227405312 with h | h
  · exfalso
    obtain ⟨q, c, hr, hc, hq, hl, _⟩ := rung_kept (by omega : m ≠ 0) h
    have h0 : q ≠ 0 := by omega
    have := hq h0
    omega
  · have := rungF_le m e; omega
theorem rung_low {m : Nat} {e : Int} (he : e + m.log2 < -1075) : rungF m e = 0 := by
  by_cases hm : m = 0
  · subst hm; unfold rungF; rw [if_pos rfl]
  · unfold rungF
    rw [if_neg hm]
    have e1 : max (e + m.log2 - 52) (-1074) = -1074 := by omega
    simp only [e1]
    have e2 : (e - -1074).toNat = 0 := by omega
    rw [e2, Nat.shiftLeft_zero, cut_far (by omega)]
    rfl
theorem log2_62 {m : Nat} (h : m < 2 ^ 62) : m.log2 ≤ 61 := by
  by_cases hm : m = 0
  · subst hm; decide
  · have := (Nat.log2_lt hm).2 h; omega
end Go.Sx

set_option linter.unusedVariables false
set_option linter.unusedSimpArgs false
set_option maxRecDepth 20000
/-! ### bits of words -/
namespace Go.Sx
theorem and63 {x : Nat} (h : x < 2 ^ 64) : x &&& 9223372036854775808 = x / 9223372036854775808 * 9223372036854775808 := by
  have low : ∀ r, r < 2 ^ 63 → r &&& 9223372036854775808 = 0 := fun r hr => by
    have e : r = r &&& (2 ^ 63 - 1) := by rw [Nat.and_two_pow_sub_one_eq_mod, Nat.mod_eq_of_lt hr]
    rw [e, Nat.and_assoc]
    have : (2 ^ 63 - 1) &&& 9223372036854775808 = 0 := by decide
    rw [this, Nat.and_zero]
  rcases Nat.lt_or_ge x (2 ^ 63) with h1 | h1
  · rw [low x h1, Nat.div_eq_of_lt (by omega)]
  · obtain ⟨r, hr⟩ : ∃ r, x = 2 ^ 63 * 1 + r := ⟨x - 2 ^ 63, by omega⟩
    have hr2 : r < 2 ^ 63 := by omega
    rw [hr, Nat.two_pow_add_eq_or_of_lt hr2, Nat.and_comm, Nat.and_or_distrib_left, Nat.and_comm _ r, low r hr2]
    rw [← Nat.two_pow_add_eq_or_of_lt hr2]
    have : (2 ^ 63 * 1 + r) / 9223372036854775808 = 1 := by omega
    rw [this]; decide
theorem and11 (x : Nat) : x &&& 2047 = x % 2048 := Nat.and_two_pow_sub_one_eq_mod x 11
/-- without the exponent's bits -/
theorem andn_exp {x : Nat} (h : x < 2 ^ 64) : x &&& 9227875636482146303 = x / 9223372036854775808 * 9223372036854775808 + x % 4503599627370496 := by
  have e : (9227875636482146303 : Nat) = 9223372036854775808 ||| (2 ^ 52 - 1) := by decide
  rw [e, Nat.and_or_distrib_left, and63 h, Nat.and_two_pow_sub_one_eq_mod]
  have h2 : x % 2 ^ 52 < 2 ^ 63 := Nat.lt_of_lt_of_le (Nat.mod_lt _ (by decide)) (by decide)
  have := Nat.two_pow_add_eq_or_of_lt h2 (x / 9223372036854775808)
  rw [Nat.mul_comm (x / 9223372036854775808)]
  exact this.symm
theorem or_exp {s E F : Nat} (hF : F < 4503599627370496) (hE : E < 2048) : (s * 9223372036854775808 + F) ||| (E * 4503599627370496) = s * 9223372036854775808 + E * 4503599627370496 + F := by
  have h1 : F < 2 ^ 63 := by omega
  have h2 : E * 4503599627370496 + F < 2 ^ 63 := by omega
  have c1 : s * 9223372036854775808 + F = 2 ^ 63 * s + F := by rw [Nat.mul_comm s]
  have c2 : E * 4503599627370496 = 2 ^ 52 * E := Nat.mul_comm _ _
  have a1 := Nat.two_pow_add_eq_or_of_lt h1 s
  have a2 := Nat.two_pow_add_eq_or_of_lt (show F < 2 ^ 52 from hF) E
  have a3 := Nat.two_pow_add_eq_or_of_lt h2 s
  have e1 : s * 9223372036854775808 + E * 4503599627370496 + F = 2 ^ 63 * s + (E * 4503599627370496 + F) := by rw [Nat.mul_comm s, Nat.add_assoc]
  rw [e1, a3, c1, a1, Nat.or_assoc, Nat.or_comm F]
  congr 1
  rw [c2]; exact a2.symm
theorem ofU {x : Nat} (h : x < 2 ^ 64) : (BitVec.ofInt 64 (x : Int)).toNat = x := by
  rw [BitVec.toNat_ofInt]; omega
theorem bits_andU {x y : Nat} (hx : x < 2 ^ 64) (hy : y < 2 ^ 64) : bitsI .and .u64 (x : Int) (y : Int) = ((x &&& y : Nat) : Int) := by
  show IntKind.u64.wrap ((BitVec.ofInt 64 (x : Int) &&& BitVec.ofInt 64 (y : Int)).toNat : Int) = _
  rw [BitVec.toNat_and, ofU hx, ofU hy]
  have := Nat.and_le_left (n := x) (m := y)
  rw [wrapU (by omega)]
theorem bits_orU {x y : Nat} (hx : x < 2 ^ 64) (hy : y < 2 ^ 64) : bitsI .or .u64 (x : Int) (y : Int) = ((x ||| y : Nat) : Int) := by
  show IntKind.u64.wrap ((BitVec.ofInt 64 (x : Int) ||| BitVec.ofInt 64 (y : Int)).toNat : Int) = _
  rw [BitVec.toNat_or, ofU hx, ofU hy]
  have := Nat.or_lt_two_pow hx hy
  rw [wrapU (by omega)]
theorem bits_andnU {x : Nat} (hx : x < 2 ^ 64) : bitsI .andNot .u64 (x : Int) 9218868437227405312 = ((x / 9223372036854775808 * 9223372036854775808 + x % 4503599627370496 : Nat) : Int) := by
  have e2 : ~~~(BitVec.ofInt 64 (9218868437227405312 : Int)) = BitVec.ofNat 64 9227875636482146303 := by decide
  show IntKind.u64.wrap ((BitVec.ofInt 64 (x : Int) &&& ~~~(BitVec.ofInt 64 (9218868437227405312 : Int))).toNat : Int) = _
  rw [e2, BitVec.toNat_and, ofU hx, BitVec.toNat_ofNat]
  have e3 : 9227875636482146303 % 2 ^ 64 = 9227875636482146303 := by decide
  rw [e3, andn_exp hx]
  rw [wrapU (by omega)]
theorem bits_andI {x : Nat} (hx : x < 2 ^ 63) : bitsI .and .i64 (x : Int) 2047 = ((x % 2048 : Nat) : Int) := by
  have e2 : (BitVec.ofInt 64 (2047 : Int)).toNat = 2047 := by decide
  show IntKind.i64.wrap ((BitVec.ofInt 64 (x : Int) &&& BitVec.ofInt 64 (2047 : Int)).toNat : Int) = _
  rw [BitVec.toNat_and, ofU (by omega), e2, and11]
  rw [IntWalk.i64_in _ (by omega)]
/-! what 'normalize' makes of a number -/
/-- the digits of a number that isn't 0, the highest at place 52, and where the lowest stands -/
theorem norm_fin {x : Nat} (hx : pK x = 0) (h0 : pM x ≠ 0) (h64 : x < 2 ^ 64) :
    ∃ (y E F : Nat) (en : Int), y = (if absF x < 4503599627370496 then fmul x 4841369599423283200 else x) ∧ en = (if absF x < 4503599627370496 then -52 else 0) ∧
      y = (if sNeg x then 9223372036854775808 else 0) + E * 4503599627370496 + F ∧ 1 ≤ E ∧ E < 2047 ∧ F < 4503599627370496 ∧ pK y = 0 ∧
      ∀ k : Int, rungF (pM x).toNat (pE x + k) = rungF (4503599627370496 + F) ((E : Int) - 1075 + en + k) := by
  have hs : x / 9223372036854775808 = (if sNeg x then 1 else 0) := by
    have : x / 9223372036854775808 < 2 := by omega
    unfold sNeg
    have : x / 9223372036854775808 = 0 ∨ x / 9223372036854775808 = 1 := by omega
    rcases this with h | h <;> rw [h] <;> rfl
  obtain ⟨ha, hb⟩ := abs_fin hx
  have hE : pE₀ x ≠ 2047 := by
    intro hE; unfold pK at hx; rw [if_pos hE] at hx; split at hx <;> cases hx
  by_cases hsm : absF x < 4503599627370496
  · have hE0 : pE₀ x = 0 := by rw [ha] at hsm; unfold pE₀; omega
    have e1 : pM x = pM₀ x := by unfold pM; rw [if_neg hE, if_pos hE0]
    have e2 : pE x = -1074 := by unfold pE; rw [if_neg hE, if_pos hE0]
    obtain ⟨m, hm⟩ : ∃ m : Nat, pM x = m := ⟨(pM x).toNat, by have := (pM_rng (x := x)).1; omega⟩
    have hm1 : 1 ≤ m := by omega
    have hm2 : m < 4503599627370496 := by rw [hm] at e1; unfold pM₀ at e1; omega
    have hrx := read_fin hx
    rw [hm, e2] at hrx
    have hrc : Ieee.double.read 4841369599423283200 = .number false 4503599627370496 0 := by decide
    have hy := fmul_num hrx hrc
    rw [Bool.xor_false] at hy
    have hmt : (m : Int).toNat = m := by omega
    rw [hmt] at hy
    have hr1 := rungF_shift m 52 (-1074)
    have c52 : (2 : Nat) ^ 52 = 4503599627370496 := by decide
    rw [c52] at hr1
    rw [show ((-1074 : Int) + 0) = -1074 by rfl, hr1] at hy
    -- how m is kept
    have hl1 := Nat.log2_self_le (show m ≠ 0 by omega)
    have hl2 : m < 2 ^ (m.log2 + 1) := Nat.lt_log2_self
    have hl3 : m.log2 < 52 := (Nat.log2_lt (by omega)).2 (by rw [c52]; exact hm2)
    obtain ⟨d, hd⟩ : ∃ d : Nat, d + m.log2 = 52 := ⟨52 - m.log2, by omega⟩
    have k1 : 4503599627370496 ≤ m * 2 ^ d := by
      have := Nat.mul_le_mul_right (2 ^ d) hl1
      rw [← Nat.pow_add, Nat.add_comm, hd, c52] at this; exact this
    have k2 : m * 2 ^ d < 9007199254740992 := by
      have := Nat.mul_lt_mul_of_pos_right hl2 (Nat.two_pow_pos d)
      rw [← Nat.pow_add, show m.log2 + 1 + d = 53 by omega] at this
      have c53 : (2 : Nat) ^ 53 = 9007199254740992 := by decide
      rw [c53] at this; exact this
    have hk := rung_made (m := m) (a := d) (b := 0) (e := -1074 + ((52 : Nat) : Int)) (by omega) (.inr k2) (by rw [Nat.pow_zero, Nat.div_one]; exact k2) (by omega) (.inl (by rw [Nat.pow_zero, Nat.div_one]; exact k1))
    rw [cut_zero] at hk
    have hq : (-1074 + ((52 : Nat) : Int) - (d : Int) + ((0 : Nat) : Int) + 1074).toNat = 52 - d := by omega
    rw [hq, Nat.min_eq_left (by omega)] at hk
    rw [hk] at hy
    refine ⟨fmul x 4841369599423283200, 53 - d, m * 2 ^ d - 4503599627370496, -52, by rw [if_pos hsm], by rw [if_pos hsm], ?_, by omega, by omega, by omega, ?_, fun k => ?_⟩
    · rw [hy]
      unfold Ieee.Format.word
      rw [e_sw]
      cases sNeg x <;> simp only [if_true, Bool.false_eq_true, if_false] <;> omega
    · rw [hy]; exact (fv_word (by omega)).1
    · rw [hm, hmt, e2]
      have := rungF_shift m d (-1074 + k - d)
      rw [show 4503599627370496 + (m * 2 ^ d - 4503599627370496) = m * 2 ^ d by omega, show (((53 - d : Nat) : Int) - 1075 + -52 + k) = -1074 + k - d by omega, this]
      congr 1; omega
  · have hE0 : pE₀ x ≠ 0 := by rw [ha] at hsm; unfold pE₀; omega
    have e1 : pM x = pM₀ x + 4503599627370496 := by unfold pM; rw [if_neg hE, if_neg hE0]
    have e2 : pE x = pE₀ x - 1075 := by unfold pE; rw [if_neg hE, if_neg hE0]
    obtain ⟨F, hF⟩ : ∃ F : Nat, F = x % 4503599627370496 := ⟨_, rfl⟩
    obtain ⟨E, hEq⟩ : ∃ E : Nat, E = x / 4503599627370496 % 2048 := ⟨_, rfl⟩
    have f1 : pM₀ x = F := by unfold pM₀; omega
    have f2 : pE₀ x = E := by unfold pE₀; omega
    have f3 : x = x / 9223372036854775808 * 9223372036854775808 + E * 4503599627370496 + F := by omega
    have f4 : F < 4503599627370496 := by omega
    have f5 : E < 2048 := by omega
    rw [f1] at e1
    rw [f2] at e2 hE0 hE
    clear hF hEq f1 f2
    refine ⟨x, E, F, 0, by rw [if_neg hsm], by rw [if_neg hsm], ?_, by omega, by omega, f4, hx, fun k => ?_⟩
    · rw [hs] at f3
      conv => lhs; rw [f3]
      cases sNeg x <;> simp
    · have t1 : (pM x).toNat = 4503599627370496 + F := by rw [e1]; omega
      have t2 : pE x + k = (E : Int) - 1075 + 0 + k := by rw [e2]; omega
      rw [t1, t2]
end Go.Sx
