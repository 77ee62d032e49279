/- A part of the proofs of this seat: YA. No condition is set. -/
import Derived.KernelRfl
import Derived.Test.YtkeejiiicfpkgaaProg
import Derived.Test.YtkeejiiicfpkgaaXF
import Derived.Test.YtkeejiiicfpkgaaXR
import Derived.Test.YtkeejiiicfpkgaaXS
set_option maxRecDepth 20000
namespace Go.Sx
open Go.Proofs
instance : TyI Try.prog 0 1 false := ⟨by kernel_rfl, by kernel_rfl⟩
instance : TyI Try.prog 1 1 false := ⟨by kernel_rfl, by kernel_rfl⟩
instance : ZI Try.prog 1 [.raw .nilFunc] := ⟨by kernel_rfl⟩
instance : TyI Try.prog 2 1 false := ⟨by kernel_rfl, by kernel_rfl⟩
instance : ZI Try.prog 2 [.int .i64 0] := ⟨by kernel_rfl⟩
instance : UI Try.prog 2 (.int .i64) := ⟨by kernel_rfl⟩
instance : TyI Try.prog 3 1 false := ⟨by kernel_rfl, by kernel_rfl⟩
instance : ZI Try.prog 3 [.int .i64 0] := ⟨by kernel_rfl⟩
instance : UI Try.prog 3 (.int .i64) := ⟨by kernel_rfl⟩
instance : TyI Try.prog 4 1 false := ⟨by kernel_rfl, by kernel_rfl⟩
instance : ZI Try.prog 4 [.bool false] := ⟨by kernel_rfl⟩
instance : UI Try.prog 4 (.bool) := ⟨by kernel_rfl⟩
instance : TyI Try.prog 5 1 false := ⟨by kernel_rfl, by kernel_rfl⟩
instance : ZI Try.prog 5 [.int .u8 0] := ⟨by kernel_rfl⟩
instance : UI Try.prog 5 (.int .u8) := ⟨by kernel_rfl⟩
instance : TyI Try.prog 6 1 false := ⟨by kernel_rfl, by kernel_rfl⟩
instance : ZI Try.prog 6 [.int .u8 0] := ⟨by kernel_rfl⟩
instance : UI Try.prog 6 (.int .u8) := ⟨by kernel_rfl⟩
instance : TyI Try.prog 7 4 true := ⟨by kernel_rfl, by kernel_rfl⟩
instance : FldI Try.prog 7 0 0 2 := ⟨by kernel_rfl, by kernel_rfl⟩
instance : FldI Try.prog 7 1 1 3 := ⟨by kernel_rfl, by kernel_rfl⟩
instance : FldI Try.prog 7 2 2 4 := ⟨by kernel_rfl, by kernel_rfl⟩
instance : FldI Try.prog 7 3 3 6 := ⟨by kernel_rfl, by kernel_rfl⟩
instance : ZI Try.prog 7 [.int .i64 0, .int .i64 0, .bool false, .int .u8 0] := ⟨by kernel_rfl⟩
instance : BdI Try.prog 7 [.int .i64 0, .int .i64 0, .bool false, .int .u8 0] [(0, 1), (1, 1), (2, 1), (3, 1)] := ⟨by kernel_rfl⟩
instance : TyI Try.prog 8 4 true := ⟨by kernel_rfl, by kernel_rfl⟩
instance : FldI Try.prog 8 0 0 2 := ⟨by kernel_rfl, by kernel_rfl⟩
instance : FldI Try.prog 8 1 1 3 := ⟨by kernel_rfl, by kernel_rfl⟩
instance : FldI Try.prog 8 2 2 4 := ⟨by kernel_rfl, by kernel_rfl⟩
instance : FldI Try.prog 8 3 3 6 := ⟨by kernel_rfl, by kernel_rfl⟩
instance : ZI Try.prog 8 [.int .i64 0, .int .i64 0, .bool false, .int .u8 0] := ⟨by kernel_rfl⟩
instance : BdI Try.prog 8 [.int .i64 0, .int .i64 0, .bool false, .int .u8 0] [(0, 1), (1, 1), (2, 1), (3, 1)] := ⟨by kernel_rfl⟩
instance : TyI Try.prog 9 1 false := ⟨by kernel_rfl, by kernel_rfl⟩
instance : ZI Try.prog 9 [.str .empty] := ⟨by kernel_rfl⟩
instance : UI Try.prog 9 (.string) := ⟨by kernel_rfl⟩
instance : TyI Try.prog 10 1 false := ⟨by kernel_rfl, by kernel_rfl⟩
instance : ZI Try.prog 10 [.str .empty] := ⟨by kernel_rfl⟩
instance : UI Try.prog 10 (.string) := ⟨by kernel_rfl⟩
instance : TyI Try.prog 11 1 false := ⟨by kernel_rfl, by kernel_rfl⟩
instance : ZI Try.prog 11 [.str .empty] := ⟨by kernel_rfl⟩
instance : UI Try.prog 11 (.string) := ⟨by kernel_rfl⟩
instance : TyI Try.prog 12 1 false := ⟨by kernel_rfl, by kernel_rfl⟩
instance : ZI Try.prog 12 [.int .u64 0] := ⟨by kernel_rfl⟩
instance : UI Try.prog 12 (.int .u64) := ⟨by kernel_rfl⟩
instance : TyI Try.prog 13 2 true := ⟨by kernel_rfl, by kernel_rfl⟩
instance : FldI Try.prog 13 0 0 9 := ⟨by kernel_rfl, by kernel_rfl⟩
instance : FldI Try.prog 13 1 1 12 := ⟨by kernel_rfl, by kernel_rfl⟩
instance : ZI Try.prog 13 [.str .empty, .int .u64 0] := ⟨by kernel_rfl⟩
instance : BdI Try.prog 13 [.str .empty, .int .u64 0] [(0, 1), (1, 1)] := ⟨by kernel_rfl⟩
instance : TyI Try.prog 14 2 true := ⟨by kernel_rfl, by kernel_rfl⟩
instance : FldI Try.prog 14 0 0 9 := ⟨by kernel_rfl, by kernel_rfl⟩
instance : FldI Try.prog 14 1 1 12 := ⟨by kernel_rfl, by kernel_rfl⟩
instance : ZI Try.prog 14 [.str .empty, .int .u64 0] := ⟨by kernel_rfl⟩
instance : BdI Try.prog 14 [.str .empty, .int .u64 0] [(0, 1), (1, 1)] := ⟨by kernel_rfl⟩
instance : TyI Try.prog 15 1 false := ⟨by kernel_rfl, by kernel_rfl⟩
instance : ZI Try.prog 15 [.raw (.pointer none)] := ⟨by kernel_rfl⟩
instance : PtI Try.prog 15 := ⟨by kernel_rfl⟩
instance : TyI Try.prog 16 1 false := ⟨by kernel_rfl, by kernel_rfl⟩
instance : ZI Try.prog 16 [.raw (.pointer none)] := ⟨by kernel_rfl⟩
instance : TyI Try.prog 17 1 false := ⟨by kernel_rfl, by kernel_rfl⟩
instance : ZI Try.prog 17 [.raw (.pointer none)] := ⟨by kernel_rfl⟩
instance : PtI Try.prog 17 := ⟨by kernel_rfl⟩
instance : TyI Try.prog 18 1 true := ⟨by kernel_rfl, by kernel_rfl⟩
instance : FldI Try.prog 18 0 0 17 := ⟨by kernel_rfl, by kernel_rfl⟩
instance : ZI Try.prog 18 [.raw (.pointer none)] := ⟨by kernel_rfl⟩
instance : BdI Try.prog 18 [.raw (.pointer none)] [(0, 1)] := ⟨by kernel_rfl⟩
instance : TyI Try.prog 19 1 true := ⟨by kernel_rfl, by kernel_rfl⟩
instance : FldI Try.prog 19 0 0 17 := ⟨by kernel_rfl, by kernel_rfl⟩
instance : ZI Try.prog 19 [.raw (.pointer none)] := ⟨by kernel_rfl⟩
instance : BdI Try.prog 19 [.raw (.pointer none)] [(0, 1)] := ⟨by kernel_rfl⟩
instance : TyI Try.prog 20 1 false := ⟨by kernel_rfl, by kernel_rfl⟩
instance : ZI Try.prog 20 [.raw .nilIface] := ⟨by kernel_rfl⟩
instance : TyI Try.prog 21 1 false := ⟨by kernel_rfl, by kernel_rfl⟩
instance : ZI Try.prog 21 [.int .i32 0] := ⟨by kernel_rfl⟩
instance : UI Try.prog 21 (.int .i32) := ⟨by kernel_rfl⟩
instance : TyI Try.prog 22 1 false := ⟨by kernel_rfl, by kernel_rfl⟩
instance : SlI Try.prog 22 30 1 := ⟨by kernel_rfl, by kernel_rfl⟩
instance : EI Try.prog 22 1 8 [.flt 0] := ⟨by kernel_rfl⟩
instance : ZI Try.prog 22 [.slnil] := ⟨by kernel_rfl⟩
instance : TyI Try.prog 23 5 true := ⟨by kernel_rfl, by kernel_rfl⟩
instance : FldI Try.prog 23 0 0 22 := ⟨by kernel_rfl, by kernel_rfl⟩
instance : FldI Try.prog 23 1 1 3 := ⟨by kernel_rfl, by kernel_rfl⟩
instance : FldI Try.prog 23 2 2 3 := ⟨by kernel_rfl, by kernel_rfl⟩
instance : FldI Try.prog 23 3 3 3 := ⟨by kernel_rfl, by kernel_rfl⟩
instance : FldI Try.prog 23 4 4 3 := ⟨by kernel_rfl, by kernel_rfl⟩
instance : ZI Try.prog 23 [.slnil, .int .i64 0, .int .i64 0, .int .i64 0, .int .i64 0] := ⟨by kernel_rfl⟩
instance : BdI Try.prog 23 [.slnil, .int .i64 0, .int .i64 0, .int .i64 0, .int .i64 0] [(0, 1), (1, 1), (2, 1), (3, 1), (4, 1)] := ⟨by kernel_rfl⟩
instance : TyI Try.prog 24 5 true := ⟨by kernel_rfl, by kernel_rfl⟩
instance : FldI Try.prog 24 0 0 22 := ⟨by kernel_rfl, by kernel_rfl⟩
instance : FldI Try.prog 24 1 1 3 := ⟨by kernel_rfl, by kernel_rfl⟩
instance : FldI Try.prog 24 2 2 3 := ⟨by kernel_rfl, by kernel_rfl⟩
instance : FldI Try.prog 24 3 3 3 := ⟨by kernel_rfl, by kernel_rfl⟩
instance : FldI Try.prog 24 4 4 3 := ⟨by kernel_rfl, by kernel_rfl⟩
instance : ZI Try.prog 24 [.slnil, .int .i64 0, .int .i64 0, .int .i64 0, .int .i64 0] := ⟨by kernel_rfl⟩
instance : BdI Try.prog 24 [.slnil, .int .i64 0, .int .i64 0, .int .i64 0, .int .i64 0] [(0, 1), (1, 1), (2, 1), (3, 1), (4, 1)] := ⟨by kernel_rfl⟩
instance : TyI Try.prog 25 1 false := ⟨by kernel_rfl, by kernel_rfl⟩
instance : ZI Try.prog 25 [.raw .nilFunc] := ⟨by kernel_rfl⟩
instance : TyI Try.prog 26 1 false := ⟨by kernel_rfl, by kernel_rfl⟩
instance : ZI Try.prog 26 [.raw .nilFunc] := ⟨by kernel_rfl⟩
instance : TyI Try.prog 27 1 false := ⟨by kernel_rfl, by kernel_rfl⟩
instance : ZI Try.prog 27 [.raw .nilFunc] := ⟨by kernel_rfl⟩
instance : TyI Try.prog 28 3 true := ⟨by kernel_rfl, by kernel_rfl⟩
instance : FldI Try.prog 28 0 0 3 := ⟨by kernel_rfl, by kernel_rfl⟩
instance : FldI Try.prog 28 1 1 3 := ⟨by kernel_rfl, by kernel_rfl⟩
instance : FldI Try.prog 28 2 2 22 := ⟨by kernel_rfl, by kernel_rfl⟩
instance : ZI Try.prog 28 [.int .i64 0, .int .i64 0, .slnil] := ⟨by kernel_rfl⟩
instance : BdI Try.prog 28 [.int .i64 0, .int .i64 0, .slnil] [(0, 1), (1, 1), (2, 1)] := ⟨by kernel_rfl⟩
instance : TyI Try.prog 29 3 true := ⟨by kernel_rfl, by kernel_rfl⟩
instance : FldI Try.prog 29 0 0 3 := ⟨by kernel_rfl, by kernel_rfl⟩
instance : FldI Try.prog 29 1 1 3 := ⟨by kernel_rfl, by kernel_rfl⟩
instance : FldI Try.prog 29 2 2 22 := ⟨by kernel_rfl, by kernel_rfl⟩
instance : ZI Try.prog 29 [.int .i64 0, .int .i64 0, .slnil] := ⟨by kernel_rfl⟩
instance : BdI Try.prog 29 [.int .i64 0, .int .i64 0, .slnil] [(0, 1), (1, 1), (2, 1)] := ⟨by kernel_rfl⟩
instance : TyI Try.prog 30 1 false := ⟨by kernel_rfl, by kernel_rfl⟩
instance : ZI Try.prog 30 [.flt 0] := ⟨by kernel_rfl⟩
instance : UI Try.prog 30 (.float .f64) := ⟨by kernel_rfl⟩
instance : TyI Try.prog 31 1 false := ⟨by kernel_rfl, by kernel_rfl⟩
instance : ZI Try.prog 31 [.raw .nilFunc] := ⟨by kernel_rfl⟩
instance : TyI Try.prog 32 1 false := ⟨by kernel_rfl, by kernel_rfl⟩
instance : ZI Try.prog 32 [.raw .nilFunc] := ⟨by kernel_rfl⟩
instance : TyI Try.prog 33 1 false := ⟨by kernel_rfl, by kernel_rfl⟩
instance : ZI Try.prog 33 [.raw .nilFunc] := ⟨by kernel_rfl⟩
instance : TyI Try.prog 34 1 false := ⟨by kernel_rfl, by kernel_rfl⟩
instance : ZI Try.prog 34 [.int .i64 0] := ⟨by kernel_rfl⟩
instance : UI Try.prog 34 (.int .i64) := ⟨by kernel_rfl⟩
instance : TyI Try.prog 35 1 false := ⟨by kernel_rfl, by kernel_rfl⟩
instance : ZI Try.prog 35 [.raw .nilFunc] := ⟨by kernel_rfl⟩
instance : TyI Try.prog 36 1 false := ⟨by kernel_rfl, by kernel_rfl⟩
instance : ZI Try.prog 36 [.raw .nilFunc] := ⟨by kernel_rfl⟩
instance : TyI Try.prog 37 3 true := ⟨by kernel_rfl, by kernel_rfl⟩
instance : FldI Try.prog 37 0 0 3 := ⟨by kernel_rfl, by kernel_rfl⟩
instance : FldI Try.prog 37 1 1 3 := ⟨by kernel_rfl, by kernel_rfl⟩
instance : FldI Try.prog 37 2 2 22 := ⟨by kernel_rfl, by kernel_rfl⟩
instance : ZI Try.prog 37 [.int .i64 0, .int .i64 0, .slnil] := ⟨by kernel_rfl⟩
instance : BdI Try.prog 37 [.int .i64 0, .int .i64 0, .slnil] [(0, 1), (1, 1), (2, 1)] := ⟨by kernel_rfl⟩
instance : TyI Try.prog 38 3 true := ⟨by kernel_rfl, by kernel_rfl⟩
instance : FldI Try.prog 38 0 0 3 := ⟨by kernel_rfl, by kernel_rfl⟩
instance : FldI Try.prog 38 1 1 3 := ⟨by kernel_rfl, by kernel_rfl⟩
instance : FldI Try.prog 38 2 2 22 := ⟨by kernel_rfl, by kernel_rfl⟩
instance : ZI Try.prog 38 [.int .i64 0, .int .i64 0, .slnil] := ⟨by kernel_rfl⟩
instance : BdI Try.prog 38 [.int .i64 0, .int .i64 0, .slnil] [(0, 1), (1, 1), (2, 1)] := ⟨by kernel_rfl⟩
instance : TyI Try.prog 39 1 false := ⟨by kernel_rfl, by kernel_rfl⟩
instance : ZI Try.prog 39 [.raw .nilFunc] := ⟨by kernel_rfl⟩
instance : TyI Try.prog 40 1 false := ⟨by kernel_rfl, by kernel_rfl⟩
instance : ZI Try.prog 40 [.raw .nilFunc] := ⟨by kernel_rfl⟩
instance : TyI Try.prog 41 1 false := ⟨by kernel_rfl, by kernel_rfl⟩
instance : ZI Try.prog 41 [.raw .nilFunc] := ⟨by kernel_rfl⟩
instance : TyI Try.prog 42 1 false := ⟨by kernel_rfl, by kernel_rfl⟩
instance : ZI Try.prog 42 [.raw .nilFunc] := ⟨by kernel_rfl⟩
instance : TyI Try.prog 43 1 false := ⟨by kernel_rfl, by kernel_rfl⟩
instance : TyI Try.prog 44 1 false := ⟨by kernel_rfl, by kernel_rfl⟩
instance : ZI Try.prog 44 [.raw .nilFunc] := ⟨by kernel_rfl⟩
instance : TyI Try.prog 45 1 false := ⟨by kernel_rfl, by kernel_rfl⟩
instance : TyI Try.prog 46 1 false := ⟨by kernel_rfl, by kernel_rfl⟩
instance : ZI Try.prog 46 [.raw .nilFunc] := ⟨by kernel_rfl⟩
instance : TyI Try.prog 47 1 false := ⟨by kernel_rfl, by kernel_rfl⟩
instance : ZI Try.prog 47 [.raw .nilFunc] := ⟨by kernel_rfl⟩
instance : TyI Try.prog 48 1 false := ⟨by kernel_rfl, by kernel_rfl⟩
instance : ZI Try.prog 48 [.raw .nilFunc] := ⟨by kernel_rfl⟩
instance : TyI Try.prog 49 1 false := ⟨by kernel_rfl, by kernel_rfl⟩
instance : SlI Try.prog 49 51 2 := ⟨by kernel_rfl, by kernel_rfl⟩
instance : EI Try.prog 49 2 16 [.int .i64 0, .int .i64 0] := ⟨by kernel_rfl⟩
instance : ZI Try.prog 49 [.slnil] := ⟨by kernel_rfl⟩
instance : TyI Try.prog 50 1 false := ⟨by kernel_rfl, by kernel_rfl⟩
instance : ZI Try.prog 50 [.raw .nilFunc] := ⟨by kernel_rfl⟩
instance : TyI Try.prog 51 2 true := ⟨by kernel_rfl, by kernel_rfl⟩
instance : ZI Try.prog 51 [.int .i64 0, .int .i64 0] := ⟨by kernel_rfl⟩
instance : TyI Try.prog 52 1 false := ⟨by kernel_rfl, by kernel_rfl⟩
instance : ZI Try.prog 52 [.int .u64 0] := ⟨by kernel_rfl⟩
instance : UI Try.prog 52 (.int .u64) := ⟨by kernel_rfl⟩
instance : TyI Try.prog 53 1 false := ⟨by kernel_rfl, by kernel_rfl⟩
instance : TyI Try.prog 54 1 false := ⟨by kernel_rfl, by kernel_rfl⟩
instance : ZI Try.prog 54 [.raw .nilFunc] := ⟨by kernel_rfl⟩
instance : TyI Try.prog 55 1 false := ⟨by kernel_rfl, by kernel_rfl⟩
instance : ZI Try.prog 55 [.raw .nilFunc] := ⟨by kernel_rfl⟩
instance : TyI Try.prog 56 1 false := ⟨by kernel_rfl, by kernel_rfl⟩
instance : ZI Try.prog 56 [.raw .nilFunc] := ⟨by kernel_rfl⟩
instance : TyI Try.prog 57 1 false := ⟨by kernel_rfl, by kernel_rfl⟩
instance : ZI Try.prog 57 [.raw .nilFunc] := ⟨by kernel_rfl⟩
instance : TyI Try.prog 58 1 false := ⟨by kernel_rfl, by kernel_rfl⟩
instance : ZI Try.prog 58 [.raw .nilFunc] := ⟨by kernel_rfl⟩
instance : TyI Try.prog 59 1 false := ⟨by kernel_rfl, by kernel_rfl⟩
instance : ZI Try.prog 59 [.raw .nilFunc] := ⟨by kernel_rfl⟩
instance : TyI Try.prog 60 1 false := ⟨by kernel_rfl, by kernel_rfl⟩
instance : SlI Try.prog 60 3 1 := ⟨by kernel_rfl, by kernel_rfl⟩
instance : EI Try.prog 60 1 8 [.int .i64 0] := ⟨by kernel_rfl⟩
instance : ZI Try.prog 60 [.slnil] := ⟨by kernel_rfl⟩
instance : TyI Try.prog 61 1 false := ⟨by kernel_rfl, by kernel_rfl⟩
instance : ZI Try.prog 61 [.raw .nilFunc] := ⟨by kernel_rfl⟩
instance : TyI Try.prog 62 1 false := ⟨by kernel_rfl, by kernel_rfl⟩
instance : ZI Try.prog 62 [.raw .nilFunc] := ⟨by kernel_rfl⟩
instance : TyI Try.prog 63 1 false := ⟨by kernel_rfl, by kernel_rfl⟩
instance : ZI Try.prog 63 [.int .u64 0] := ⟨by kernel_rfl⟩
instance : UI Try.prog 63 (.int .u64) := ⟨by kernel_rfl⟩
instance : TyI Try.prog 64 1 false := ⟨by kernel_rfl, by kernel_rfl⟩
instance : ZI Try.prog 64 [.raw .nilFunc] := ⟨by kernel_rfl⟩
instance : TyI Try.prog 65 1 false := ⟨by kernel_rfl, by kernel_rfl⟩
instance : ZI Try.prog 65 [.raw .nilFunc] := ⟨by kernel_rfl⟩
instance : TyI Try.prog 66 1 false := ⟨by kernel_rfl, by kernel_rfl⟩
instance : ZI Try.prog 66 [.raw .nilFunc] := ⟨by kernel_rfl⟩
instance : TyI Try.prog 67 1 false := ⟨by kernel_rfl, by kernel_rfl⟩
instance : ZI Try.prog 67 [.raw .nilFunc] := ⟨by kernel_rfl⟩
instance : TyI Try.prog 68 1 false := ⟨by kernel_rfl, by kernel_rfl⟩
instance : ZI Try.prog 68 [.int .i64 0] := ⟨by kernel_rfl⟩
instance : UI Try.prog 68 (.int .i64) := ⟨by kernel_rfl⟩
instance : TyI Try.prog 69 1 false := ⟨by kernel_rfl, by kernel_rfl⟩
instance : TyI Try.prog 70 1 false := ⟨by kernel_rfl, by kernel_rfl⟩
instance : ZI Try.prog 70 [.raw .nilFunc] := ⟨by kernel_rfl⟩
instance : TyI Try.prog 71 1 false := ⟨by kernel_rfl, by kernel_rfl⟩
instance : ZI Try.prog 71 [.raw .nilFunc] := ⟨by kernel_rfl⟩
instance : TyI Try.prog 72 1 false := ⟨by kernel_rfl, by kernel_rfl⟩
instance : ZI Try.prog 72 [.raw .nilFunc] := ⟨by kernel_rfl⟩
instance : TyI Try.prog 73 1 false := ⟨by kernel_rfl, by kernel_rfl⟩
instance : ZI Try.prog 73 [.raw .nilFunc] := ⟨by kernel_rfl⟩
instance : TyI Try.prog 74 1 false := ⟨by kernel_rfl, by kernel_rfl⟩
instance : TyI Try.prog 75 1 false := ⟨by kernel_rfl, by kernel_rfl⟩
instance : ZI Try.prog 75 [.raw .nilFunc] := ⟨by kernel_rfl⟩
instance : TyI Try.prog 76 1 false := ⟨by kernel_rfl, by kernel_rfl⟩
instance : ZI Try.prog 76 [.raw .nilFunc] := ⟨by kernel_rfl⟩
instance : TyI Try.prog 77 1 false := ⟨by kernel_rfl, by kernel_rfl⟩
instance : ZI Try.prog 77 [.int .u32 0] := ⟨by kernel_rfl⟩
instance : UI Try.prog 77 (.int .u32) := ⟨by kernel_rfl⟩
instance : TyI Try.prog 78 1 false := ⟨by kernel_rfl, by kernel_rfl⟩
instance : ZI Try.prog 78 [.raw .nilFunc] := ⟨by kernel_rfl⟩
instance : TyI Try.prog 79 1 false := ⟨by kernel_rfl, by kernel_rfl⟩
instance : ZI Try.prog 79 [.int .u64 0] := ⟨by kernel_rfl⟩
instance : UI Try.prog 79 (.int .u64) := ⟨by kernel_rfl⟩
instance : TyI Try.prog 80 1 false := ⟨by kernel_rfl, by kernel_rfl⟩
instance : ZI Try.prog 80 [.raw .nilFunc] := ⟨by kernel_rfl⟩
instance : TyI Try.prog 81 1 false := ⟨by kernel_rfl, by kernel_rfl⟩
instance : ZI Try.prog 81 [.raw .nilFunc] := ⟨by kernel_rfl⟩
instance : TyI Try.prog 82 1 false := ⟨by kernel_rfl, by kernel_rfl⟩
instance : ZI Try.prog 82 [.raw .nilFunc] := ⟨by kernel_rfl⟩
instance : TyI Try.prog 83 1 false := ⟨by kernel_rfl, by kernel_rfl⟩
instance : ZI Try.prog 83 [.raw (.pointer none)] := ⟨by kernel_rfl⟩
instance : PtI Try.prog 83 := ⟨by kernel_rfl⟩
instance : TyI Try.prog 84 1 false := ⟨by kernel_rfl, by kernel_rfl⟩
instance : ZI Try.prog 84 [.raw .nilFunc] := ⟨by kernel_rfl⟩
instance : TyI Try.prog 85 1 false := ⟨by kernel_rfl, by kernel_rfl⟩
instance : ZI Try.prog 85 [.raw .nilFunc] := ⟨by kernel_rfl⟩
instance : TyI Try.prog 86 1 false := ⟨by kernel_rfl, by kernel_rfl⟩
instance : ZI Try.prog 86 [.raw (.pointer none)] := ⟨by kernel_rfl⟩
instance : PtI Try.prog 86 := ⟨by kernel_rfl⟩
instance : TyI Try.prog 87 1 false := ⟨by kernel_rfl, by kernel_rfl⟩
instance : TyI Try.prog 88 1 false := ⟨by kernel_rfl, by kernel_rfl⟩
instance : ZI Try.prog 88 [.raw .nilFunc] := ⟨by kernel_rfl⟩
instance : TyI Try.prog 89 1 false := ⟨by kernel_rfl, by kernel_rfl⟩
instance : ZI Try.prog 89 [.raw .nilFunc] := ⟨by kernel_rfl⟩
instance : TyI Try.prog 90 4 true := ⟨by kernel_rfl, by kernel_rfl⟩
instance : FldI Try.prog 90 0 0 17 := ⟨by kernel_rfl, by kernel_rfl⟩
instance : FldI Try.prog 90 1 1 17 := ⟨by kernel_rfl, by kernel_rfl⟩
instance : FldI Try.prog 90 2 2 17 := ⟨by kernel_rfl, by kernel_rfl⟩
instance : FldI Try.prog 90 3 3 9 := ⟨by kernel_rfl, by kernel_rfl⟩
instance : ZI Try.prog 90 [.raw (.pointer none), .raw (.pointer none), .raw (.pointer none), .str .empty] := ⟨by kernel_rfl⟩
instance : BdI Try.prog 90 [.raw (.pointer none), .raw (.pointer none), .raw (.pointer none), .str .empty] [(0, 1), (1, 1), (2, 1), (3, 1)] := ⟨by kernel_rfl⟩
instance : TyI Try.prog 91 4 true := ⟨by kernel_rfl, by kernel_rfl⟩
instance : FldI Try.prog 91 0 0 17 := ⟨by kernel_rfl, by kernel_rfl⟩
instance : FldI Try.prog 91 1 1 17 := ⟨by kernel_rfl, by kernel_rfl⟩
instance : FldI Try.prog 91 2 2 17 := ⟨by kernel_rfl, by kernel_rfl⟩
instance : FldI Try.prog 91 3 3 9 := ⟨by kernel_rfl, by kernel_rfl⟩
instance : ZI Try.prog 91 [.raw (.pointer none), .raw (.pointer none), .raw (.pointer none), .str .empty] := ⟨by kernel_rfl⟩
instance : BdI Try.prog 91 [.raw (.pointer none), .raw (.pointer none), .raw (.pointer none), .str .empty] [(0, 1), (1, 1), (2, 1), (3, 1)] := ⟨by kernel_rfl⟩
instance : TyI Try.prog 92 0 true := ⟨by kernel_rfl, by kernel_rfl⟩
instance : ZI Try.prog 92 [] := ⟨by kernel_rfl⟩
instance : TyI Try.prog 93 0 true := ⟨by kernel_rfl, by kernel_rfl⟩
instance : ZI Try.prog 93 [] := ⟨by kernel_rfl⟩
instance : BdI Try.prog 93 [] [(0, 0)] := ⟨by kernel_rfl⟩
instance : TyI Try.prog 94 0 true := ⟨by kernel_rfl, by kernel_rfl⟩
instance : ZI Try.prog 94 [] := ⟨by kernel_rfl⟩
instance : BdI Try.prog 94 [] [(0, 0)] := ⟨by kernel_rfl⟩
instance : TyI Try.prog 95 1 false := ⟨by kernel_rfl, by kernel_rfl⟩
instance : ZI Try.prog 95 [.raw .nilFunc] := ⟨by kernel_rfl⟩
instance : TyI Try.prog 96 1 false := ⟨by kernel_rfl, by kernel_rfl⟩
instance : ZI Try.prog 96 [.int .u8 0] := ⟨by kernel_rfl⟩
instance : UI Try.prog 96 (.int .u8) := ⟨by kernel_rfl⟩
instance : TyI Try.prog 97 1 false := ⟨by kernel_rfl, by kernel_rfl⟩
instance : ZI Try.prog 97 [.int .u8 0] := ⟨by kernel_rfl⟩
instance : UI Try.prog 97 (.int .u8) := ⟨by kernel_rfl⟩
instance : TyI Try.prog 98 1 false := ⟨by kernel_rfl, by kernel_rfl⟩
instance : ZI Try.prog 98 [.raw .nilFunc] := ⟨by kernel_rfl⟩
instance : TyI Try.prog 99 1 false := ⟨by kernel_rfl, by kernel_rfl⟩
instance : ZI Try.prog 99 [.raw (.pointer none)] := ⟨by kernel_rfl⟩
instance : PtI Try.prog 99 := ⟨by kernel_rfl⟩
instance : TyI Try.prog 100 1 false := ⟨by kernel_rfl, by kernel_rfl⟩
instance : ZI Try.prog 100 [.int .i32 0] := ⟨by kernel_rfl⟩
instance : UI Try.prog 100 (.int .i32) := ⟨by kernel_rfl⟩
instance : TyI Try.prog 101 1 false := ⟨by kernel_rfl, by kernel_rfl⟩
instance : ZI Try.prog 101 [.int .i32 0] := ⟨by kernel_rfl⟩
instance : UI Try.prog 101 (.int .i32) := ⟨by kernel_rfl⟩
instance : TyI Try.prog 102 11 true := ⟨by kernel_rfl, by kernel_rfl⟩
instance : FldI Try.prog 102 0 0 12 := ⟨by kernel_rfl, by kernel_rfl⟩
instance : FldI Try.prog 102 1 1 12 := ⟨by kernel_rfl, by kernel_rfl⟩
instance : FldI Try.prog 102 2 2 77 := ⟨by kernel_rfl, by kernel_rfl⟩
instance : FldI Try.prog 102 3 3 96 := ⟨by kernel_rfl, by kernel_rfl⟩
instance : FldI Try.prog 102 4 4 5 := ⟨by kernel_rfl, by kernel_rfl⟩
instance : FldI Try.prog 102 5 5 5 := ⟨by kernel_rfl, by kernel_rfl⟩
instance : FldI Try.prog 102 6 6 97 := ⟨by kernel_rfl, by kernel_rfl⟩
instance : FldI Try.prog 102 7 7 98 := ⟨by kernel_rfl, by kernel_rfl⟩
instance : FldI Try.prog 102 8 8 99 := ⟨by kernel_rfl, by kernel_rfl⟩
instance : FldI Try.prog 102 9 9 100 := ⟨by kernel_rfl, by kernel_rfl⟩
instance : FldI Try.prog 102 10 10 101 := ⟨by kernel_rfl, by kernel_rfl⟩
instance : ZI Try.prog 102 [.int .u64 0, .int .u64 0, .int .u32 0, .int .u8 0, .int .u8 0, .int .u8 0, .int .u8 0, .raw .nilFunc, .raw (.pointer none), .int .i32 0, .int .i32 0] := ⟨by kernel_rfl⟩
instance : BdI Try.prog 102 [.int .u64 0, .int .u64 0, .int .u32 0, .int .u8 0, .int .u8 0, .int .u8 0, .int .u8 0, .raw .nilFunc, .raw (.pointer none), .int .i32 0, .int .i32 0] [(0, 1), (1, 1), (2, 1), (3, 1), (4, 1), (5, 1), (6, 1), (7, 1), (8, 1), (9, 1), (10, 1)] := ⟨by kernel_rfl⟩
instance : TyI Try.prog 103 11 true := ⟨by kernel_rfl, by kernel_rfl⟩
instance : FldI Try.prog 103 0 0 12 := ⟨by kernel_rfl, by kernel_rfl⟩
instance : FldI Try.prog 103 1 1 12 := ⟨by kernel_rfl, by kernel_rfl⟩
instance : FldI Try.prog 103 2 2 77 := ⟨by kernel_rfl, by kernel_rfl⟩
instance : FldI Try.prog 103 3 3 96 := ⟨by kernel_rfl, by kernel_rfl⟩
instance : FldI Try.prog 103 4 4 5 := ⟨by kernel_rfl, by kernel_rfl⟩
instance : FldI Try.prog 103 5 5 5 := ⟨by kernel_rfl, by kernel_rfl⟩
instance : FldI Try.prog 103 6 6 97 := ⟨by kernel_rfl, by kernel_rfl⟩
instance : FldI Try.prog 103 7 7 98 := ⟨by kernel_rfl, by kernel_rfl⟩
instance : FldI Try.prog 103 8 8 99 := ⟨by kernel_rfl, by kernel_rfl⟩
instance : FldI Try.prog 103 9 9 100 := ⟨by kernel_rfl, by kernel_rfl⟩
instance : FldI Try.prog 103 10 10 101 := ⟨by kernel_rfl, by kernel_rfl⟩
instance : ZI Try.prog 103 [.int .u64 0, .int .u64 0, .int .u32 0, .int .u8 0, .int .u8 0, .int .u8 0, .int .u8 0, .raw .nilFunc, .raw (.pointer none), .int .i32 0, .int .i32 0] := ⟨by kernel_rfl⟩
instance : BdI Try.prog 103 [.int .u64 0, .int .u64 0, .int .u32 0, .int .u8 0, .int .u8 0, .int .u8 0, .int .u8 0, .raw .nilFunc, .raw (.pointer none), .int .i32 0, .int .i32 0] [(0, 1), (1, 1), (2, 1), (3, 1), (4, 1), (5, 1), (6, 1), (7, 1), (8, 1), (9, 1), (10, 1)] := ⟨by kernel_rfl⟩
instance : TyI Try.prog 104 1 false := ⟨by kernel_rfl, by kernel_rfl⟩
instance : ZI Try.prog 104 [.raw (.pointer none)] := ⟨by kernel_rfl⟩
theorem fol : Try.prog.follows .mixedOrders = true := by kernel_rfl
theorem dOk {esc : Bool} {n : Nat} {fz : List Nat} (C : Cx) (h1 : C.P = Try.prog) (h2 : C.cfg = ⟨esc, n, fz⟩) : DrawOk C (drawX Try.prog ⟨esc, n, fz⟩) := by
  have := drawOk (C := C) (by rw [h1]; exact fol)
  rw [h1, h2] at this; exact this
end Go.Sx

set_option linter.unusedVariables false
set_option linter.unusedSimpArgs false
namespace Go.Sx
/-! ### a matrix within a list, written -/
def loc (off ld : Int) (r c p : Nat) : Option (Nat × Nat) :=
  if 0 ≤ (p : Int) - off ∧ (((p : Int) - off) % ld).toNat < r ∧ (((p : Int) - off) / ld).toNat < c then some ((((p : Int) - off) % ld).toNat, (((p : Int) - off) / ld).toNat) else none
def setM (L : List Nat) (off ld : Int) (r c : Nat) (g : Nat → Nat → Nat) : List Nat :=
  rml (fun p => match loc off ld r c p with | some q => g q.1 q.2 | none => L.getD p 0) L.length
@[simp] theorem setM_len (L : List Nat) (off ld : Int) (r c : Nat) (g : Nat → Nat → Nat) : (setM L off ld r c g).length = L.length := by simp [setM]
def pos (off ld : Int) (i j : Nat) : Nat := (off + (i : Int) + (j : Int) * ld).toNat
theorem mel_pos (l : List Nat) (off ld : Int) (i j : Nat) : mel l off ld i j = l.getD (pos off ld i j) 0 := rfl
section
variable {off ld : Int} {r c n : Nat}
theorem loc_pos (hG : GoodP n off r c ld) {i j : Nat} (hi : i < r) (hj : j < c) : loc off ld r c (pos off ld i j) = some (i, j) := by
  obtain ⟨h1, h2, h3, h4, h5, h6⟩ := id hG
  have hp := good_place hG (i := (i : Int)) (j := (j : Int)) (by omega) (by omega) (by omega) (by omega)
  have e : ((pos off ld i j : Nat) : Int) - off = (i : Int) + (j : Int) * ld := by unfold pos; omega
  have e1 : ((i : Int) + (j : Int) * ld) % ld = i := by
    rw [Int.add_mul_emod_self_right]; exact Int.emod_eq_of_lt (by omega) (by omega)
  have e2 : ((i : Int) + (j : Int) * ld) / ld = j := by
    rw [Int.add_mul_ediv_right _ _ (by omega), Int.ediv_eq_zero_of_lt (by omega) (by omega)]; omega
  unfold loc
  rw [e, e1, e2]
  rw [if_pos ⟨by omega, by omega, by omega⟩]
  simp
theorem loc_some {p i j : Nat} (h4 : 1 ≤ ld) (h3 : 0 ≤ off) (h : loc off ld r c p = some (i, j)) : i < r ∧ j < c ∧ p = pos off ld i j := by
  unfold loc at h
  split at h
  · rename_i hc
    simp only [Option.some.injEq, Prod.mk.injEq] at h
    obtain ⟨rfl, rfl⟩ := h
    refine ⟨hc.2.1, hc.2.2, ?_⟩
    unfold pos
    have e1 := Int.emod_nonneg ((p : Int) - off) (show ld ≠ 0 by omega)
    have e2 := Int.ediv_nonneg hc.1 (show 0 ≤ ld by omega)
    have e3 := Int.mul_ediv_add_emod ((p : Int) - off) ld
    rw [Int.toNat_of_nonneg e1, Int.toNat_of_nonneg e2]
    have : ((p : Int) - off) / ld * ld = ld * (((p : Int) - off) / ld) := Int.mul_comm _ _
    omega
  · cases h
theorem pos_lt (hG : GoodP n off r c ld) {i j : Nat} (hi : i < r) (hj : j < c) : pos off ld i j < n := by
  have hp := good_place hG (i := (i : Int)) (j := (j : Int)) (by omega) (by omega) (by omega) (by omega)
  unfold pos; omega
theorem setM_setM {L : List Nat} {g g' : Nat → Nat → Nat} : setM (setM L off ld r c g) off ld r c g' = setM L off ld r c g' := by
  unfold setM
  rw [rml_len]
  refine rml_congr fun p hp => ?_
  cases h : loc off ld r c p with
  | some q => rfl
  | none => simp only; rw [rml_get hp, h]
theorem setM_congr {L : List Nat} {g g' : Nat → Nat → Nat} (h4 : 1 ≤ ld) (h3 : 0 ≤ off) (h : ∀ i j, i < r → j < c → g i j = g' i j) : setM L off ld r c g = setM L off ld r c g' := by
  unfold setM
  refine rml_congr fun p hp => ?_
  cases hl : loc off ld r c p with
  | some q =>
    obtain ⟨i, j⟩ := q
    obtain ⟨hi, hj, _⟩ := loc_some h4 h3 hl
    exact h i j hi hj
  | none => rfl
theorem setM_mel {L : List Nat} (h4 : 1 ≤ ld) (h3 : 0 ≤ off) : setM L off ld r c (mel L off ld) = L := by
  apply List.ext_getElem
  · simp
  · intro p h1 h2
    have hp : p < L.length := h2
    have := rml_get (g := fun p => match loc off ld r c p with | some q => mel L off ld q.1 q.2 | none => L.getD p 0) hp
    have e : (setM L off ld r c (mel L off ld)).getD p 0 = L.getD p 0 := by
      rw [setM, this]
      cases hl : loc off ld r c p with
      | some q =>
        obtain ⟨i, j⟩ := q
        obtain ⟨_, _, rfl⟩ := loc_some h4 h3 hl
        rfl
      | none => rfl
    simpa [List.getD, h1, h2] using e
def updG (g : Nat → Nat → Nat) (i j x : Nat) : Nat → Nat → Nat := fun i' j' => if i' = i ∧ j' = j then x else g i' j'
theorem set_setM {L : List Nat} {g : Nat → Nat → Nat} (hG : GoodP L.length off r c ld) {i j x : Nat} (hi : i < r) (hj : j < c) : (setM L off ld r c g).set (pos off ld i j) x = setM L off ld r c (updG g i j x) := by
  obtain ⟨h1, h2, h3, h4, h5, h6⟩ := id hG
  apply List.ext_getElem
  · simp
  · intro p k1 k2
    simp only [setM_len] at k2
    rw [List.getElem_set]
    have val : ∀ g : Nat → Nat → Nat, (setM L off ld r c g)[p]'(by simpa using k2) = match loc off ld r c p with | some q => g q.1 q.2 | none => L.getD p 0 := by
      intro g; simp [setM, rml]
    rw [val, val]
    split
    · rename_i hp
      subst hp
      rw [loc_pos hG hi hj]
      simp [updG]
    · rename_i hp
      cases hl : loc off ld r c p with
      | some q =>
        obtain ⟨i', j'⟩ := q
        obtain ⟨hi', hj', rfl⟩ := loc_some h4 h3 hl
        simp only [updG]
        rw [if_neg]
        rintro ⟨rfl, rfl⟩; exact hp rfl
      | none => rfl
end
end Go.Sx

set_option linter.unusedVariables false
set_option linter.unusedSimpArgs false
namespace Go.Sx
section
variable {P : Program} {cfg : Cfg} {e : List (Nat × EV)} {L : List (Nat × List AV)} {H N : List (List AV)} {K : St → Prop}
variable {ty : TypeId} {pos : String} {aft : Array Edge} {gd : Option (Nat × Bool)} {dd : Nat}
/-! ### one block of old that is written over and over: the blocks are 'H.set b ..' -/
theorem hb_set {b : Nat} {cs : List AV} (h : b < H.length) : (H.set b cs)[b]? = some cs := by simp [h]
theorem b_iaM {m : Nat} {t el : TypeId} {x y : Operand} [si : SlI P t el 1] {s : AV} {k : IntKind} {i : Int} {len : Nat} (hx : St.ev ⟨e, L, H⟩ x = .val s) (hy : St.ev ⟨e, L, H⟩ y = .val (.int k i)) (hl : slen s = some len) (hi : i = (m : Int)) (hm : m < len)
    (h : K ⟨(dd, .val (.eptr s m)) :: e, L, H⟩) : opX P cfg ⟨some dd, .indexAddr t x y, ty, pos, aft, gd⟩ K ⟨e, L, H⟩ :=
  b_ia (i := m) hx hy hl hi hm (by simpa using h)
theorem FL.set {b g q : Nat} {X : List Nat} (hb : b < H.length) (hg : g = X.length) (hq : q = X.length) : FL (H.set b (fl X) ++ N) (.slm b g 0 q 1) X :=
  (FL.old (hb_set hb) hg hq).app N
end
/-- two rows, swapped -/
def swpG (g : Nat → Nat → Nat) (i k : Nat) : Nat → Nat → Nat := fun i' j => if i' = i then g k j else if i' = k then g i j else g i' j
/-- a table, one number set -/
theorem rmA_congr {g g' : Nat → Nat → Nat} {r c : Nat} (h : ∀ i j, i < r → j < c → g i j = g' i j) : rmA g r c = rmA g' r c := by
  unfold rmA
  exact rml_congr fun k hk => h _ _ (div_lt' (by simpa using hk)) (Nat.mod_lt _ (pos_of_lt hk))
theorem rmA_set {g : Nat → Nat → Nat} {r c i j x : Nat} (hi : i < r) (hj : j < c) : (rmA g r c).set (i * c + j) x = rmA (updG g i j x) r c := by
  apply List.ext_getElem
  · simp
  · intro k h1 h2
    simp only [rmA_len] at h2
    rw [List.getElem_set]
    split
    · rename_i hk
      subst hk
      simp [rmA, rml, ix_div hj, ix_mod hj, updG]
    · rename_i hk
      simp only [rmA, rml, List.getElem_map, List.getElem_range, updG]
      rw [if_neg]
      rintro ⟨h3, h4⟩
      apply hk
      have := Nat.div_add_mod k c
      rw [h3, h4, Nat.mul_comm] at this
      exact this
/-- the place of the greatest number without its sign, among the first -/
def moN (x : List Nat) : Nat → Nat
  | 0 => 0
  | k + 1 => if k = 0 then 0 else if flt (absF (x.getD (moN x k) 0)) (absF (x.getD k 0)) then k else moN x k
end Go.Sx

set_option linter.unusedVariables false
set_option linter.unusedSimpArgs false
namespace Go.Sx
theorem OldOk.set2 {H N N' : List (List AV)} {n b : Nat} {X Y : List AV} (hb : b < H.length) (h : n ≤ H.length) (hm : mxL Y ≤ n) : OldOk n (H.set b X ++ N) (H.set b Y ++ N') := by
  have := OldOk.set (A := H.set b X) (N := N) (N' := N') (n := n) (i := b) (cs := Y) (by simpa using h) hm
  rwa [List.set_set] at this
/-! ### the factors, step by step -/
def colK (g : Nat → Nat → Nat) (k n : Nat) : List Nat := rml (fun i => g (k + i) k) (n - k)
@[simp] theorem colK_len (g : Nat → Nat → Nat) (k n : Nat) : (colK g k n).length = n - k := by simp [colK]
def pvK (g : Nat → Nat → Nat) (k n : Nat) : Nat := k + moN (colK g k n) (n - k)
def swK (g : Nat → Nat → Nat) (k n : Nat) : Nat → Nat → Nat := swpG g k (pvK g k n)
def divG (g : Nat → Nat → Nat) (k : Nat) : Nat → Nat → Nat := fun i j => if k < i ∧ j = k then fdiv (g i k) (g k k) else g i j
def subG (g : Nat → Nat → Nat) (k : Nat) : Nat → Nat → Nat := fun i j => if k < i ∧ k < j then fsub (g i j) (fmul (g i k) (g k j)) else g i j
def elG (g : Nat → Nat → Nat) (k : Nat) : Nat → Nat → Nat := subG (divG g k) k
def stG (g : Nat → Nat → Nat) (n : Nat) : Nat → Nat → Nat → Nat
  | 0 => g
  | k + 1 => elG (swK (stG g n k) k n) k
def pvL (g : Nat → Nat → Nat) (n k : Nat) : List Int := (List.range k).map fun t => (pvK (stG g n t) t n : Int)
@[simp] theorem pvL_len (g : Nat → Nat → Nat) (n k : Nat) : (pvL g n k).length = k := by simp [pvL]
end Go.Sx

set_option linter.unusedVariables false
set_option linter.unusedSimpArgs false
namespace Go.Sx
section
variable {P : Program} {cfg : Cfg} {e : List (Nat × EV)} {L : List (Nat × List AV)} {H N : List (List AV)} {K : St → Prop}
variable {ty : TypeId} {pos : String} {aft : Array Edge} {gd : Option (Nat × Bool)} {dd : Nat}
end
theorem v_to {e : List (Nat × EV)} {L : List (Nat × List AV)} {H : List (List AV)} {K : St → Prop} {dd : Nat} (n' : Int) {n : Int} (hw : -9223372036854775808 ≤ n ∧ n ≤ 9223372036854775807) (hn : n = n') (h : K ⟨(dd, .val (.int .i64 n')) :: e, L, H⟩) : valK dd K ⟨e, L, H⟩ (some (True, .int .i64 (IntKind.i64.wrap n))) := by
  subst hn; exact v_w hw h
/-! ### a list that grows while others, too, have become -/
end Go.Sx

set_option linter.unusedVariables false
set_option linter.unusedSimpArgs false
namespace Go.Sx
/-! ### a square in a list of its own, column by column -/
/-! ### what the loop leaves behind -/
def lcK (g : Nat → Nat → Nat) (k n : Nat) : List Nat := rml (fun i => g (k + 1 + i) k) (n - (k + 1))
def urK (g : Nat → Nat → Nat) (k t : Nat) : List Nat := rml (fun j => g k (k + 1 + j)) t
@[simp] theorem lcK_len (g : Nat → Nat → Nat) (k n : Nat) : (lcK g k n).length = n - (k + 1) := by simp [lcK]
@[simp] theorem urK_len (g : Nat → Nat → Nat) (k t : Nat) : (urK g k t).length = t := by simp [urK]
end Go.Sx

set_option linter.unusedVariables false
set_option linter.unusedSimpArgs false
namespace Go.Sx
/-! ### pivots -/
def pivP (p : List Int) : Prop := ∀ k, k < p.length → ((k : Int) ≤ p.getD k 0 ∧ p.getD k 0 < p.length)
instance (p : List Int) : Decidable (pivP p) := by unfold pivP; infer_instance
end Go.Sx

set_option linter.unusedVariables false
set_option linter.unusedSimpArgs false
namespace Go.Sx
/-! ### triangular systems, number by number -/
/-- lower, column by column -/
def lo1 (a : Nat → Nat → Nat) (f : Nat → Nat) : Nat → Nat → Nat
  | 0 => f
  | j + 1 => fun i => if j < i then fsub (lo1 a f j i) (fmul (a i j) (lo1 a f j j)) else lo1 a f j i
/-! ### a vector within a list -/
def setV (l : List Nat) (off inc : Int) (n : Nat) (f : Nat → Nat) : List Nat := setM l off inc 1 n (fun _ j => f j)
@[simp] theorem setV_len (l : List Nat) (off inc : Int) (n : Nat) (f : Nat → Nat) : (setV l off inc n f).length = l.length := by simp [setV]
section
variable {l : List Nat} {off inc : Int} {n : Nat} (hR : RightP l.length off n inc)
end
end Go.Sx

set_option linter.unusedVariables false
set_option linter.unusedSimpArgs false
namespace Go.Sx
/-- have two stretches a place in common? -/
def SpansP (a b c d : Int) : Prop := a ≤ b ∧ c ≤ d ∧ a ≤ d ∧ c ≤ b
instance (a b c d : Int) : Decidable (SpansP a b c d) := by unfold SpansP; infer_instance
end Go.Sx

set_option linter.unusedVariables false
set_option linter.unusedSimpArgs false
namespace Go.Sx
/-! ### L and U, filled number by number; the rows' order -/
def befo (i0 j0 i j : Nat) : Prop := i < i0 ∨ (i = i0 ∧ j < j0)
instance (i0 j0 i j : Nat) : Decidable (befo i0 j0 i j) := by unfold befo; infer_instance
theorem rep_rm (r c : Nat) : List.replicate (r * c) 0 = rmA (fun _ _ => 0) r c := by
  apply List.ext_getElem
  · simp
  · intro i h1 h2
    simp [rmA, rml]
/-- which row is at each place, after so many steps -/
def ordS (p : List Int) : Nat → List Int
  | 0 => (List.range p.length).map fun k : Nat => (k : Int)
  | k + 1 => ((ordS p k).set k ((ordS p k).getD (p.getD k 0).toNat 0)).set (p.getD k 0).toNat ((ordS p k).getD k 0)
@[simp] theorem ordS_len (p : List Int) : ∀ k, (ordS p k).length = p.length
  | 0 => by simp [ordS]
  | k + 1 => by simp [ordS, ordS_len p k]
def ixL (k : Nat) : List Int := (List.range k).map fun k : Nat => (k : Int)
@[simp] theorem ixL_len (k : Nat) : (ixL k).length = k := by simp [ixL]
end Go.Sx

set_option linter.unusedVariables false
set_option linter.unusedSimpArgs false
set_option maxRecDepth 20000
namespace Go.Sx
open Go.Proofs

/-! ### a float's bits -/
theorem bits_run (b : Nat) (w : World) : (callFunc 22 #[.float .f64 b]).run Try.prog w = .ok (.value (.int .u64 b)) w := by
  rw [run_callFunc_extern (fn := Try.f22) Try.func22 (by kernel_rfl) (by kernel_rfl) (by kernel_rfl) (e := Extern.MathFloatBits.float64bits) (by kernel_rfl)]
  rfl
theorem bits_c (H : List (List AV)) (b : Nat) : CSpec Try.prog 22 [.fraw b] H (.int .u64 b) H := by
  refine .inr ⟨rfl, fun w g cargs h => ?_⟩
  simp only [LRep] at h
  obtain ⟨v, r, hv, h1, rfl⟩ := h
  simp only [VRep] at h1
  obtain ⟨rfl, _⟩ := h1
  have : cargs = #[.float .f64 b] := Array.ext' hv
  subst this
  exact ⟨_, bits_run b w, by simp [VRep]⟩
attribute [local irreducible] Ex exOps exD opX opE thenX blkX RetQ Spec CSpec Fr condK guardK guardD ckK valK pickK loadK faK callK argK gK fK rK RetV lpX prK

set_option maxHeartbeats 4000000 in
theorem fits_c (H : List (List AV)) (size off steps step more : Int) (h0 : 0 ≤ size) (hs : size ≤ 9223372036854775807) (h1 : 0 ≤ more) (h2 : 0 ≤ steps) (h3 : 1 ≤ step) (hm : more ≤ 2 ^ 63 - 1) (ho : off ≤ 2^63 -1) (ho' : -(2^63) ≤ off) (hst : step ≤ 2^63 - 1) :
    CSpec Try.prog 32 [.int .i64 size, .int .i64 off, .int .i64 steps, .int .i64 step, .int .i64 more] H (.bool (decide (0 ≤ off ∧ off < size ∧ more < size - off ∧ steps * step ≤ size - 1 - off - more))) H := by
  refine .mk (fun args w => Try.call32 args w) (Spec.intro' (fn := Try.f32) Try.func32 rfl (by kernel_rfl) (by simp) false [] (draw := drawX Try.prog ⟨false, _, []⟩) dOk ?_)
  simp only [argE, Nat.reduceAdd]
  repeat' (first
    | (refine gateE ?_; (first | (refine b_c0 ?_; (first | refine b_move (by (conv => {lhs; whnf}); done) ?_ | (refine b_bin (by (conv => {lhs; whnf}); done) (by (conv => {lhs; whnf}); done) (by (conv => {lhs; whnf}); done) ?_; (first | refine v_T (by omega) ?_ | refine v_F (by omega) ?_ | refine v_w (by omega) ?_ | refine v_wu (by omega) ?_ | refine v_qc (by omega) (by omega) ?_ | refine v_k ?_ | refine v_c (by omega) ?_ | fail)) | (refine b_pick (by (conv => {lhs; whnf}); done) ?_; (first | refine p_T (by (conv => {lhs; whnf}); done) ?_ | refine p_F (by (conv => {lhs; whnf}); done) ?_ | fail)) | refine b_assignF (by kernel_rfl) ?_ | refine b_assignI ?_ | refine b_assignN ?_ | refine b_assign (by (conv => {lhs; whnf}); done) ?_ | fail)) | refine b_nil ?_ | refine b_gT (by exact rfl) (by exact rfl) ?_ | refine b_gF (by exact rfl) (by exact rfl) (by exact rfl) ?_ | refine b_gU (by exact rfl) (by exact rfl) (by constructor <;> simp) (by exact rfl) (by exact rfl) ?_ | (refine b_g0 (by exact rfl) (by exact rfl) (by (conv => {lhs; whnf}); done) ?_; (first | refine g_TT ?_ | refine g_FF ?_ | refine g_TF ?_ | refine g_FT ?_ | refine g_PT ?_ ?_ | refine g_PF ?_ ?_ | refine g_BT ?_ ?_ | refine g_BF ?_ ?_ | fail)) | (refine b_g1 (by exact rfl) (by exact rfl) (by exact rfl) (by (conv => {lhs; whnf}); done) ?_; (first | refine g_TT ?_ | refine g_FF ?_ | refine g_TF ?_ | refine g_FT ?_ | refine g_PT ?_ ?_ | refine g_PF ?_ ?_ | refine g_BT ?_ ?_ | refine g_BF ?_ ?_ | fail)) | refine b_c1 (by exact rfl) ?_ | fail))
    | (refine gateO ?_; (first | refine b_move (by (conv => {lhs; whnf}); done) ?_ | (refine b_bin (by (conv => {lhs; whnf}); done) (by (conv => {lhs; whnf}); done) (by (conv => {lhs; whnf}); done) ?_; (first | refine v_T (by omega) ?_ | refine v_F (by omega) ?_ | refine v_w (by omega) ?_ | refine v_wu (by omega) ?_ | refine v_qc (by omega) (by omega) ?_ | refine v_k ?_ | refine v_c (by omega) ?_ | fail)) | (refine b_pick (by (conv => {lhs; whnf}); done) ?_; (first | refine p_T (by (conv => {lhs; whnf}); done) ?_ | refine p_F (by (conv => {lhs; whnf}); done) ?_ | fail)) | refine b_assignF (by kernel_rfl) ?_ | refine b_assignI ?_ | refine b_assignN ?_ | refine b_assign (by (conv => {lhs; whnf}); done) ?_ | fail))
    | (refine gateT ?_; (first | refine b_thn ?_ | refine b_thr ?_ | refine b_the ?_ | fail))
    | (refine gateX ?_; (first | refine b_seq ?_ | refine b_region ?_ | (refine b_cond (by (conv => {lhs; whnf}); done) ?_; (first | refine c_T ?_ | refine c_F ?_ | refine c_P ?_ ?_ | refine c_B ?_ ?_ | fail)) | refine b_ret ?_ | refine b_skip ?_ | refine b_block ?_ | refine b_exit ?_ | fail))
    | (refine gateQ ?_; refine b_retK (by simp) (by (conv => {lhs; whnf}); done) ?_)
    | (refine gateR ?_; (first | refine rk_tmp (by (conv => {lhs; whnf}); done) ?_ | refine rk_cellA (by (conv => {lhs; whnf}); done) (by exact rfl) (by exact rfl) ?_ | refine rk_cell1 (by (conv => {lhs; whnf}); done) (by exact rfl) (by exact rfl) ?_ | refine rk_nil ?_ | fail))
    | intro _)
  all_goals first | refine rv_old rfl (by simp [mx, mxL, aOf, aOf1, resOne]) ?_ | (trace_state; fail)
  all_goals first
    | exact rtF (by omega)
    | (refine rvP ?_; rw [Int.le_ediv_iff_mul_le (by omega)]; omega)

set_option maxHeartbeats 4000000 in
theorem good_c (H : List (List AV)) (D : AV) (n : Nat) (off rows cols ld : Int) (hD : slen D = some n) (hI : MI n off rows cols ld) :
    CSpec Try.prog 23 [mt D off rows cols ld] H (.bool (decide (GoodP n off rows cols ld))) H := by
  obtain ⟨hn, ho1, ho2, hr1, hr2, hc1, hc2, hl1, hl2⟩ := id hI
  refine .mk (fun args w => Try.call23 args w) (Spec.intro' (fn := Try.f23) Try.func23 rfl (by kernel_rfl) (by simp) false [] (draw := drawX Try.prog ⟨false, _, []⟩) dOk ?_)
  simp only [argE, Nat.reduceAdd]
  repeat' (first
    | (refine gateE ?_; (first | (refine b_c0 ?_; (first | refine b_move (by (conv => {lhs; whnf}); done) ?_ | (refine b_fa (by (conv => {lhs; whnf}); done) ?_; first | refine f_loc (by (conv => {lhs; whnf}); done) ?_ | refine f_ptr (by (conv => {lhs; whnf}); done) ?_) | (refine b_load (by (conv => {lhs; whnf}); done) ?_; (first | refine l_loc1 (by exact rfl) (by exact rfl) ?_ | refine l_locA (by exact rfl) (by exact rfl) ?_ | fail)) | (refine b_binB (by first | (conv => {lhs; whnf}; done) | exact (by exact rfl) | fail) (by first | (conv => {lhs; whnf}; done) | exact (by exact rfl) | fail) ?_; (first | refine v_bbT (by exact rfl) ?_ | refine v_k ?_ | fail)) | (refine b_bin (by (conv => {lhs; whnf}); done) (by (conv => {lhs; whnf}); done) (by (conv => {lhs; whnf}); done) ?_; (first | refine v_eT (by omega) ?_ | refine v_eF (by omega) ?_ | refine v_eP ?_ | refine v_T (by omega) ?_ | refine v_F (by omega) ?_ | refine v_w (by omega) ?_ | refine v_wu (by omega) ?_ | refine v_k ?_ | refine v_c (by omega) ?_ | fail)) | (refine b_pick (by (conv => {lhs; whnf}); done) ?_; (first | refine p_T (by (conv => {lhs; whnf}); done) ?_ | refine p_F (by (conv => {lhs; whnf}); done) ?_ | fail)) | refine b_assignF (by kernel_rfl) ?_ | refine b_assignI ?_ | refine b_assignN ?_ | refine b_assign (by (conv => {lhs; whnf}); done) ?_ | refine b_callB ?_ | refine b_lenA (by (conv => {lhs; whnf}); done) (by first | rfl | assumption) ?_ | refine b_box (by (conv => {lhs; whnf}); done) (by exact rfl) (by exact rfl) (by exact rfl) (by exact rfl) ?_ | fail)) | refine b_nil ?_ | refine b_gT (by exact rfl) (by exact rfl) ?_ | refine b_gF (by exact rfl) (by exact rfl) (by exact rfl) ?_ | refine b_gU (by exact rfl) (by exact rfl) (by constructor <;> simp) (by exact rfl) (by exact rfl) ?_ | (refine b_g0 (by exact rfl) (by exact rfl) (by (conv => {lhs; whnf}); done) ?_; (first | refine g_TT ?_ | refine g_FF ?_ | refine g_TF ?_ | refine g_FT ?_ | refine g_PT ?_ ?_ | refine g_PF ?_ ?_ | refine g_BT ?_ ?_ | refine g_BF ?_ ?_ | fail)) | (refine b_g1 (by exact rfl) (by exact rfl) (by exact rfl) (by (conv => {lhs; whnf}); done) ?_; (first | refine g_TT ?_ | refine g_FF ?_ | refine g_TF ?_ | refine g_FT ?_ | refine g_PT ?_ ?_ | refine g_PF ?_ ?_ | refine g_BT ?_ ?_ | refine g_BF ?_ ?_ | fail)) | refine b_c1 (by exact rfl) ?_ | fail))
    | (refine gateO ?_; (first | refine b_move (by (conv => {lhs; whnf}); done) ?_ | (refine b_fa (by (conv => {lhs; whnf}); done) ?_; first | refine f_loc (by (conv => {lhs; whnf}); done) ?_ | refine f_ptr (by (conv => {lhs; whnf}); done) ?_) | (refine b_load (by (conv => {lhs; whnf}); done) ?_; (first | refine l_loc1 (by exact rfl) (by exact rfl) ?_ | refine l_locA (by exact rfl) (by exact rfl) ?_ | fail)) | (refine b_binB (by first | (conv => {lhs; whnf}; done) | exact (by exact rfl) | fail) (by first | (conv => {lhs; whnf}; done) | exact (by exact rfl) | fail) ?_; (first | refine v_bbT (by exact rfl) ?_ | refine v_k ?_ | fail)) | (refine b_bin (by (conv => {lhs; whnf}); done) (by (conv => {lhs; whnf}); done) (by (conv => {lhs; whnf}); done) ?_; (first | refine v_eT (by omega) ?_ | refine v_eF (by omega) ?_ | refine v_eP ?_ | refine v_T (by omega) ?_ | refine v_F (by omega) ?_ | refine v_w (by omega) ?_ | refine v_wu (by omega) ?_ | refine v_k ?_ | refine v_c (by omega) ?_ | fail)) | (refine b_pick (by (conv => {lhs; whnf}); done) ?_; (first | refine p_T (by (conv => {lhs; whnf}); done) ?_ | refine p_F (by (conv => {lhs; whnf}); done) ?_ | fail)) | refine b_assignF (by kernel_rfl) ?_ | refine b_assignI ?_ | refine b_assignN ?_ | refine b_assign (by (conv => {lhs; whnf}); done) ?_ | refine b_callB ?_ | refine b_lenA (by (conv => {lhs; whnf}); done) (by first | rfl | assumption) ?_ | refine b_box (by (conv => {lhs; whnf}); done) (by exact rfl) (by exact rfl) (by exact rfl) (by exact rfl) ?_ | fail))
    | (refine gateT ?_; (first | refine b_thn ?_ | refine b_thr ?_ | refine b_the ?_ | fail))
    | (refine gateX ?_; (first | refine b_seq ?_ | refine b_region ?_ | (refine b_cond (by (conv => {lhs; whnf}); done) ?_; (first | refine c_T ?_ | refine c_F ?_ | refine c_P ?_ ?_ | refine c_B ?_ ?_ | fail)) | refine b_ret ?_ | refine b_skip ?_ | refine b_block ?_ | refine b_exit ?_ | fail))
    | refine a_cons (by (conv => {lhs; whnf}); done) ?_
    | refine a_nil ?_
    | (refine gateK ?_; (first | refine c_call (fits_c _ _ _ _ _ _ (by omega) (by omega) (by omega) (by omega) (by omega) (by omega) (by omega) (by omega) (by omega)) (OldOk.refl _ _) ?_ | fail))
    | (refine gateQ ?_; refine b_retK (by simp) (by (conv => {lhs; whnf}); done) ?_)
    | (refine gateR ?_; (first | refine rk_tmp (by (conv => {lhs; whnf}); done) ?_ | refine rk_cellA (by (conv => {lhs; whnf}); done) (by exact rfl) (by exact rfl) ?_ | refine rk_cell1 (by (conv => {lhs; whnf}); done) (by exact rfl) (by exact rfl) ?_ | refine rk_nil ?_ | fail))
    | intro _)
  all_goals first | refine rv_old rfl (by simp [mx, mxL, aOf, aOf1, resOne]) ?_ | (trace_state; fail)
  all_goals first
    | exact rtF (by unfold GoodP; omega)
    | exact rtT (by unfold GoodP; omega)
    | exact rvP (by unfold GoodP; omega)

set_option maxHeartbeats 4000000 in
theorem place_c (H : List (List AV)) (D : AV) (n : Nat) (off rows cols ld : Int) (hD : slen D = some n) (hI : MI n off rows cols ld) (i j : Int) (hi1 : -9223372036854775808 ≤ i) (hi2 : i ≤ 9223372036854775807) (hj1 : -9223372036854775808 ≤ j) (hj2 : j ≤ 9223372036854775807) :
    CSpec Try.prog 33 [mt D off rows cols ld, .int .i64 i, .int .i64 j] H (.int .i64 (plV n off rows cols ld i j)) H := by
  obtain ⟨hn, ho1, ho2, hr1, hr2, hc1, hc2, hl1, hl2⟩ := id hI
  refine .mk (fun args w => Try.call33 args w) (Spec.intro' (fn := Try.f33) Try.func33 rfl (by kernel_rfl) (by simp) false [] (draw := drawX Try.prog ⟨false, _, []⟩) dOk ?_)
  simp only [argE, Nat.reduceAdd]
  repeat' (first
    | (refine gateE ?_; (first | (refine b_c0 ?_; (first | refine b_move (by (conv => {lhs; whnf}); done) ?_ | (refine b_fa (by (conv => {lhs; whnf}); done) ?_; first | refine f_loc (by (conv => {lhs; whnf}); done) ?_ | refine f_ptr (by (conv => {lhs; whnf}); done) ?_) | (refine b_load (by (conv => {lhs; whnf}); done) ?_; (first | refine l_loc1 (by exact rfl) (by exact rfl) ?_ | refine l_locA (by exact rfl) (by exact rfl) ?_ | fail)) | (refine b_bin (by (conv => {lhs; whnf}); done) (by (conv => {lhs; whnf}); done) (by (conv => {lhs; whnf}); done) ?_; (first | refine v_w (by have hp := good_place (Decidable.not_not.1 (by assumption)) (i := i) (j := j) (by omega) (by omega) (by omega) (by omega); omega) ?_ | refine v_T (by omega) ?_ | refine v_F (by omega) ?_ | refine v_w (by omega) ?_ | refine v_wu (by omega) ?_ | refine v_nT ?_ | refine v_nF ?_ | refine v_nP ?_ | refine v_k ?_ | refine v_c (by omega) ?_ | fail)) | (refine b_pick (by (conv => {lhs; whnf}); done) ?_; (first | refine p_T (by (conv => {lhs; whnf}); done) ?_ | refine p_F (by (conv => {lhs; whnf}); done) ?_ | fail)) | refine b_assignF (by kernel_rfl) ?_ | refine b_assignI ?_ | refine b_assignN ?_ | refine b_assign (by (conv => {lhs; whnf}); done) ?_ | (refine b_un (by (conv => {lhs; whnf}); done) (by (conv => {lhs; whnf}); done) ?_; (first | refine v_w (by have hp := good_place (Decidable.not_not.1 (by assumption)) (i := i) (j := j) (by omega) (by omega) (by omega) (by omega); omega) ?_ | refine v_T (by omega) ?_ | refine v_F (by omega) ?_ | refine v_w (by omega) ?_ | refine v_wu (by omega) ?_ | refine v_nT ?_ | refine v_nF ?_ | refine v_nP ?_ | refine v_k ?_ | refine v_c (by omega) ?_ | fail)) | refine b_callB ?_ | refine b_box (by (conv => {lhs; whnf}); done) (by exact rfl) (by exact rfl) (by exact rfl) (by exact rfl) ?_ | fail)) | refine b_nil ?_ | refine b_gT (by exact rfl) (by exact rfl) ?_ | refine b_gF (by exact rfl) (by exact rfl) (by exact rfl) ?_ | refine b_gU (by exact rfl) (by exact rfl) (by constructor <;> simp) (by exact rfl) (by exact rfl) ?_ | (refine b_g0 (by exact rfl) (by exact rfl) (by (conv => {lhs; whnf}); done) ?_; (first | refine g_TT ?_ | refine g_FF ?_ | refine g_TF ?_ | refine g_FT ?_ | refine g_PT ?_ ?_ | refine g_PF ?_ ?_ | refine g_BT ?_ ?_ | refine g_BF ?_ ?_ | fail)) | (refine b_g1 (by exact rfl) (by exact rfl) (by exact rfl) (by (conv => {lhs; whnf}); done) ?_; (first | refine g_TT ?_ | refine g_FF ?_ | refine g_TF ?_ | refine g_FT ?_ | refine g_PT ?_ ?_ | refine g_PF ?_ ?_ | refine g_BT ?_ ?_ | refine g_BF ?_ ?_ | fail)) | refine b_c1 (by exact rfl) ?_ | fail))
    | (refine gateO ?_; (first | refine b_move (by (conv => {lhs; whnf}); done) ?_ | (refine b_fa (by (conv => {lhs; whnf}); done) ?_; first | refine f_loc (by (conv => {lhs; whnf}); done) ?_ | refine f_ptr (by (conv => {lhs; whnf}); done) ?_) | (refine b_load (by (conv => {lhs; whnf}); done) ?_; (first | refine l_loc1 (by exact rfl) (by exact rfl) ?_ | refine l_locA (by exact rfl) (by exact rfl) ?_ | fail)) | (refine b_bin (by (conv => {lhs; whnf}); done) (by (conv => {lhs; whnf}); done) (by (conv => {lhs; whnf}); done) ?_; (first | refine v_w (by have hp := good_place (Decidable.not_not.1 (by assumption)) (i := i) (j := j) (by omega) (by omega) (by omega) (by omega); omega) ?_ | refine v_T (by omega) ?_ | refine v_F (by omega) ?_ | refine v_w (by omega) ?_ | refine v_wu (by omega) ?_ | refine v_nT ?_ | refine v_nF ?_ | refine v_nP ?_ | refine v_k ?_ | refine v_c (by omega) ?_ | fail)) | (refine b_pick (by (conv => {lhs; whnf}); done) ?_; (first | refine p_T (by (conv => {lhs; whnf}); done) ?_ | refine p_F (by (conv => {lhs; whnf}); done) ?_ | fail)) | refine b_assignF (by kernel_rfl) ?_ | refine b_assignI ?_ | refine b_assignN ?_ | refine b_assign (by (conv => {lhs; whnf}); done) ?_ | (refine b_un (by (conv => {lhs; whnf}); done) (by (conv => {lhs; whnf}); done) ?_; (first | refine v_w (by have hp := good_place (Decidable.not_not.1 (by assumption)) (i := i) (j := j) (by omega) (by omega) (by omega) (by omega); omega) ?_ | refine v_T (by omega) ?_ | refine v_F (by omega) ?_ | refine v_w (by omega) ?_ | refine v_wu (by omega) ?_ | refine v_nT ?_ | refine v_nF ?_ | refine v_nP ?_ | refine v_k ?_ | refine v_c (by omega) ?_ | fail)) | refine b_callB ?_ | refine b_box (by (conv => {lhs; whnf}); done) (by exact rfl) (by exact rfl) (by exact rfl) (by exact rfl) ?_ | fail))
    | (refine gateT ?_; (first | refine b_thn ?_ | refine b_thr ?_ | refine b_the ?_ | fail))
    | (refine gateX ?_; (first | refine b_seq ?_ | refine b_region ?_ | (refine b_cond (by (conv => {lhs; whnf}); done) ?_; (first | refine c_T ?_ | refine c_F ?_ | refine c_P ?_ ?_ | refine c_B ?_ ?_ | fail)) | refine b_ret ?_ | refine b_skip ?_ | refine b_block ?_ | refine b_exit ?_ | fail))
    | refine a_cons (by (conv => {lhs; whnf}); done) ?_
    | refine a_nil ?_
    | (refine gateK ?_; (first | refine c_call (good_c _ D n off rows cols ld hD hI) (OldOk.refl _ _) ?_ | fail))
    | (refine gateQ ?_; refine b_retK (by simp) (by (conv => {lhs; whnf}); done) ?_)
    | (refine gateR ?_; (first | refine rk_tmp (by (conv => {lhs; whnf}); done) ?_ | refine rk_cellA (by (conv => {lhs; whnf}); done) (by exact rfl) (by exact rfl) ?_ | refine rk_cell1 (by (conv => {lhs; whnf}); done) (by exact rfl) (by exact rfl) ?_ | refine rk_nil ?_ | fail))
    | intro _)
  all_goals first | refine rv_old rfl (by simp [mx, mxL, aOf, aOf1, resOne]) ?_ | (trace_state; fail)
  all_goals (unfold plV; simp only [resOne, List.nil_append, List.cons_append, aOf, aOf1])
  all_goals first
    | (have hp : ¬ PlaceP n off rows cols ld i j := by (rintro ⟨h1, h2, h3, h4, h5⟩; first | contradiction | omega)
       rw [if_neg hp]; done)
    | (have hp : PlaceP n off rows cols ld i j := by (refine ⟨Decidable.not_not.1 (by assumption), ?_, ?_, ?_, ?_⟩ <;> omega)
       rw [if_pos hp]; done)

def pNeg (b : Nat) : Bool := decide ((b : Int) / 9223372036854775808 = 1)
def pE₀ (b : Nat) : Int := (b : Int) / 4503599627370496 % 2048
def pM₀ (b : Nat) : Int := (b : Int) % 4503599627370496
def pM (b : Nat) : Int := if pE₀ b = 2047 then 0 else if pE₀ b = 0 then pM₀ b else pM₀ b + 4503599627370496
def pE (b : Nat) : Int := if pE₀ b = 2047 then 0 else if pE₀ b = 0 then -1074 else pE₀ b - 1075
def pK (b : Nat) : Int := if pE₀ b = 2047 ∧ pM₀ b = 0 then 1 else if pE₀ b = 2047 then 2 else 0
set_option maxHeartbeats 4000000 in
theorem parts_c (H : List (List AV)) (b : Nat) (hb : b < 2 ^ 64) :
    CSpec Try.prog 21 [.fraw b] H (.tup [.bool (pNeg b), .int .u64 (pM b), .int .i64 (pE b), .int .i64 (pK b)]) H := by
  refine .mk (fun args w => Try.call21 args w) (Spec.intro' (fn := Try.f21) Try.func21 rfl (by kernel_rfl) (by simp) false [] (draw := drawX Try.prog ⟨false, _, []⟩) dOk ?_)
  simp only [argE, Nat.reduceAdd]
  repeat' (first
    | (refine gateE ?_; (first | (refine b_c0 ?_; (first | refine b_move (by (conv => {lhs; whnf}); done) ?_ | (refine b_binB (by first | (conv => {lhs; whnf}; done) | exact (by exact rfl) | fail) (by first | (conv => {lhs; whnf}; done) | exact (by exact rfl) | fail) ?_; (first | refine v_bbT (by exact rfl) ?_ | refine v_k ?_ | fail)) | (refine b_bin (by (conv => {lhs; whnf}); done) (by (conv => {lhs; whnf}); done) (by (conv => {lhs; whnf}); done) ?_; (first | refine v_eT (by omega) ?_ | refine v_eF (by omega) ?_ | refine v_eP ?_ | refine v_w (by omega) ?_ | refine v_wu (by omega) ?_ | refine v_shr (by omega) (by decide) (by (conv => {lhs; simp [IntKind.bits]}); done) ?_ | refine v_mod (by omega) (by omega) ?_ | refine v_k ?_ | refine v_c (by omega) ?_ | fail)) | (refine b_pick (by (conv => {lhs; whnf}); done) ?_; (first | refine p_T (by (conv => {lhs; whnf}); done) ?_ | refine p_F (by (conv => {lhs; whnf}); done) ?_ | fail)) | refine b_assignF (by kernel_rfl) ?_ | refine b_assignI ?_ | refine b_assignN ?_ | refine b_assign (by (conv => {lhs; whnf}); done) ?_ | refine b_callB ?_ | (refine b_cnvI (by first | (conv => {lhs; whnf}; done) | exact (by exact rfl) | fail) ?_; (first | refine v_eT (by omega) ?_ | refine v_eF (by omega) ?_ | refine v_eP ?_ | refine v_w (by omega) ?_ | refine v_wu (by omega) ?_ | refine v_shr (by omega) (by decide) (by (conv => {lhs; simp [IntKind.bits]}); done) ?_ | refine v_mod (by omega) (by omega) ?_ | refine v_k ?_ | refine v_c (by omega) ?_ | fail)) | refine b_cnvF (by (conv => {lhs; whnf}); done) (by exact rfl) ?_ | refine b_cnvIF (by (conv => {lhs; whnf}); done) ?_ | fail)) | refine b_nil ?_ | refine b_gT (by exact rfl) (by exact rfl) ?_ | refine b_gF (by exact rfl) (by exact rfl) (by exact rfl) ?_ | refine b_gU (by exact rfl) (by exact rfl) (by constructor <;> simp) (by exact rfl) (by exact rfl) ?_ | (refine b_g0 (by exact rfl) (by exact rfl) (by (conv => {lhs; whnf}); done) ?_; (first | refine g_TT ?_ | refine g_FF ?_ | refine g_TF ?_ | refine g_FT ?_ | refine g_PT ?_ ?_ | refine g_PF ?_ ?_ | refine g_BT ?_ ?_ | refine g_BF ?_ ?_ | fail)) | (refine b_g1 (by exact rfl) (by exact rfl) (by exact rfl) (by (conv => {lhs; whnf}); done) ?_; (first | refine g_TT ?_ | refine g_FF ?_ | refine g_TF ?_ | refine g_FT ?_ | refine g_PT ?_ ?_ | refine g_PF ?_ ?_ | refine g_BT ?_ ?_ | refine g_BF ?_ ?_ | fail)) | refine b_c1 (by exact rfl) ?_ | fail))
    | (refine gateO ?_; (first | refine b_move (by (conv => {lhs; whnf}); done) ?_ | (refine b_binB (by first | (conv => {lhs; whnf}; done) | exact (by exact rfl) | fail) (by first | (conv => {lhs; whnf}; done) | exact (by exact rfl) | fail) ?_; (first | refine v_bbT (by exact rfl) ?_ | refine v_k ?_ | fail)) | (refine b_bin (by (conv => {lhs; whnf}); done) (by (conv => {lhs; whnf}); done) (by (conv => {lhs; whnf}); done) ?_; (first | refine v_eT (by omega) ?_ | refine v_eF (by omega) ?_ | refine v_eP ?_ | refine v_w (by omega) ?_ | refine v_wu (by omega) ?_ | refine v_shr (by omega) (by decide) (by (conv => {lhs; simp [IntKind.bits]}); done) ?_ | refine v_mod (by omega) (by omega) ?_ | refine v_k ?_ | refine v_c (by omega) ?_ | fail)) | (refine b_pick (by (conv => {lhs; whnf}); done) ?_; (first | refine p_T (by (conv => {lhs; whnf}); done) ?_ | refine p_F (by (conv => {lhs; whnf}); done) ?_ | fail)) | refine b_assignF (by kernel_rfl) ?_ | refine b_assignI ?_ | refine b_assignN ?_ | refine b_assign (by (conv => {lhs; whnf}); done) ?_ | refine b_callB ?_ | (refine b_cnvI (by first | (conv => {lhs; whnf}; done) | exact (by exact rfl) | fail) ?_; (first | refine v_eT (by omega) ?_ | refine v_eF (by omega) ?_ | refine v_eP ?_ | refine v_w (by omega) ?_ | refine v_wu (by omega) ?_ | refine v_shr (by omega) (by decide) (by (conv => {lhs; simp [IntKind.bits]}); done) ?_ | refine v_mod (by omega) (by omega) ?_ | refine v_k ?_ | refine v_c (by omega) ?_ | fail)) | refine b_cnvF (by (conv => {lhs; whnf}); done) (by exact rfl) ?_ | refine b_cnvIF (by (conv => {lhs; whnf}); done) ?_ | fail))
    | (refine gateT ?_; (first | refine b_thn ?_ | refine b_thr ?_ | refine b_the ?_ | fail))
    | (refine gateX ?_; (first | refine b_seq ?_ | refine b_region ?_ | (refine b_cond (by (conv => {lhs; whnf}); done) ?_; (first | refine c_T ?_ | refine c_F ?_ | refine c_P ?_ ?_ | refine c_B ?_ ?_ | fail)) | refine b_ret ?_ | refine b_skip ?_ | refine b_block ?_ | refine b_exit ?_ | fail))
    | refine a_cons (by (conv => {lhs; whnf}); done) ?_
    | refine a_nil ?_
    | (refine gateK ?_; (first | refine c_call (bits_c _ _) (OldOk.refl _ _) ?_ | fail))
    | (refine gateQ ?_; refine b_retK (by simp) (by (conv => {lhs; whnf}); done) ?_)
    | (refine gateR ?_; (first | refine rk_tmp (by (conv => {lhs; whnf}); done) ?_ | refine rk_cellA (by (conv => {lhs; whnf}); done) (by exact rfl) (by exact rfl) ?_ | refine rk_cell1 (by (conv => {lhs; whnf}); done) (by exact rfl) (by exact rfl) ?_ | refine rk_nil ?_ | fail))
    | intro _)
  all_goals first | refine rv_old rfl (by simp [mx, mxL, aOf, aOf1, resOne]) ?_ | (trace_state; fail)
  all_goals (simp only [resOne, List.nil_append, List.cons_append, aOf, aOf1, pM, pE, pK, pNeg, pE₀, pM₀] at *; simp_all)


theorem isNaN_iff (b : Nat) : isNaN b = true ↔ 9218868437227405312 < b % 9223372036854775808 := by
  have e1 : Ieee.double.signWeight = 9223372036854775808 := by decide
  have e2 : Ieee.double.binade = 4503599627370496 := by decide
  have e3 : Ieee.double.infRung = 9218868437227405312 := by decide
  unfold isNaN Ieee.Format.read
  simp only [e1, e2, e3]
  split
  · simp [Ieee.Datum.isNaN]; omega
  · split
    · simp [Ieee.Datum.isNaN]; omega
    · split
      · simp [Ieee.Datum.isNaN]; omega
      · simp [Ieee.Datum.isNaN]; omega
theorem pK_two (b : Nat) : pK b = 2 ↔ isNaN b = true := by
  rw [isNaN_iff]
  unfold pK pE₀ pM₀
  split
  · omega
  · split <;> omega
theorem isNaN_qn : isNaN qn = true := by rw [isNaN_iff]; decide
theorem same_iff (b c : Nat) : ((b : Int) = c ∨ (pK b = 2 ∧ pK c = 2)) ↔ cn b = cn c := by
  rw [pK_two, pK_two]
  rcases cn_cases b with ⟨h1, h2⟩ | ⟨h1, h2⟩ <;> rcases cn_cases c with ⟨h3, h4⟩ | ⟨h3, h4⟩
  · simp [h1, h2, h3, h4]
  · rw [h2, h4, h1, h3]
    simp only [Bool.false_eq_true, and_false, or_false]
    constructor
    · intro h; have : b = c := by omega
      subst this; rw [h1] at h3; cases h3
    · intro h; rw [← h, isNaN_qn] at h3; cases h3
  · rw [h2, h4, h1, h3]
    simp only [Bool.false_eq_true, false_and, or_false]
    constructor
    · intro h; have : b = c := by omega
      subst this; rw [h1] at h3; cases h3
    · intro h; rw [h, isNaN_qn] at h1; cases h1
  · rw [h2, h4, h1, h3]
    simp only [Bool.false_eq_true, and_false, or_false]
    omega
set_option maxHeartbeats 4000000 in
theorem same_c (H : List (List AV)) (x y : Nat) :
    CSpec Try.prog 9 [.flt x, .flt y] H (.bool (decide (x = y))) H := by
  refine .mk (fun args w => Try.call9 args w) (Spec.raw2 (fun b c hb hbx hc hcy => Spec.intro' (fn := Try.f9) Try.func9 rfl (by kernel_rfl) (by simp) false [] (draw := drawX Try.prog ⟨false, _, []⟩) dOk ?_))
  simp only [argE, Nat.reduceAdd]
  repeat' (first
    | (refine gateE ?_; (first | (refine b_c0 ?_; (first | refine b_move (by (conv => {lhs; whnf}); done) ?_ | (refine b_binB (by first | (conv => {lhs; whnf}; done) | exact (by exact rfl) | fail) (by first | (conv => {lhs; whnf}; done) | exact (by exact rfl) | fail) ?_; (first | refine v_bbT (by exact rfl) ?_ | refine v_k ?_ | fail)) | (refine b_bin (by (conv => {lhs; whnf}); done) (by (conv => {lhs; whnf}); done) (by (conv => {lhs; whnf}); done) ?_; (first | refine v_eT (by omega) ?_ | refine v_eF (by omega) ?_ | refine v_eP ?_ | refine v_w (by omega) ?_ | refine v_wu (by omega) ?_ | refine v_k ?_ | refine v_c (by omega) ?_ | fail)) | (refine b_pick (by (conv => {lhs; whnf}); done) ?_; (first | refine p_T (by (conv => {lhs; whnf}); done) ?_ | refine p_F (by (conv => {lhs; whnf}); done) ?_ | fail)) | refine b_assignF (by kernel_rfl) ?_ | refine b_assignI ?_ | refine b_assignN ?_ | refine b_assign (by (conv => {lhs; whnf}); done) ?_ | refine b_callB ?_ | refine b_ext (by (conv => {lhs; whnf}); done) (by exact rfl) ?_ | fail)) | refine b_nil ?_ | refine b_gT (by exact rfl) (by exact rfl) ?_ | refine b_gF (by exact rfl) (by exact rfl) (by exact rfl) ?_ | refine b_gU (by exact rfl) (by exact rfl) (by constructor <;> simp) (by exact rfl) (by exact rfl) ?_ | (refine b_g0 (by exact rfl) (by exact rfl) (by (conv => {lhs; whnf}); done) ?_; (first | refine g_TT ?_ | refine g_FF ?_ | refine g_TF ?_ | refine g_FT ?_ | refine g_PT ?_ ?_ | refine g_PF ?_ ?_ | refine g_BT ?_ ?_ | refine g_BF ?_ ?_ | fail)) | (refine b_g1 (by exact rfl) (by exact rfl) (by exact rfl) (by (conv => {lhs; whnf}); done) ?_; (first | refine g_TT ?_ | refine g_FF ?_ | refine g_TF ?_ | refine g_FT ?_ | refine g_PT ?_ ?_ | refine g_PF ?_ ?_ | refine g_BT ?_ ?_ | refine g_BF ?_ ?_ | fail)) | refine b_c1 (by exact rfl) ?_ | fail))
    | (refine gateO ?_; (first | refine b_move (by (conv => {lhs; whnf}); done) ?_ | (refine b_binB (by first | (conv => {lhs; whnf}; done) | exact (by exact rfl) | fail) (by first | (conv => {lhs; whnf}; done) | exact (by exact rfl) | fail) ?_; (first | refine v_bbT (by exact rfl) ?_ | refine v_k ?_ | fail)) | (refine b_bin (by (conv => {lhs; whnf}); done) (by (conv => {lhs; whnf}); done) (by (conv => {lhs; whnf}); done) ?_; (first | refine v_eT (by omega) ?_ | refine v_eF (by omega) ?_ | refine v_eP ?_ | refine v_w (by omega) ?_ | refine v_wu (by omega) ?_ | refine v_k ?_ | refine v_c (by omega) ?_ | fail)) | (refine b_pick (by (conv => {lhs; whnf}); done) ?_; (first | refine p_T (by (conv => {lhs; whnf}); done) ?_ | refine p_F (by (conv => {lhs; whnf}); done) ?_ | fail)) | refine b_assignF (by kernel_rfl) ?_ | refine b_assignI ?_ | refine b_assignN ?_ | refine b_assign (by (conv => {lhs; whnf}); done) ?_ | refine b_callB ?_ | refine b_ext (by (conv => {lhs; whnf}); done) (by exact rfl) ?_ | fail))
    | (refine gateT ?_; (first | refine b_thn ?_ | refine b_thr ?_ | refine b_the ?_ | fail))
    | (refine gateX ?_; (first | refine b_seq ?_ | refine b_region ?_ | (refine b_cond (by (conv => {lhs; whnf}); done) ?_; (first | refine c_T ?_ | refine c_F ?_ | refine c_P ?_ ?_ | refine c_B ?_ ?_ | fail)) | refine b_ret ?_ | refine b_skip ?_ | refine b_block ?_ | refine b_exit ?_ | fail))
    | refine a_cons (by (conv => {lhs; whnf}); done) ?_
    | refine a_nil ?_
    | (refine gateK ?_; (first | refine c_call (bits_c _ _) (OldOk.refl _ _) ?_ | refine c_call (parts_c _ _ (by assumption)) (OldOk.refl _ _) ?_ | fail))
    | (refine gateQ ?_; refine b_retK (by simp) (by (conv => {lhs; whnf}); done) ?_)
    | (refine gateR ?_; (first | refine rk_tmp (by (conv => {lhs; whnf}); done) ?_ | refine rk_cellA (by (conv => {lhs; whnf}); done) (by exact rfl) (by exact rfl) ?_ | refine rk_cell1 (by (conv => {lhs; whnf}); done) (by exact rfl) (by exact rfl) ?_ | refine rk_nil ?_ | fail))
    | intro _)
  all_goals first | refine rv_old rfl (by simp [mx, mxL, aOf, aOf1, resOne]) ?_ | (trace_state; fail)
  all_goals (subst hbx hcy; have hs := same_iff b c)
  all_goals (simp only [resOne, List.nil_append, List.cons_append, aOf, aOf1] at *)
  all_goals first
    | (refine rvF ?_; first | (simp_all; done) | (simp_all; omega))
    | (refine rvT ?_; first | (simp_all; done) | (simp_all; omega))
    | (refine rvP ?_; first | (simp_all; done) | (simp_all; omega))
    | trace_state


set_option maxHeartbeats 4000000 in
theorem all_c (H : List (List AV)) (Da : AV) (la : List Nat) (hFa : FL H Da la) (hBa : la.length ≤ 2 ^ 48) (Db : AV) (lb : List Nat) (hFb : FL H Db lb) (hBb : lb.length ≤ 2 ^ 48) :
    CSpec Try.prog 13 [Da, Db] H (.bool (decide (la = lb))) H := by
  obtain ⟨N, hN1, hN2, hN3⟩ := first_diff la lb
  refine .mk (fun args w => Try.call13 args w) (Spec.intro' (fn := Try.f13) Try.func13 rfl (by kernel_rfl) (by simp) false [] (draw := drawX Try.prog ⟨false, _, []⟩) dOk ?_)
  simp only [argE, Nat.reduceAdd]
  repeat' (first
    | (refine gateE ?_; (first | (refine b_c0 ?_; (first | refine b_move (by (conv => {lhs; whnf}); done) ?_ | (refine b_load (by (conv => {lhs; whnf}); done) ?_; (first | refine l_loc1 (by exact rfl) (by exact rfl) ?_ | refine l_locA (by exact rfl) (by exact rfl) ?_ | refine l_FL (FL.app hFa _) (by omega) ?_ | refine l_FL (FL.app hFb _) (by omega) ?_ | fail)) | refine b_iaN (by (conv => {lhs; whnf}); done) (by (conv => {lhs; whnf}); done) (by exact hFa.len) (by omega) ?_ | refine b_iaN (by (conv => {lhs; whnf}); done) (by (conv => {lhs; whnf}); done) (by exact hFb.len) (by omega) ?_ | refine b_lenA (by (conv => {lhs; whnf}); done) (by exact hFa.len) ?_ | refine b_lenA (by (conv => {lhs; whnf}); done) (by exact hFb.len) ?_ | (refine b_bin (by (conv => {lhs; whnf}); done) (by (conv => {lhs; whnf}); done) (by (conv => {lhs; whnf}); done) ?_; (first | refine v_neT (by omega) ?_ | refine v_neF (by omega) ?_ | refine v_neP ?_ | refine v_T (by omega) ?_ | refine v_F (by omega) ?_ | refine v_w (by omega) ?_ | refine v_wu (by omega) ?_ | refine v_nT ?_ | refine v_nF ?_ | refine v_nP ?_ | refine v_k ?_ | refine v_c (by omega) ?_ | fail)) | refine b_assignF (by kernel_rfl) ?_ | refine b_assignI ?_ | refine b_assignN ?_ | refine b_assign (by (conv => {lhs; whnf}); done) ?_ | (refine b_un (by (conv => {lhs; whnf}); done) (by (conv => {lhs; whnf}); done) ?_; (first | refine v_neT (by omega) ?_ | refine v_neF (by omega) ?_ | refine v_neP ?_ | refine v_T (by omega) ?_ | refine v_F (by omega) ?_ | refine v_w (by omega) ?_ | refine v_wu (by omega) ?_ | refine v_nT ?_ | refine v_nF ?_ | refine v_nP ?_ | refine v_k ?_ | refine v_c (by omega) ?_ | fail)) | refine b_callB ?_ | refine b_lenA (by (conv => {lhs; whnf}); done) (by first | rfl | assumption) ?_ | fail)) | refine b_nil ?_ | fail))
    | (refine gateO ?_; (first | refine b_move (by (conv => {lhs; whnf}); done) ?_ | (refine b_load (by (conv => {lhs; whnf}); done) ?_; (first | refine l_loc1 (by exact rfl) (by exact rfl) ?_ | refine l_locA (by exact rfl) (by exact rfl) ?_ | refine l_FL (FL.app hFa _) (by omega) ?_ | refine l_FL (FL.app hFb _) (by omega) ?_ | fail)) | refine b_iaN (by (conv => {lhs; whnf}); done) (by (conv => {lhs; whnf}); done) (by exact hFa.len) (by omega) ?_ | refine b_iaN (by (conv => {lhs; whnf}); done) (by (conv => {lhs; whnf}); done) (by exact hFb.len) (by omega) ?_ | refine b_lenA (by (conv => {lhs; whnf}); done) (by exact hFa.len) ?_ | refine b_lenA (by (conv => {lhs; whnf}); done) (by exact hFb.len) ?_ | (refine b_bin (by (conv => {lhs; whnf}); done) (by (conv => {lhs; whnf}); done) (by (conv => {lhs; whnf}); done) ?_; (first | refine v_neT (by omega) ?_ | refine v_neF (by omega) ?_ | refine v_neP ?_ | refine v_T (by omega) ?_ | refine v_F (by omega) ?_ | refine v_w (by omega) ?_ | refine v_wu (by omega) ?_ | refine v_nT ?_ | refine v_nF ?_ | refine v_nP ?_ | refine v_k ?_ | refine v_c (by omega) ?_ | fail)) | refine b_assignF (by kernel_rfl) ?_ | refine b_assignI ?_ | refine b_assignN ?_ | refine b_assign (by (conv => {lhs; whnf}); done) ?_ | (refine b_un (by (conv => {lhs; whnf}); done) (by (conv => {lhs; whnf}); done) ?_; (first | refine v_neT (by omega) ?_ | refine v_neF (by omega) ?_ | refine v_neP ?_ | refine v_T (by omega) ?_ | refine v_F (by omega) ?_ | refine v_w (by omega) ?_ | refine v_wu (by omega) ?_ | refine v_nT ?_ | refine v_nF ?_ | refine v_nP ?_ | refine v_k ?_ | refine v_c (by omega) ?_ | fail)) | refine b_callB ?_ | refine b_lenA (by (conv => {lhs; whnf}); done) (by first | rfl | assumption) ?_ | fail))
    | (refine gateD ?_; (first | (refine d_c0 (by exact rfl) ?_; (first | refine b_move (by (conv => {lhs; whnf}); done) ?_ | (refine b_load (by (conv => {lhs; whnf}); done) ?_; (first | refine l_loc1 (by exact rfl) (by exact rfl) ?_ | refine l_locA (by exact rfl) (by exact rfl) ?_ | refine l_FL (FL.app hFa _) (by omega) ?_ | refine l_FL (FL.app hFb _) (by omega) ?_ | fail)) | refine b_iaN (by (conv => {lhs; whnf}); done) (by (conv => {lhs; whnf}); done) (by exact hFa.len) (by omega) ?_ | refine b_iaN (by (conv => {lhs; whnf}); done) (by (conv => {lhs; whnf}); done) (by exact hFb.len) (by omega) ?_ | refine b_lenA (by (conv => {lhs; whnf}); done) (by exact hFa.len) ?_ | refine b_lenA (by (conv => {lhs; whnf}); done) (by exact hFb.len) ?_ | (refine b_bin (by (conv => {lhs; whnf}); done) (by (conv => {lhs; whnf}); done) (by (conv => {lhs; whnf}); done) ?_; (first | refine v_neT (by omega) ?_ | refine v_neF (by omega) ?_ | refine v_neP ?_ | refine v_T (by omega) ?_ | refine v_F (by omega) ?_ | refine v_w (by omega) ?_ | refine v_wu (by omega) ?_ | refine v_nT ?_ | refine v_nF ?_ | refine v_nP ?_ | refine v_k ?_ | refine v_c (by omega) ?_ | fail)) | refine b_assignF (by kernel_rfl) ?_ | refine b_assignI ?_ | refine b_assignN ?_ | refine b_assign (by (conv => {lhs; whnf}); done) ?_ | (refine b_un (by (conv => {lhs; whnf}); done) (by (conv => {lhs; whnf}); done) ?_; (first | refine v_neT (by omega) ?_ | refine v_neF (by omega) ?_ | refine v_neP ?_ | refine v_T (by omega) ?_ | refine v_F (by omega) ?_ | refine v_w (by omega) ?_ | refine v_wu (by omega) ?_ | refine v_nT ?_ | refine v_nF ?_ | refine v_nP ?_ | refine v_k ?_ | refine v_c (by omega) ?_ | fail)) | refine b_callB ?_ | refine b_lenA (by (conv => {lhs; whnf}); done) (by first | rfl | assumption) ?_ | fail)) | refine d_nil ?_ | fail))
    | (refine gateC ?_; (first | refine k_lt ?_ | refine k_ld (by (conv => {lhs; whnf}); done) (by exact rfl) ?_ | refine k_ldT (by (conv => {lhs; whnf}); done) ?_ | refine k_bin (by (conv => {lhs; whnf}); done) (by exact rfl) ?_ | refine k_mn ?_ | refine k_mnB (by exact rfl) ?_ | refine k_mnF ?_ | fail))
    | (refine gateT ?_; (first | refine b_thn ?_ | refine b_thr ?_ | refine b_the ?_ | fail))
    | (refine gateX ?_; (first | refine b_seq ?_ | refine b_region ?_ | (refine b_cond (by (conv => {lhs; whnf}); done) ?_; (first | refine c_T ?_ | refine c_F ?_ | refine c_P ?_ ?_ | refine c_B ?_ ?_ | fail)) | refine b_ret ?_ | refine b_skip ?_ | refine b_block ?_ | refine b_exit ?_ | refine b_draw [] [] [(0, .lt), (1, .lt), (2, .lt), (3, .ld true), (4, .lt), (5, .lt), (6, .lt), (7, .ld true), (8, .mn true), (9, .lt)] (by kernel_rfl) ?_ | (refine b_loop [5, 0, 1] N (fun k => ⟨[(5, .val (.int .i64 (k : Int))), (0, .val Da), (1, .val Db)], [], H ++ []⟩) (by exact rfl) ?_ ?_ <;> (first | intro k hk K hK | intro K) <;> (try dsimp only at *) <;> (try simp only [Int.natCast_add, Int.natCast_one] at *)) | fail))
    | refine a_cons (by (conv => {lhs; whnf}); done) ?_
    | refine a_nil ?_
    | (refine gateK ?_; (first | refine c_call (same_c _ _ _) (OldOk.refl _ _) ?_ | fail))
    | (refine gateB ?_; (first | refine b_bln ?_ | refine b_blr ?_ | refine b_ble ?_ | refine b_blo (by exact rfl) ?_ | fail))
    | (refine gateL ?_; (first | refine lp_n ?_ | refine lp_r ?_ | refine lp_e ?_ | fail))
    | (refine pr_k (by exact rfl) ?_; first | exact hK | (exfalso; first | omega | (simp_all; done) | (simp_all; omega)))
    | (refine gateQ ?_; refine b_retK (by simp) (by (conv => {lhs; whnf}); done) ?_)
    | (refine gateR ?_; (first | refine rk_tmp (by (conv => {lhs; whnf}); done) ?_ | refine rk_cellA (by (conv => {lhs; whnf}); done) (by exact rfl) (by exact rfl) ?_ | refine rk_cell1 (by (conv => {lhs; whnf}); done) (by exact rfl) (by exact rfl) ?_ | refine rk_nil ?_ | fail))
    | intro _)
  all_goals first | refine rv_old rfl (by simp [mx, mxL, aOf, aOf1, resOne]) ?_ | (trace_state; fail)
  all_goals first
    | (refine rtF (fun h => ?_); subst h; first | contradiction | omega | (simp_all; done))
    | (refine rtT (eq_of_getD (by omega) (fun k hk => hN2 k (by omega))))


set_option maxHeartbeats 4000000 in
theorem apart_k (H H' : List (List AV)) (D : AV) (l : List Nat) (hF : FL H D l) (hB : l.length ≤ 2 ^ 30) (off rows cols ld : Int) (m : Nat) (hm : H.length = m) (hH : H ++ [fl l] = H') :
    CSpec Try.prog 10 [mt D off rows cols ld] H (mt (.slm m l.length 0 l.length 1) off rows cols ld) H' := by
  subst hH hm
  refine .mk (fun args w => Try.call10 args w) (Spec.intro' (fn := Try.f10) Try.func10 rfl (by kernel_rfl) (by simp) false [] (draw := drawX Try.prog ⟨false, _, []⟩) dOk ?_)
  simp only [argE, Nat.reduceAdd]
  repeat' (first
    | (refine gateE ?_; (first | (refine b_c0 ?_; (first | (refine b_fa (by (conv => {lhs; whnf}); done) ?_; first | refine f_loc (by (conv => {lhs; whnf}); done) ?_ | refine f_ptr (by (conv => {lhs; whnf}); done) ?_) | (refine b_load (by (conv => {lhs; whnf}); done) ?_; (first | refine l_loc1 (by exact rfl) (by exact rfl) ?_ | refine l_locA (by exact rfl) (by exact rfl) ?_ | fail)) | refine b_bslN (by exact rfl) (by exact rfl) (by decide) (by exact rfl) (by (conv => {lhs; whnf}); done) ?_ | refine b_appN (by (conv => {lhs; whnf}); done) (by (conv => {lhs; whnf}); done) (by exact rfl) (by exact rfl) (by exact src_fl' hF) (by simp) (by exact rfl) (by simp; omega) (.inl (Nat.le_refl _)) (by exact rfl) (by (conv => {lhs; simp only [List.nil_append, fl_app, il_app]}); done) (by (conv => {lhs; simp only [List.set_cons_zero, List.set_cons_succ]}); done) (by (conv => {lhs; simp only [fl_len, il_len, List.length_append, List.length_nil, Nat.zero_add]}); done) (by (conv => {lhs; simp only [Nat.zero_add]}); done) ?_ | refine b_stL (by (conv => {lhs; whnf}); done) (by (conv => {lhs; whnf}); done) (by first | exact (by exact rfl) | exact cells_of_len hF.len | fail) (by exact rfl) (by exact rfl) (by exact Nat.le_of_ble_eq_true rfl) (by (conv => {lhs; simp only [sc, List.set_cons_zero, List.set_cons_succ]}); done) ?_ | refine b_box (by (conv => {lhs; whnf}); done) (by exact rfl) (by exact rfl) (by exact rfl) (by exact rfl) ?_ | refine b_alloc (by exact rfl) (by exact rfl) ?_ | refine b_bslZ (by exact rfl) (by exact rfl) (by decide) ?_ | fail)) | refine b_nil ?_ | fail))
    | (refine gateT ?_; (first | refine b_thn ?_ | refine b_thr ?_ | refine b_the ?_ | fail))
    | (refine gateX ?_; (first | refine b_seq ?_ | refine b_region ?_ | (refine b_cond (by (conv => {lhs; whnf}); done) ?_; (first | refine c_T ?_ | refine c_F ?_ | refine c_P ?_ ?_ | refine c_B ?_ ?_ | fail)) | refine b_ret ?_ | refine b_skip ?_ | refine b_block ?_ | refine b_exit ?_ | fail))
    | refine gk_consF (by kernel_rfl) ?_
    | refine gk_cons (by (conv => {lhs; whnf}); done) ?_
    | (refine gk_nilN (by (conv => {lhs; simp only [List.nil_append, List.cons_append]}); done) ?_; first | refine ⟨by exact rfl, ?_⟩ | skip)
    | refine gk_nil ?_
    | (intro N' hN'; simp only [List.nil_append, List.cons_append] at hN'; subst hN')
    | (refine gateQ ?_; refine b_retK (by simp) (by (conv => {lhs; whnf}); done) ?_)
    | (refine gateR ?_; (first | refine rk_tmp (by (conv => {lhs; whnf}); done) ?_ | refine rk_cellA (by (conv => {lhs; whnf}); done) (by exact rfl) (by exact rfl) ?_ | refine rk_cell1 (by (conv => {lhs; whnf}); done) (by exact rfl) (by exact rfl) ?_ | refine rk_nil ?_ | fail))
    | (refine ⟨by simp [oneC], fun N' hN' => ?_⟩; simp only [List.nil_append, List.cons_append] at hN'; subst hN')
    | intro _)
  all_goals first
    | exact rv_kp (j := 0) (cs := fl l) rfl rfl (by rw [mxL_fl]; exact Nat.zero_le _) (Fr.agg (Frs.cons (Fr.kp (j := 0) (cs := fl l) rfl (hg_new rfl rfl) (fl_len l)) (Frs.old (by simp [mxL, mx]))))

set_option maxHeartbeats 4000000 in
theorem within_c (H : List (List AV)) (n off a b c : Int) (hn0 : 0 ≤ n) (hn : n ≤ 9223372036854775807) (h1 : 0 ≤ off) (h2 : 0 ≤ a) (h3 : 0 ≤ b) (h4 : 0 ≤ c) (ho : off ≤ 9223372036854775807) (ha : a ≤ 9223372036854775807) (hb : b ≤ 9223372036854775807) (hc : c ≤ 9223372036854775807) :
    CSpec Try.prog 26 [.int .i64 n, .int .i64 off, .int .i64 a, .int .i64 b, .int .i64 c] H (.bool (decide (off < n ∧ c < n - off ∧ a * b ≤ n - off - c - 1))) H := by
  refine .mk (fun args w => Try.call26 args w) (Spec.intro' (fn := Try.f26) Try.func26 rfl (by kernel_rfl) (by simp) false [] (draw := drawX Try.prog ⟨false, _, []⟩) dOk ?_)
  simp only [argE, Nat.reduceAdd]
  repeat' (first
    | (refine gateE ?_; (first | (refine b_c0 ?_; (first | refine b_move (by (conv => {lhs; whnf}); done) ?_ | (refine b_binB (by first | (conv => {lhs; whnf}; done) | exact (by exact rfl) | fail) (by first | (conv => {lhs; whnf}; done) | exact (by exact rfl) | fail) ?_; (first | refine v_bbT (by exact rfl) ?_ | refine v_k ?_ | fail)) | (refine b_bin (by (conv => {lhs; whnf}); done) (by (conv => {lhs; whnf}); done) (by (conv => {lhs; whnf}); done) ?_; (first | refine v_eT (by omega) ?_ | refine v_eF (by omega) ?_ | refine v_eP ?_ | refine v_T (by omega) ?_ | refine v_F (by omega) ?_ | refine v_w (by omega) ?_ | refine v_wu (by omega) ?_ | refine v_qc (by omega) (by omega) ?_ | refine v_k ?_ | refine v_c (by omega) ?_ | fail)) | (refine b_pick (by (conv => {lhs; whnf}); done) ?_; (first | refine p_T (by (conv => {lhs; whnf}); done) ?_ | refine p_F (by (conv => {lhs; whnf}); done) ?_ | fail)) | refine b_assignF (by kernel_rfl) ?_ | refine b_assignI ?_ | refine b_assignN ?_ | refine b_assign (by (conv => {lhs; whnf}); done) ?_ | fail)) | refine b_nil ?_ | refine b_gT (by exact rfl) (by exact rfl) ?_ | refine b_gF (by exact rfl) (by exact rfl) (by exact rfl) ?_ | refine b_gU (by exact rfl) (by exact rfl) (by constructor <;> simp) (by exact rfl) (by exact rfl) ?_ | (refine b_g0 (by exact rfl) (by exact rfl) (by (conv => {lhs; whnf}); done) ?_; (first | refine g_TT ?_ | refine g_FF ?_ | refine g_TF ?_ | refine g_FT ?_ | refine g_PT ?_ ?_ | refine g_PF ?_ ?_ | refine g_BT ?_ ?_ | refine g_BF ?_ ?_ | fail)) | (refine b_g1 (by exact rfl) (by exact rfl) (by exact rfl) (by (conv => {lhs; whnf}); done) ?_; (first | refine g_TT ?_ | refine g_FF ?_ | refine g_TF ?_ | refine g_FT ?_ | refine g_PT ?_ ?_ | refine g_PF ?_ ?_ | refine g_BT ?_ ?_ | refine g_BF ?_ ?_ | fail)) | refine b_c1 (by exact rfl) ?_ | fail))
    | (refine gateO ?_; (first | refine b_move (by (conv => {lhs; whnf}); done) ?_ | (refine b_binB (by first | (conv => {lhs; whnf}; done) | exact (by exact rfl) | fail) (by first | (conv => {lhs; whnf}; done) | exact (by exact rfl) | fail) ?_; (first | refine v_bbT (by exact rfl) ?_ | refine v_k ?_ | fail)) | (refine b_bin (by (conv => {lhs; whnf}); done) (by (conv => {lhs; whnf}); done) (by (conv => {lhs; whnf}); done) ?_; (first | refine v_eT (by omega) ?_ | refine v_eF (by omega) ?_ | refine v_eP ?_ | refine v_T (by omega) ?_ | refine v_F (by omega) ?_ | refine v_w (by omega) ?_ | refine v_wu (by omega) ?_ | refine v_qc (by omega) (by omega) ?_ | refine v_k ?_ | refine v_c (by omega) ?_ | fail)) | (refine b_pick (by (conv => {lhs; whnf}); done) ?_; (first | refine p_T (by (conv => {lhs; whnf}); done) ?_ | refine p_F (by (conv => {lhs; whnf}); done) ?_ | fail)) | refine b_assignF (by kernel_rfl) ?_ | refine b_assignI ?_ | refine b_assignN ?_ | refine b_assign (by (conv => {lhs; whnf}); done) ?_ | fail))
    | (refine gateT ?_; (first | refine b_thn ?_ | refine b_thr ?_ | refine b_the ?_ | fail))
    | (refine gateX ?_; (first | refine b_seq ?_ | refine b_region ?_ | (refine b_cond (by (conv => {lhs; whnf}); done) ?_; (first | refine c_T ?_ | refine c_F ?_ | refine c_P ?_ ?_ | refine c_B ?_ ?_ | fail)) | refine b_ret ?_ | refine b_skip ?_ | refine b_block ?_ | refine b_exit ?_ | fail))
    | (refine gateQ ?_; refine b_retK (by simp) (by (conv => {lhs; whnf}); done) ?_)
    | (refine gateR ?_; (first | refine rk_tmp (by (conv => {lhs; whnf}); done) ?_ | refine rk_cellA (by (conv => {lhs; whnf}); done) (by exact rfl) (by exact rfl) ?_ | refine rk_cell1 (by (conv => {lhs; whnf}); done) (by exact rfl) (by exact rfl) ?_ | refine rk_nil ?_ | fail))
    | intro _)
  all_goals first | refine rv_old rfl (by simp [mx, mxL, aOf, aOf1, resOne]) ?_ | (trace_state; fail)
  all_goals first
    | exact rtF (by omega)
    | (refine rtT ?_; subst a; simp; omega)
    | (refine rvT ?_; simp_all; omega)
    | (refine rvP ?_; rw [Int.le_ediv_iff_mul_le (by omega), Int.mul_comm]; omega)

set_option maxHeartbeats 4000000 in
theorem goodref_c (H : List (List AV)) (D : AV) (n : Nat) (off rows cols ld : Int) (hD : slen D = some n) (hI : MI n off rows cols ld) :
    CSpec Try.prog 12 [mt D off rows cols ld] H (.bool (decide (GoodP n off rows cols ld))) H := by
  obtain ⟨hn, ho1, ho2, hr1, hr2, hc1, hc2, hl1, hl2⟩ := id hI
  refine .mk (fun args w => Try.call12 args w) (Spec.intro' (fn := Try.f12) Try.func12 rfl (by kernel_rfl) (by simp) false [] (draw := drawX Try.prog ⟨false, _, []⟩) dOk ?_)
  simp only [argE, Nat.reduceAdd]
  repeat' (first
    | (refine gateE ?_; (first | (refine b_c0 ?_; (first | refine b_move (by (conv => {lhs; whnf}); done) ?_ | (refine b_fa (by (conv => {lhs; whnf}); done) ?_; first | refine f_loc (by (conv => {lhs; whnf}); done) ?_ | refine f_ptr (by (conv => {lhs; whnf}); done) ?_) | (refine b_load (by (conv => {lhs; whnf}); done) ?_; (first | refine l_loc1 (by exact rfl) (by exact rfl) ?_ | refine l_locA (by exact rfl) (by exact rfl) ?_ | fail)) | (refine b_binB (by first | (conv => {lhs; whnf}; done) | exact (by exact rfl) | fail) (by first | (conv => {lhs; whnf}; done) | exact (by exact rfl) | fail) ?_; (first | refine v_bbT (by exact rfl) ?_ | refine v_k ?_ | fail)) | (refine b_bin (by (conv => {lhs; whnf}); done) (by (conv => {lhs; whnf}); done) (by (conv => {lhs; whnf}); done) ?_; (first | refine v_eT (by omega) ?_ | refine v_eF (by omega) ?_ | refine v_eP ?_ | refine v_T (by omega) ?_ | refine v_F (by omega) ?_ | refine v_w (by omega) ?_ | refine v_wu (by omega) ?_ | refine v_k ?_ | refine v_c (by omega) ?_ | fail)) | (refine b_pick (by (conv => {lhs; whnf}); done) ?_; (first | refine p_T (by (conv => {lhs; whnf}); done) ?_ | refine p_F (by (conv => {lhs; whnf}); done) ?_ | fail)) | refine b_assignF (by kernel_rfl) ?_ | refine b_assignI ?_ | refine b_assignN ?_ | refine b_assign (by (conv => {lhs; whnf}); done) ?_ | refine b_callB ?_ | refine b_lenA (by (conv => {lhs; whnf}); done) (by first | rfl | assumption) ?_ | refine b_box (by (conv => {lhs; whnf}); done) (by exact rfl) (by exact rfl) (by exact rfl) (by exact rfl) ?_ | fail)) | refine b_nil ?_ | refine b_gT (by exact rfl) (by exact rfl) ?_ | refine b_gF (by exact rfl) (by exact rfl) (by exact rfl) ?_ | refine b_gU (by exact rfl) (by exact rfl) (by constructor <;> simp) (by exact rfl) (by exact rfl) ?_ | (refine b_g0 (by exact rfl) (by exact rfl) (by (conv => {lhs; whnf}); done) ?_; (first | refine g_TT ?_ | refine g_FF ?_ | refine g_TF ?_ | refine g_FT ?_ | refine g_PT ?_ ?_ | refine g_PF ?_ ?_ | refine g_BT ?_ ?_ | refine g_BF ?_ ?_ | fail)) | (refine b_g1 (by exact rfl) (by exact rfl) (by exact rfl) (by (conv => {lhs; whnf}); done) ?_; (first | refine g_TT ?_ | refine g_FF ?_ | refine g_TF ?_ | refine g_FT ?_ | refine g_PT ?_ ?_ | refine g_PF ?_ ?_ | refine g_BT ?_ ?_ | refine g_BF ?_ ?_ | fail)) | refine b_c1 (by exact rfl) ?_ | fail))
    | (refine gateO ?_; (first | refine b_move (by (conv => {lhs; whnf}); done) ?_ | (refine b_fa (by (conv => {lhs; whnf}); done) ?_; first | refine f_loc (by (conv => {lhs; whnf}); done) ?_ | refine f_ptr (by (conv => {lhs; whnf}); done) ?_) | (refine b_load (by (conv => {lhs; whnf}); done) ?_; (first | refine l_loc1 (by exact rfl) (by exact rfl) ?_ | refine l_locA (by exact rfl) (by exact rfl) ?_ | fail)) | (refine b_binB (by first | (conv => {lhs; whnf}; done) | exact (by exact rfl) | fail) (by first | (conv => {lhs; whnf}; done) | exact (by exact rfl) | fail) ?_; (first | refine v_bbT (by exact rfl) ?_ | refine v_k ?_ | fail)) | (refine b_bin (by (conv => {lhs; whnf}); done) (by (conv => {lhs; whnf}); done) (by (conv => {lhs; whnf}); done) ?_; (first | refine v_eT (by omega) ?_ | refine v_eF (by omega) ?_ | refine v_eP ?_ | refine v_T (by omega) ?_ | refine v_F (by omega) ?_ | refine v_w (by omega) ?_ | refine v_wu (by omega) ?_ | refine v_k ?_ | refine v_c (by omega) ?_ | fail)) | (refine b_pick (by (conv => {lhs; whnf}); done) ?_; (first | refine p_T (by (conv => {lhs; whnf}); done) ?_ | refine p_F (by (conv => {lhs; whnf}); done) ?_ | fail)) | refine b_assignF (by kernel_rfl) ?_ | refine b_assignI ?_ | refine b_assignN ?_ | refine b_assign (by (conv => {lhs; whnf}); done) ?_ | refine b_callB ?_ | refine b_lenA (by (conv => {lhs; whnf}); done) (by first | rfl | assumption) ?_ | refine b_box (by (conv => {lhs; whnf}); done) (by exact rfl) (by exact rfl) (by exact rfl) (by exact rfl) ?_ | fail))
    | (refine gateT ?_; (first | refine b_thn ?_ | refine b_thr ?_ | refine b_the ?_ | fail))
    | (refine gateX ?_; (first | refine b_seq ?_ | refine b_region ?_ | (refine b_cond (by (conv => {lhs; whnf}); done) ?_; (first | refine c_T ?_ | refine c_F ?_ | refine c_P ?_ ?_ | refine c_B ?_ ?_ | fail)) | refine b_ret ?_ | refine b_skip ?_ | refine b_block ?_ | refine b_exit ?_ | fail))
    | refine a_cons (by (conv => {lhs; whnf}); done) ?_
    | refine a_nil ?_
    | (refine gateK ?_; (first | refine c_call (within_c _ _ _ _ _ _ (by omega) (by omega) (by omega) (by omega) (by omega) (by omega) (by omega) (by omega) (by omega) (by omega)) (OldOk.refl _ _) ?_ | fail))
    | (refine gateQ ?_; refine b_retK (by simp) (by (conv => {lhs; whnf}); done) ?_)
    | (refine gateR ?_; (first | refine rk_tmp (by (conv => {lhs; whnf}); done) ?_ | refine rk_cellA (by (conv => {lhs; whnf}); done) (by exact rfl) (by exact rfl) ?_ | refine rk_cell1 (by (conv => {lhs; whnf}); done) (by exact rfl) (by exact rfl) ?_ | refine rk_nil ?_ | fail))
    | intro _)
  all_goals first | refine rv_old rfl (by simp [mx, mxL, aOf, aOf1, resOne]) ?_ | (trace_state; fail)
  all_goals first
    | exact rtF (by unfold GoodP; omega)
    | exact rtT (by unfold GoodP; omega)
    | exact rvP (by unfold GoodP; omega)

set_option maxHeartbeats 4000000 in
theorem set_c (H H' : List (List AV)) (b g o n : Nat) (l : List Nat) (hH : H[b]? = some (fl l)) (hg : l.length = g) (hon : o + n ≤ g) (off rows cols ld : Int) (hI : MI n off rows cols ld) (i j : Int) (hi1 : -9223372036854775808 ≤ i) (hi2 : i ≤ 9223372036854775807) (hj1 : -9223372036854775808 ≤ j) (hj2 : j ≤ 9223372036854775807) (x : Nat) (hH' : H.set b (fl (if 0 ≤ plV n off rows cols ld i j then l.set (o + (plV n off rows cols ld i j).toNat) x else l)) = H') :
    CSpec Try.prog 25 [mt (.slm b g o n 1) off rows cols ld, .int .i64 i, .int .i64 j, .flt x] H (.bool (decide (0 ≤ plV n off rows cols ld i j))) H' := by
  have hpl := @pl_lt n off rows cols ld i j
  obtain ⟨hn, ho1, ho2, hr1, hr2, hc1, hc2, hl1, hl2⟩ := id hI
  refine .mk (fun args w => Try.call25 args w) (Spec.intro' (fn := Try.f25) Try.func25 rfl (by kernel_rfl) (by simp) false [] (draw := drawX Try.prog ⟨false, _, []⟩) dOk ?_)
  simp only [argE, Nat.reduceAdd]
  repeat' (first
    | (refine gateE ?_; (first | (refine b_c0 ?_; (first | refine b_move (by (conv => {lhs; whnf}); done) ?_ | (refine b_fa (by (conv => {lhs; whnf}); done) ?_; first | refine f_loc (by (conv => {lhs; whnf}); done) ?_ | refine f_ptr (by (conv => {lhs; whnf}); done) ?_) | (refine b_load (by (conv => {lhs; whnf}); done) ?_; (first | refine l_loc1 (by exact rfl) (by exact rfl) ?_ | refine l_locA (by exact rfl) (by exact rfl) ?_ | fail)) | refine b_iaF (by (conv => {lhs; whnf}); done) (by (conv => {lhs; whnf}); done) (by exact rfl) (by omega) ?_ | refine b_stF (by (conv => {lhs; whnf}); done) (by (conv => {lhs; whnf}); done) hH hg (by omega) (by exact rfl) ?_ | (refine b_bin (by (conv => {lhs; whnf}); done) (by (conv => {lhs; whnf}); done) (by (conv => {lhs; whnf}); done) ?_; (first | refine v_T (by omega) ?_ | refine v_F (by omega) ?_ | refine v_w (by omega) ?_ | refine v_wu (by omega) ?_ | refine v_k ?_ | refine v_c (by omega) ?_ | fail)) | refine b_assignF (by kernel_rfl) ?_ | refine b_assignI ?_ | refine b_assignN ?_ | refine b_assign (by (conv => {lhs; whnf}); done) ?_ | refine b_callB ?_ | refine b_stL (by (conv => {lhs; whnf}); done) (by (conv => {lhs; whnf}); done) (by first | exact (by exact rfl) | exact cells_of_len hF.len | fail) (by exact rfl) (by exact rfl) (by exact Nat.le_of_ble_eq_true rfl) (by (conv => {lhs; simp only [sc, List.set_cons_zero, List.set_cons_succ]}); done) ?_ | refine b_box (by (conv => {lhs; whnf}); done) (by exact rfl) (by exact rfl) (by exact rfl) (by exact rfl) ?_ | fail)) | refine b_nil ?_ | fail))
    | (refine gateT ?_; (first | refine b_thn ?_ | refine b_thr ?_ | refine b_the ?_ | fail))
    | (refine gateX ?_; (first | refine b_seq ?_ | refine b_region ?_ | (refine b_cond (by (conv => {lhs; whnf}); done) ?_; (first | refine c_T ?_ | refine c_F ?_ | refine c_P ?_ ?_ | refine c_B ?_ ?_ | fail)) | refine b_ret ?_ | refine b_skip ?_ | refine b_block ?_ | refine b_exit ?_ | fail))
    | refine a_cons (by (conv => {lhs; whnf}); done) ?_
    | refine a_nil ?_
    | (refine gateK ?_; (first | refine c_call (place_c _ _ n off rows cols ld (by exact rfl) hI i j (by omega) (by omega) (by omega) (by omega)) (OldOk.refl _ _) ?_ | fail))
    | (refine gateQ ?_; refine b_retK (by simp) (by (conv => {lhs; whnf}); done) ?_)
    | (refine gateR ?_; (first | refine rk_tmp (by (conv => {lhs; whnf}); done) ?_ | refine rk_cellA (by (conv => {lhs; whnf}); done) (by exact rfl) (by exact rfl) ?_ | refine rk_cell1 (by (conv => {lhs; whnf}); done) (by exact rfl) (by exact rfl) ?_ | refine rk_nil ?_ | fail))
    | intro _)
  all_goals subst hH'
  · rename_i hp
    have hp' : 0 ≤ plV n off rows cols ld i j := hp
    rw [if_pos hp']
    refine rv_old (by simp) (by simp [mx, mxL, aOf, aOf1, resOne]) ?_
    exact rvT hp'
  · rename_i hp
    have hp' : ¬ 0 ≤ plV n off rows cols ld i j := hp
    rw [if_neg hp', set_self hH]
    refine rv_old rfl (by simp [mx, mxL, aOf, aOf1, resOne]) ?_
    exact rvF hp'

theorem all_t (H : List (List AV)) (Da : AV) (la : List Nat) (hFa : FL H Da la) (hBa : la.length ≤ 2 ^ 48) (Db : AV) (lb : List Nat) (hFb : FL H Db lb) (h : la = lb) : CSpec Try.prog 13 [Da, Db] H (.bool true) H := by
  have := all_c H Da la hFa hBa Db lb hFb (by rw [← h]; exact hBa)
  rwa [decide_eq_true h] at this
set_option maxHeartbeats 4000000 in
theorem greatm_c (H : List (List AV)) (D : AV) (l : List Nat) (hF : FL H D l) (off rows cols ld : Int) (hI : MI l.length off rows cols ld) :
    CSpec Try.prog 6 [mt D off rows cols ld] H (.bool (decide (1000 < (l.length : Int) ∨ 20 < rows ∨ 20 < cols))) H := by
  obtain ⟨hn, ho1, ho2, hr1, hr2, hc1, hc2, hl1, hl2⟩ := id hI
  refine .mk (fun args w => Try.call6 args w) (Spec.intro' (fn := Try.f6) Try.func6 rfl (by kernel_rfl) (by simp) false [] (draw := drawX Try.prog ⟨false, _, []⟩) dOk ?_)
  simp only [argE, Nat.reduceAdd]
  repeat' (first
    | (refine gateE ?_; (first | (refine b_c0 ?_; (first | refine b_move (by (conv => {lhs; whnf}); done) ?_ | (refine b_fa (by (conv => {lhs; whnf}); done) ?_; first | refine f_loc (by (conv => {lhs; whnf}); done) ?_ | refine f_ptr (by (conv => {lhs; whnf}); done) ?_) | (refine b_load (by (conv => {lhs; whnf}); done) ?_; (first | refine l_loc1 (by exact rfl) (by exact rfl) ?_ | refine l_locA (by exact rfl) (by exact rfl) ?_ | fail)) | refine b_lenA (by (conv => {lhs; whnf}); done) (by exact hF.len) ?_ | (refine b_bin (by (conv => {lhs; whnf}); done) (by (conv => {lhs; whnf}); done) (by (conv => {lhs; whnf}); done) ?_; (first | refine v_T (by omega) ?_ | refine v_F (by omega) ?_ | refine v_w (by omega) ?_ | refine v_wu (by omega) ?_ | refine v_k ?_ | refine v_c (by omega) ?_ | fail)) | (refine b_pick (by (conv => {lhs; whnf}); done) ?_; (first | refine p_T (by (conv => {lhs; whnf}); done) ?_ | refine p_F (by (conv => {lhs; whnf}); done) ?_ | fail)) | refine b_assignF (by kernel_rfl) ?_ | refine b_assignI ?_ | refine b_assignN ?_ | refine b_assign (by (conv => {lhs; whnf}); done) ?_ | refine b_lenA (by (conv => {lhs; whnf}); done) (by first | rfl | assumption) ?_ | refine b_box (by (conv => {lhs; whnf}); done) (by exact rfl) (by exact rfl) (by exact rfl) (by exact rfl) ?_ | fail)) | refine b_nil ?_ | refine b_gT (by exact rfl) (by exact rfl) ?_ | refine b_gF (by exact rfl) (by exact rfl) (by exact rfl) ?_ | refine b_gU (by exact rfl) (by exact rfl) (by constructor <;> simp) (by exact rfl) (by exact rfl) ?_ | (refine b_g0 (by exact rfl) (by exact rfl) (by (conv => {lhs; whnf}); done) ?_; (first | refine g_TT ?_ | refine g_FF ?_ | refine g_TF ?_ | refine g_FT ?_ | refine g_PT ?_ ?_ | refine g_PF ?_ ?_ | refine g_BT ?_ ?_ | refine g_BF ?_ ?_ | fail)) | (refine b_g1 (by exact rfl) (by exact rfl) (by exact rfl) (by (conv => {lhs; whnf}); done) ?_; (first | refine g_TT ?_ | refine g_FF ?_ | refine g_TF ?_ | refine g_FT ?_ | refine g_PT ?_ ?_ | refine g_PF ?_ ?_ | refine g_BT ?_ ?_ | refine g_BF ?_ ?_ | fail)) | refine b_c1 (by exact rfl) ?_ | fail))
    | (refine gateO ?_; (first | refine b_move (by (conv => {lhs; whnf}); done) ?_ | (refine b_fa (by (conv => {lhs; whnf}); done) ?_; first | refine f_loc (by (conv => {lhs; whnf}); done) ?_ | refine f_ptr (by (conv => {lhs; whnf}); done) ?_) | (refine b_load (by (conv => {lhs; whnf}); done) ?_; (first | refine l_loc1 (by exact rfl) (by exact rfl) ?_ | refine l_locA (by exact rfl) (by exact rfl) ?_ | fail)) | refine b_lenA (by (conv => {lhs; whnf}); done) (by exact hF.len) ?_ | (refine b_bin (by (conv => {lhs; whnf}); done) (by (conv => {lhs; whnf}); done) (by (conv => {lhs; whnf}); done) ?_; (first | refine v_T (by omega) ?_ | refine v_F (by omega) ?_ | refine v_w (by omega) ?_ | refine v_wu (by omega) ?_ | refine v_k ?_ | refine v_c (by omega) ?_ | fail)) | (refine b_pick (by (conv => {lhs; whnf}); done) ?_; (first | refine p_T (by (conv => {lhs; whnf}); done) ?_ | refine p_F (by (conv => {lhs; whnf}); done) ?_ | fail)) | refine b_assignF (by kernel_rfl) ?_ | refine b_assignI ?_ | refine b_assignN ?_ | refine b_assign (by (conv => {lhs; whnf}); done) ?_ | refine b_lenA (by (conv => {lhs; whnf}); done) (by first | rfl | assumption) ?_ | refine b_box (by (conv => {lhs; whnf}); done) (by exact rfl) (by exact rfl) (by exact rfl) (by exact rfl) ?_ | fail))
    | (refine gateT ?_; (first | refine b_thn ?_ | refine b_thr ?_ | refine b_the ?_ | fail))
    | (refine gateX ?_; (first | refine b_seq ?_ | refine b_region ?_ | (refine b_cond (by (conv => {lhs; whnf}); done) ?_; (first | refine c_T ?_ | refine c_F ?_ | refine c_P ?_ ?_ | refine c_B ?_ ?_ | fail)) | refine b_ret ?_ | refine b_skip ?_ | refine b_block ?_ | refine b_exit ?_ | fail))
    | (refine gateQ ?_; refine b_retK (by simp) (by (conv => {lhs; whnf}); done) ?_)
    | (refine gateR ?_; (first | refine rk_tmp (by (conv => {lhs; whnf}); done) ?_ | refine rk_cellA (by (conv => {lhs; whnf}); done) (by exact rfl) (by exact rfl) ?_ | refine rk_cell1 (by (conv => {lhs; whnf}); done) (by exact rfl) (by exact rfl) ?_ | refine rk_nil ?_ | fail))
    | intro _)
  all_goals first | refine rv_old rfl (by simp [mx, mxL, aOf, aOf1, resOne]) ?_ | (trace_state; fail)
  all_goals first
    | exact rtF (by omega)
    | exact rtT (by omega)
    | exact rvT (by omega)
    | exact rvP (by omega)

set_option maxHeartbeats 4000000 in
theorem new_k (H H' : List (List AV)) (r c : Nat) (hr : r ≤ 1000) (hc : c ≤ 1000) (m : Nat) (hm : H.length = m) (hH : H ++ [fl (List.replicate (r * c) 0)] = H') :
    CSpec Try.prog 14 [.int .i64 (r : Int), .int .i64 (c : Int)] H (mM (.slm m (r * c) 0 (r * c) 1) r c) H' := by
  subst hH hm
  have hrc : r * c ≤ 1000000 := by (have := Nat.mul_le_mul hr hc; omega)
  refine .mk (fun args w => Try.call14 args w) (Spec.intro' (fn := Try.f14) Try.func14 rfl (by kernel_rfl) (by simp) false [] (draw := drawX Try.prog ⟨false, _, []⟩) dOk ?_)
  simp only [argE, Nat.reduceAdd]
  repeat' (first
    | (refine gateE ?_; (first | (refine b_c0 ?_; (first | refine b_move (by (conv => {lhs; whnf}); done) ?_ | refine b_mkf (by (conv => {lhs; whnf}); done) (by (conv => {lhs; whnf}); done) (by exact rfl) (by (conv => {lhs; whnf}); done) (by (conv => {lhs; simp only [List.nil_append, List.cons_append]}); done) (by exact rfl) (by omega) ?_ | (refine b_bin (by (conv => {lhs; whnf}); done) (by (conv => {lhs; whnf}); done) (by (conv => {lhs; whnf}); done) ?_; (first | refine v_mulN (by omega) ?_ | refine v_addN (by omega) ?_ | refine v_w (by omega) ?_ | refine v_wu (by omega) ?_ | refine v_k ?_ | refine v_c (by omega) ?_ | fail)) | refine b_stL (by (conv => {lhs; whnf}); done) (by (conv => {lhs; whnf}); done) (by first | exact (by exact rfl) | exact cells_of_len hF.len | fail) (by exact rfl) (by exact rfl) (by exact Nat.le_of_ble_eq_true rfl) (by (conv => {lhs; simp only [sc, List.set_cons_zero, List.set_cons_succ]}); done) ?_ | refine b_alloc (by exact rfl) (by exact rfl) ?_ | refine b_build ?_ | fail)) | refine b_nil ?_ | fail))
    | (refine gateT ?_; (first | refine b_thn ?_ | refine b_thr ?_ | refine b_the ?_ | fail))
    | (refine gateX ?_; (first | refine b_seq ?_ | refine b_region ?_ | (refine b_cond (by (conv => {lhs; whnf}); done) ?_; (first | refine c_T ?_ | refine c_F ?_ | refine c_P ?_ ?_ | refine c_B ?_ ?_ | fail)) | refine b_ret ?_ | refine b_skip ?_ | refine b_block ?_ | refine b_exit ?_ | fail))
    | refine fk_cons (by (conv => {lhs; whnf}); done) (by first | exact (by exact rfl) | exact cells_of_len hF.len | fail) (by exact rfl) (by exact rfl) (by (conv => {lhs; simp only [sc, List.set_cons_zero, List.set_cons_succ]}); done) ?_
    | refine fk_nil ?_
    | (refine gateQ ?_; refine b_retK (by simp) (by (conv => {lhs; whnf}); done) ?_)
    | (refine gateR ?_; (first | refine rk_tmp (by (conv => {lhs; whnf}); done) ?_ | refine rk_cellA (by (conv => {lhs; whnf}); done) (by exact rfl) (by exact rfl) ?_ | refine rk_cell1 (by (conv => {lhs; whnf}); done) (by exact rfl) (by exact rfl) ?_ | refine rk_nil ?_ | fail))
    | intro _)
  all_goals first
    | exact rv_kp (j := 0) (cs := fl (List.replicate (r * c) 0)) rfl rfl (by rw [mxL_fl]; exact Nat.zero_le _) (Fr.agg (Frs.cons (Fr.old (by simp [mx])) (Frs.cons (Fr.old (by simp [mx])) (Frs.cons (Fr.kp (j := 0) (cs := fl (List.replicate (r * c) 0)) rfl (hg_new rfl rfl) (by simp)) Frs.nil))))

set_option maxHeartbeats 4000000 in
theorem tat_c (H : List (List AV)) (A : AV) (a : List Nat) (hA : FL H A a) (r c : Nat) (ha : a.length = r * c) (hr : r ≤ 1000) (hc : c ≤ 1000) (i j : Nat) (hi : i < r) (hj : j < c) :
    CSpec Try.prog 27 [mM A r c, .int .i64 (i : Int), .int .i64 (j : Int)] H (.flt (a.getD (i * c + j) 0)) H := by
  have hrc : r * c ≤ 1000000 := by (have := Nat.mul_le_mul hr hc; omega)
  have hlt := ix_lt hi hj
  have hic : i * c ≤ 1000000 := by omega
  refine .mk (fun args w => Try.call27 args w) (Spec.intro' (fn := Try.f27) Try.func27 rfl (by kernel_rfl) (by simp) false [] (draw := drawX Try.prog ⟨false, _, []⟩) dOk ?_)
  simp only [argE, Nat.reduceAdd]
  repeat' (first
    | (refine gateE ?_; (first | (refine b_c0 ?_; (first | refine b_move (by (conv => {lhs; whnf}); done) ?_ | (refine b_fa (by (conv => {lhs; whnf}); done) ?_; first | refine f_loc (by (conv => {lhs; whnf}); done) ?_ | refine f_ptr (by (conv => {lhs; whnf}); done) ?_) | (refine b_load (by (conv => {lhs; whnf}); done) ?_; (first | refine l_loc1 (by exact rfl) (by exact rfl) ?_ | refine l_locA (by exact rfl) (by exact rfl) ?_ | refine l_FL (FL.app hA _) (by omega) ?_ | fail)) | refine b_iaN (by (conv => {lhs; whnf}); done) (by (conv => {lhs; whnf}); done) (by exact hA.len) (by omega) ?_ | (refine b_bin (by (conv => {lhs; whnf}); done) (by (conv => {lhs; whnf}); done) (by (conv => {lhs; whnf}); done) ?_; (first | refine v_mulN (by omega) ?_ | refine v_addN (by omega) ?_ | refine v_w (by omega) ?_ | refine v_wu (by omega) ?_ | refine v_k ?_ | refine v_c (by omega) ?_ | fail)) | refine b_assignF (by kernel_rfl) ?_ | refine b_assignI ?_ | refine b_assignN ?_ | refine b_assign (by (conv => {lhs; whnf}); done) ?_ | refine b_box (by (conv => {lhs; whnf}); done) (by exact rfl) (by exact rfl) (by exact rfl) (by exact rfl) ?_ | fail)) | refine b_nil ?_ | fail))
    | (refine gateT ?_; (first | refine b_thn ?_ | refine b_thr ?_ | refine b_the ?_ | fail))
    | (refine gateX ?_; (first | refine b_seq ?_ | refine b_region ?_ | (refine b_cond (by (conv => {lhs; whnf}); done) ?_; (first | refine c_T ?_ | refine c_F ?_ | refine c_P ?_ ?_ | refine c_B ?_ ?_ | fail)) | refine b_ret ?_ | refine b_skip ?_ | refine b_block ?_ | refine b_exit ?_ | fail))
    | (refine gateQ ?_; refine b_retK (by simp) (by (conv => {lhs; whnf}); done) ?_)
    | (refine gateR ?_; (first | refine rk_tmp (by (conv => {lhs; whnf}); done) ?_ | refine rk_cellA (by (conv => {lhs; whnf}); done) (by exact rfl) (by exact rfl) ?_ | refine rk_cell1 (by (conv => {lhs; whnf}); done) (by exact rfl) (by exact rfl) ?_ | refine rk_nil ?_ | fail))
    | intro _)
  all_goals first | refine rv_old rfl (by simp [mx, mxL, aOf, aOf1, resOne]) ?_ | (trace_state; fail)
  all_goals exact rfl

set_option maxHeartbeats 4000000 in
theorem tset_c (H H' : List (List AV)) (b : Nat) (a : List Nat) (hb : H[b]? = some (fl a)) (r c : Nat) (ha : a.length = r * c) (hr : r ≤ 1000) (hc : c ≤ 1000) (i j : Nat) (hi : i < r) (hj : j < c) (x : Nat) (hH : H.set b (fl (a.set (i * c + j) x)) = H') :
    CSpec Try.prog 15 [mM (.slm b (r * c) 0 (r * c) 1) r c, .int .i64 (i : Int), .int .i64 (j : Int), .flt x] H (.tup []) H' := by
  subst hH
  have hrc : r * c ≤ 1000000 := by (have := Nat.mul_le_mul hr hc; omega)
  have hlt := ix_lt hi hj
  have hic : i * c ≤ 1000000 := by omega
  refine .mk (fun args w => Try.call15 args w) (Spec.intro' (fn := Try.f15) Try.func15 rfl (by kernel_rfl) (by simp) false [] (draw := drawX Try.prog ⟨false, _, []⟩) dOk ?_)
  simp only [argE, Nat.reduceAdd]
  repeat' (first
    | (refine gateE ?_; (first | (refine b_c0 ?_; (first | refine b_move (by (conv => {lhs; whnf}); done) ?_ | (refine b_fa (by (conv => {lhs; whnf}); done) ?_; first | refine f_loc (by (conv => {lhs; whnf}); done) ?_ | refine f_ptr (by (conv => {lhs; whnf}); done) ?_) | (refine b_load (by (conv => {lhs; whnf}); done) ?_; (first | refine l_loc1 (by exact rfl) (by exact rfl) ?_ | refine l_locA (by exact rfl) (by exact rfl) ?_ | fail)) | refine b_iaN (by (conv => {lhs; whnf}); done) (by (conv => {lhs; whnf}); done) (by exact rfl) (by omega) ?_ | refine b_stF (by (conv => {lhs; whnf}); done) (by (conv => {lhs; whnf}); done) hb ha (by omega) (m' := a.set (i * c + j) x) (by rw [Nat.zero_add]) ?_ | (refine b_bin (by (conv => {lhs; whnf}); done) (by (conv => {lhs; whnf}); done) (by (conv => {lhs; whnf}); done) ?_; (first | refine v_mulN (by omega) ?_ | refine v_addN (by omega) ?_ | refine v_w (by omega) ?_ | refine v_wu (by omega) ?_ | refine v_k ?_ | refine v_c (by omega) ?_ | fail)) | refine b_stL (by (conv => {lhs; whnf}); done) (by (conv => {lhs; whnf}); done) (by first | exact (by exact rfl) | exact cells_of_len hF.len | fail) (by exact rfl) (by exact rfl) (by exact Nat.le_of_ble_eq_true rfl) (by (conv => {lhs; simp only [sc, List.set_cons_zero, List.set_cons_succ]}); done) ?_ | refine b_box (by (conv => {lhs; whnf}); done) (by exact rfl) (by exact rfl) (by exact rfl) (by exact rfl) ?_ | fail)) | refine b_nil ?_ | fail))
    | (refine gateT ?_; (first | refine b_thn ?_ | refine b_thr ?_ | refine b_the ?_ | fail))
    | (refine gateX ?_; (first | refine b_seq ?_ | refine b_region ?_ | (refine b_cond (by (conv => {lhs; whnf}); done) ?_; (first | refine c_T ?_ | refine c_F ?_ | refine c_P ?_ ?_ | refine c_B ?_ ?_ | fail)) | refine b_ret ?_ | refine b_skip ?_ | refine b_block ?_ | refine b_exit ?_ | fail))
    | (refine gateQ ?_; refine b_retK (by simp) (by (conv => {lhs; whnf}); done) ?_)
    | (refine gateR ?_; (first | refine rk_tmp (by (conv => {lhs; whnf}); done) ?_ | refine rk_cellA (by (conv => {lhs; whnf}); done) (by exact rfl) (by exact rfl) ?_ | refine rk_cell1 (by (conv => {lhs; whnf}); done) (by exact rfl) (by exact rfl) ?_ | refine rk_nil ?_ | fail))
    | intro _)
  all_goals first
    | (refine rv_old (by simp) (by simp [mx, mxL, resOne]) ?_; exact rfl)

set_option maxHeartbeats 4000000 in
theorem of_c (H : List (List AV)) (D : AV) (l : List Nat) (hF : FL H D l) (off rows cols ld : Int) (hI : MI l.length off rows cols ld) (hG : GoodP l.length off rows cols ld) (hr : rows ≤ 1000) (hc : cols ≤ 1000) :
    CSpec Try.prog 19 [mt D off rows cols ld] H (mM (.sl none (rows.toNat * cols.toNat) (fl (rmA (mel l off ld) rows.toNat cols.toNat))) rows cols) H := by
  obtain ⟨r, rfl⟩ : ∃ r : Nat, rows = (r : Int) := ⟨rows.toNat, by have := hG.1; omega⟩
  obtain ⟨c, rfl⟩ : ∃ c : Nat, cols = (c : Int) := ⟨cols.toNat, by have := hG.2.1; omega⟩
  simp only [Int.toNat_natCast]
  obtain ⟨hn, ho1, ho2, hr1, hr2, hc1, hc2, hl1, hl2⟩ := id hI
  have hrc : r * c ≤ 1000000 := by (have := Nat.mul_le_mul (show r ≤ 1000 by omega) (show c ≤ 1000 by omega); omega)
  refine .mk (fun args w => Try.call19 args w) (Spec.intro' (fn := Try.f19) Try.func19 rfl (by kernel_rfl) (by simp) false [] (draw := drawX Try.prog ⟨false, _, []⟩) dOk ?_)
  simp only [argE, Nat.reduceAdd]
  repeat' (first
    | (refine gateE ?_; (first | (refine b_c0 ?_; (first | refine b_move (by (conv => {lhs; whnf}); done) ?_ | (refine b_fa (by (conv => {lhs; whnf}); done) ?_; first | refine f_loc (by (conv => {lhs; whnf}); done) ?_ | refine f_ptr (by (conv => {lhs; whnf}); done) ?_) | (refine b_load (by (conv => {lhs; whnf}); done) ?_; (first | refine l_loc1 (by exact rfl) (by exact rfl) ?_ | refine l_locA (by exact rfl) (by exact rfl) ?_ | refine l_FL (FL.app hF _) (by first | omega | (have hp := good_place hG (i := (k : Int)) (j := (j : Int)) (by omega) (by omega) (by omega) (by omega); omega) | fail) ?_ | fail)) | refine b_iaF (by (conv => {lhs; whnf}); done) (by (conv => {lhs; whnf}); done) (by exact hF.len) (by first | omega | (have hp := good_place hG (i := (k : Int)) (j := (j : Int)) (by omega) (by omega) (by omega) (by omega); omega) | fail) ?_ | (refine b_bin (by (conv => {lhs; whnf}); done) (by (conv => {lhs; whnf}); done) (by (conv => {lhs; whnf}); done) ?_; (first | refine v_w (by first | omega | (have hp := good_place hG (i := (k : Int)) (j := (j : Int)) (by omega) (by omega) (by omega) (by omega); omega) | fail) ?_ | refine v_T (by omega) ?_ | refine v_F (by omega) ?_ | refine v_w (by omega) ?_ | refine v_wu (by omega) ?_ | refine v_k ?_ | refine v_c (by omega) ?_ | fail)) | refine b_assignF (by kernel_rfl) ?_ | refine b_assignI ?_ | refine b_assignN ?_ | refine b_assign (by (conv => {lhs; whnf}); done) ?_ | refine b_callB ?_ | refine b_stL (by (conv => {lhs; whnf}); done) (by (conv => {lhs; whnf}); done) (by first | exact (by exact rfl) | exact cells_of_len hF.len | fail) (by exact rfl) (by exact rfl) (by exact Nat.le_of_ble_eq_true rfl) (by (conv => {lhs; simp only [sc, List.set_cons_zero, List.set_cons_succ]}); done) ?_ | refine b_box (by (conv => {lhs; whnf}); done) (by exact rfl) (by exact rfl) (by exact rfl) (by exact rfl) ?_ | refine b_alloc (by exact rfl) (by exact rfl) ?_ | fail)) | refine b_nil ?_ | fail))
    | (refine gateO ?_; (first | refine b_move (by (conv => {lhs; whnf}); done) ?_ | (refine b_fa (by (conv => {lhs; whnf}); done) ?_; first | refine f_loc (by (conv => {lhs; whnf}); done) ?_ | refine f_ptr (by (conv => {lhs; whnf}); done) ?_) | (refine b_load (by (conv => {lhs; whnf}); done) ?_; (first | refine l_loc1 (by exact rfl) (by exact rfl) ?_ | refine l_locA (by exact rfl) (by exact rfl) ?_ | refine l_FL (FL.app hF _) (by first | omega | (have hp := good_place hG (i := (k : Int)) (j := (j : Int)) (by omega) (by omega) (by omega) (by omega); omega) | fail) ?_ | fail)) | refine b_iaF (by (conv => {lhs; whnf}); done) (by (conv => {lhs; whnf}); done) (by exact hF.len) (by first | omega | (have hp := good_place hG (i := (k : Int)) (j := (j : Int)) (by omega) (by omega) (by omega) (by omega); omega) | fail) ?_ | (refine b_bin (by (conv => {lhs; whnf}); done) (by (conv => {lhs; whnf}); done) (by (conv => {lhs; whnf}); done) ?_; (first | refine v_w (by first | omega | (have hp := good_place hG (i := (k : Int)) (j := (j : Int)) (by omega) (by omega) (by omega) (by omega); omega) | fail) ?_ | refine v_T (by omega) ?_ | refine v_F (by omega) ?_ | refine v_w (by omega) ?_ | refine v_wu (by omega) ?_ | refine v_k ?_ | refine v_c (by omega) ?_ | fail)) | refine b_assignF (by kernel_rfl) ?_ | refine b_assignI ?_ | refine b_assignN ?_ | refine b_assign (by (conv => {lhs; whnf}); done) ?_ | refine b_callB ?_ | refine b_stL (by (conv => {lhs; whnf}); done) (by (conv => {lhs; whnf}); done) (by first | exact (by exact rfl) | exact cells_of_len hF.len | fail) (by exact rfl) (by exact rfl) (by exact Nat.le_of_ble_eq_true rfl) (by (conv => {lhs; simp only [sc, List.set_cons_zero, List.set_cons_succ]}); done) ?_ | refine b_box (by (conv => {lhs; whnf}); done) (by exact rfl) (by exact rfl) (by exact rfl) (by exact rfl) ?_ | refine b_alloc (by exact rfl) (by exact rfl) ?_ | fail))
    | (refine gateD ?_; (first | (refine d_c0 (by exact rfl) ?_; (first | refine b_move (by (conv => {lhs; whnf}); done) ?_ | (refine b_fa (by (conv => {lhs; whnf}); done) ?_; first | refine f_loc (by (conv => {lhs; whnf}); done) ?_ | refine f_ptr (by (conv => {lhs; whnf}); done) ?_) | (refine b_load (by (conv => {lhs; whnf}); done) ?_; (first | refine l_loc1 (by exact rfl) (by exact rfl) ?_ | refine l_locA (by exact rfl) (by exact rfl) ?_ | refine l_FL (FL.app hF _) (by first | omega | (have hp := good_place hG (i := (k : Int)) (j := (j : Int)) (by omega) (by omega) (by omega) (by omega); omega) | fail) ?_ | fail)) | refine b_iaF (by (conv => {lhs; whnf}); done) (by (conv => {lhs; whnf}); done) (by exact hF.len) (by first | omega | (have hp := good_place hG (i := (k : Int)) (j := (j : Int)) (by omega) (by omega) (by omega) (by omega); omega) | fail) ?_ | (refine b_bin (by (conv => {lhs; whnf}); done) (by (conv => {lhs; whnf}); done) (by (conv => {lhs; whnf}); done) ?_; (first | refine v_w (by first | omega | (have hp := good_place hG (i := (k : Int)) (j := (j : Int)) (by omega) (by omega) (by omega) (by omega); omega) | fail) ?_ | refine v_T (by omega) ?_ | refine v_F (by omega) ?_ | refine v_w (by omega) ?_ | refine v_wu (by omega) ?_ | refine v_k ?_ | refine v_c (by omega) ?_ | fail)) | refine b_assignF (by kernel_rfl) ?_ | refine b_assignI ?_ | refine b_assignN ?_ | refine b_assign (by (conv => {lhs; whnf}); done) ?_ | refine b_callB ?_ | refine b_stL (by (conv => {lhs; whnf}); done) (by (conv => {lhs; whnf}); done) (by first | exact (by exact rfl) | exact cells_of_len hF.len | fail) (by exact rfl) (by exact rfl) (by exact Nat.le_of_ble_eq_true rfl) (by (conv => {lhs; simp only [sc, List.set_cons_zero, List.set_cons_succ]}); done) ?_ | refine b_box (by (conv => {lhs; whnf}); done) (by exact rfl) (by exact rfl) (by exact rfl) (by exact rfl) ?_ | refine b_alloc (by exact rfl) (by exact rfl) ?_ | fail)) | refine d_nil ?_ | fail))
    | (refine gateC ?_; (first | refine k_lt ?_ | refine k_ld (by (conv => {lhs; whnf}); done) (by exact rfl) ?_ | refine k_ldT (by (conv => {lhs; whnf}); done) ?_ | refine k_bin (by (conv => {lhs; whnf}); done) (by exact rfl) ?_ | refine k_mn ?_ | refine k_mnB (by exact rfl) ?_ | refine k_mnF ?_ | fail))
    | (refine gateT ?_; (first | refine b_thn ?_ | refine b_thr ?_ | refine b_the ?_ | fail))
    | (refine gateX ?_; (first | refine b_seq ?_ | refine b_region ?_ | (refine b_cond (by (conv => {lhs; whnf}); done) ?_; (first | refine c_T ?_ | refine c_F ?_ | refine c_P ?_ ?_ | refine c_B ?_ ?_ | fail)) | refine b_ret ?_ | refine b_skip ?_ | refine b_block ?_ | refine b_exit ?_ | refine b_draw [] [16] [(0, .ld true), (1, .lt), (2, .lt), (3, .lt), (4, .ld true), (5, .lt), (6, .ld true), (7, .lt), (8, .lt), (9, .lt), (10, .lt), (11, .ld true), (12, .lt), (13, .lt), (14, .lt), (15, .ld true), (16, .mn false)] (by kernel_rfl) ?_ | (refine b_loop [5, 4, 1, 2, 3] c (fun j => ⟨[(5, .val (.int .i64 (j : Int))), (4, .val (.int .i64 (k : Int))), (1, .loc 1 0), (2, .loc 2 0), (3, .loc 3 0)], [(1, [D, .int .i64 off, .int .i64 (r : Int), .int .i64 (c : Int), .int .i64 ld]), (2, [.int .i64 0, .int .i64 0, .slnil]), (3, [.int .i64 (r : Int), .int .i64 (c : Int), .slm (H.length + 0) (r * c) 0 (r * c) 1])], H ++ [fl (ofL (mel l off ld) r c (k * c + j))]⟩) (by exact rfl) ?_ ?_ <;> (first | intro j hj K hK | intro K) <;> (try dsimp only at *) <;> (try simp only [Int.natCast_add, Int.natCast_one] at *)) | (refine b_loop [4, 1, 2, 3] r (fun k => ⟨[(4, .val (.int .i64 (k : Int))), (1, .loc 1 0), (2, .loc 2 0), (3, .loc 3 0)], [(1, [D, .int .i64 off, .int .i64 (r : Int), .int .i64 (c : Int), .int .i64 ld]), (2, [.int .i64 0, .int .i64 0, .slnil]), (3, [.int .i64 (r : Int), .int .i64 (c : Int), .slm (H.length + 0) (r * c) 0 (r * c) 1])], H ++ [fl (ofL (mel l off ld) r c (k * c))]⟩) (by simp only [Nat.zero_mul, ofL_zero]; exact rfl) ?_ ?_ <;> (first | intro k hk K hK | intro K) <;> (try dsimp only at *) <;> (try simp only [Int.natCast_add, Int.natCast_one, Nat.add_mul, Nat.one_mul] at *)) | fail))
    | refine a_cons (by (conv => {lhs; whnf}); done) ?_
    | refine a_nil ?_
    | (refine gateK ?_; (first | refine c_call (new_k _ _ r c (by omega) (by omega) _ (by (conv => {lhs; simp only [List.length_append, List.length_cons, List.length_nil, List.length_set, Nat.reduceAdd, Nat.zero_add]}); done) (by (conv => {lhs; simp only [List.append_assoc, List.cons_append, List.nil_append]}); done)) (OldOk.app (by simp)) ?_ | refine c_call (tset_c _ _ _ (ofL (mel l off ld) r c (k * c + j)) (hg_new (by exact rfl) rfl) r c (by simp) (by omega) (by omega) k j (by omega) (by omega) _ (by rw [ofL_set (by omega) (by omega) (by exact rfl)]; exact hs_new (by exact rfl) (by (conv => {lhs; simp only [List.set_cons_zero, List.set_cons_succ]}); done))) (OldOk.app (by simp)) ?_ | fail))
    | (refine gateB ?_; (first | refine b_bln ?_ | refine b_blr ?_ | refine b_ble ?_ | refine b_blo (by exact rfl) ?_ | fail))
    | (refine gateL ?_; (first | refine lp_n ?_ | refine lp_r ?_ | refine lp_e ?_ | fail))
    | (refine pr_k (by exact rfl) ?_; first | exact hK | fail | (exfalso; first | omega | (simp_all; done) | (simp_all; omega)))
    | (refine gateQ ?_; refine b_retK (by simp) (by (conv => {lhs; whnf}); done) ?_)
    | (refine gateR ?_; (first | refine rk_tmp (by (conv => {lhs; whnf}); done) ?_ | refine rk_cellA (by (conv => {lhs; whnf}); done) (by exact rfl) (by exact rfl) ?_ | refine rk_cell1 (by (conv => {lhs; whnf}); done) (by exact rfl) (by exact rfl) ?_ | refine rk_nil ?_ | fail))
    | intro _)
  all_goals first
    | (refine rv_fr rfl ?_; simp only [ofL_all]; exact Fr.agg (Frs.cons (Fr.old (by simp [mx])) (Frs.cons (Fr.old (by simp [mx])) (Frs.cons (Fr.fz (by omega) (by simp) (hg_new rfl rfl) (by simp) (gc_all _ (by simp)) (Frs.old (by rw [mxL_fl]; exact Nat.zero_le _))) Frs.nil))))


set_option maxHeartbeats 4000000 in
theorem vat_c (H : List (List AV)) (D : AV) (l : List Nat) (hF : FL H D l) (off rows cols ld : Int) (hI : MI l.length off rows cols ld) (hG : GoodP l.length off rows cols ld) (i j : Int) (hi : 0 ≤ i) (hj : 0 ≤ j) (hi' : i < rows) (hj' : j < cols) :
    CSpec Try.prog 29 [mt D off rows cols ld, .int .i64 i, .int .i64 j] H (.flt (mel l off ld i.toNat j.toNat)) H := by
  obtain ⟨hn, ho1, ho2, hr1, hr2, hc1, hc2, hl1, hl2⟩ := id hI
  have hpl := (plV_T (show PlaceP l.length off rows cols ld i j from ⟨hG, hi, hj, hi', hj'⟩)).1
  have hpl0 := (plV_T (show PlaceP l.length off rows cols ld i j from ⟨hG, hi, hj, hi', hj'⟩)).2
  have hpl9 := pl_lt hpl0
  have hij : (i.toNat : Int) = i ∧ (j.toNat : Int) = j := ⟨by omega, by omega⟩
  have hmul : (j.toNat : Int) * ld = j * ld := by rw [hij.2]
  refine .mk (fun args w => Try.call29 args w) (Spec.intro' (fn := Try.f29) Try.func29 rfl (by kernel_rfl) (by simp) false [] (draw := drawX Try.prog ⟨false, _, []⟩) dOk ?_)
  simp only [argE, Nat.reduceAdd]
  repeat' (first
    | (refine gateE ?_; (first | (refine b_c0 ?_; (first | refine b_move (by (conv => {lhs; whnf}); done) ?_ | (refine b_fa (by (conv => {lhs; whnf}); done) ?_; first | refine f_loc (by (conv => {lhs; whnf}); done) ?_ | refine f_ptr (by (conv => {lhs; whnf}); done) ?_) | (refine b_load (by (conv => {lhs; whnf}); done) ?_; (first | refine l_loc1 (by exact rfl) (by exact rfl) ?_ | refine l_locA (by exact rfl) (by exact rfl) ?_ | refine l_FL (FL.app hF _) (by omega) ?_ | fail)) | refine b_iaF (by (conv => {lhs; whnf}); done) (by (conv => {lhs; whnf}); done) (by exact hF.len) (by omega) ?_ | (refine b_bin (by (conv => {lhs; whnf}); done) (by (conv => {lhs; whnf}); done) (by (conv => {lhs; whnf}); done) ?_; (first | refine v_T (by omega) ?_ | refine v_F (by omega) ?_ | refine v_w (by omega) ?_ | refine v_wu (by omega) ?_ | refine v_k ?_ | refine v_c (by omega) ?_ | fail)) | refine b_assignF (by kernel_rfl) ?_ | refine b_assignI ?_ | refine b_assignN ?_ | refine b_assign (by (conv => {lhs; whnf}); done) ?_ | refine b_callB ?_ | refine b_box (by (conv => {lhs; whnf}); done) (by exact rfl) (by exact rfl) (by exact rfl) (by exact rfl) ?_ | fail)) | refine b_nil ?_ | fail))
    | (refine gateT ?_; (first | refine b_thn ?_ | refine b_thr ?_ | refine b_the ?_ | fail))
    | (refine gateX ?_; (first | refine b_seq ?_ | refine b_region ?_ | (refine b_cond (by (conv => {lhs; whnf}); done) ?_; (first | refine c_T ?_ | refine c_F ?_ | refine c_P ?_ ?_ | refine c_B ?_ ?_ | fail)) | refine b_ret ?_ | refine b_skip ?_ | refine b_block ?_ | refine b_exit ?_ | fail))
    | refine a_cons (by (conv => {lhs; whnf}); done) ?_
    | refine a_nil ?_
    | (refine gateK ?_; (first | refine c_call (place_c _ D l.length off rows cols ld hF.len hI i j (by omega) (by omega) (by omega) (by omega)) (OldOk.app (by simp)) ?_ | fail))
    | (refine gateQ ?_; refine b_retK (by simp) (by (conv => {lhs; whnf}); done) ?_)
    | (refine gateR ?_; (first | refine rk_tmp (by (conv => {lhs; whnf}); done) ?_ | refine rk_cellA (by (conv => {lhs; whnf}); done) (by exact rfl) (by exact rfl) ?_ | refine rk_cell1 (by (conv => {lhs; whnf}); done) (by exact rfl) (by exact rfl) ?_ | refine rk_nil ?_ | fail))
    | intro _)
  all_goals first | refine rv_old rfl (by simp [mx, mxL, aOf, aOf1, resOne]) ?_ | (trace_state; fail)
  all_goals first
    | (refine congrArg AV.flt ?_; rw [mel_pos, hpl]; unfold pos; congr 2; omega)
    | (exfalso; omega)

theorem tat_m (H : List (List AV)) (A : AV) (g : Nat → Nat → Nat) (r c : Nat) (hA : FL H A (rmA g r c)) (hr : r ≤ 1000) (hc : c ≤ 1000) (i j : Nat) (hi : i < r) (hj : j < c) : CSpec Try.prog 27 [mM A r c, .int .i64 (i : Int), .int .i64 (j : Int)] H (.flt (g i j)) H := by
  have := tat_c H A _ hA r c (by simp) hr hc i j hi hj
  rwa [rmA_get hi hj] at this
theorem mat_pos {off ld : Int} {r c m i j : Nat} (hG : GoodP m off r c ld) (hi : i < r) (hj : j < c) : off + (i : Int) + (j : Int) * ld = ((pos off ld i j : Nat) : Int) := by
  have hp := good_place hG (i := (i : Int)) (j := (j : Int)) (by omega) (by omega) (by omega) (by omega)
  unfold pos
  omega
theorem hb_setN {H N : List (List AV)} {b : Nat} {X : List AV} (h : b < H.length) : (H.set b X ++ N)[b]? = some X := hg_old (hb_set h)
end Go.Sx

set_option linter.unusedVariables false
set_option linter.unusedSimpArgs false
namespace Go.Sx
/-! ### a table that becomes another one, number by number: column by column, row by row -/
def cS (g h : Nat → Nat → Nat) (j i : Nat) : Nat → Nat → Nat := fun i' j' => if j' < j ∨ (j' = j ∧ i' < i) then h i' j' else g i' j'
def rS (g h : Nat → Nat → Nat) (i j : Nat) : Nat → Nat → Nat := fun i' j' => if i' < i ∨ (i' = i ∧ j' < j) then h i' j' else g i' j'
theorem cS_zero {g h : Nat → Nat → Nat} (i' j' : Nat) : cS g h 0 0 i' j' = g i' j' := by unfold cS; rw [if_neg (by omega)]
theorem rS_zero {g h : Nat → Nat → Nat} (i' j' : Nat) : rS g h 0 0 i' j' = g i' j' := by unfold rS; rw [if_neg (by omega)]
theorem cS_step {g h : Nat → Nat → Nat} {i j : Nat} (i' j' : Nat) : updG (cS g h j i) i j (h i j) i' j' = cS g h j (i + 1) i' j' := by
  unfold updG cS
  by_cases e : i' = i ∧ j' = j
  · obtain ⟨rfl, rfl⟩ := e; rw [if_pos ⟨rfl, rfl⟩, if_pos (by omega)]
  · rw [if_neg e]
    by_cases h1 : j' < j ∨ (j' = j ∧ i' < i)
    · rw [if_pos h1, if_pos (by omega)]
    · rw [if_neg h1, if_neg (by omega)]
theorem rS_step {g h : Nat → Nat → Nat} {i j : Nat} (i' j' : Nat) : updG (rS g h i j) i j (h i j) i' j' = rS g h i (j + 1) i' j' := by
  unfold updG rS
  by_cases e : i' = i ∧ j' = j
  · obtain ⟨rfl, rfl⟩ := e; rw [if_pos ⟨rfl, rfl⟩, if_pos (by omega)]
  · rw [if_neg e]
    by_cases h1 : i' < i ∨ (i' = i ∧ j' < j)
    · rw [if_pos h1, if_pos (by omega)]
    · rw [if_neg h1, if_neg (by omega)]
theorem cS_next {g h : Nat → Nat → Nat} {j r : Nat} (i' j' : Nat) (hi : i' < r) : cS g h j r i' j' = cS g h (j + 1) 0 i' j' := by
  unfold cS
  by_cases h1 : j' < j ∨ (j' = j ∧ i' < r)
  · rw [if_pos h1, if_pos (by omega)]
  · rw [if_neg h1, if_neg (by omega)]
theorem cS_all {g h : Nat → Nat → Nat} {c : Nat} (i' j' : Nat) (hj : j' < c) : cS g h c 0 i' j' = h i' j' := by unfold cS; rw [if_pos (by omega)]
/-! ### panels -/
def ThereP (n : Nat) (rows cols i j : Int) : Prop := 0 ≤ i ∧ 0 ≤ j ∧ i < rows ∧ j < cols ∧ j < n ∧ i ≤ ((n : Int) - 1 - j) / cols
instance (n : Nat) (rows cols i j : Int) : Decidable (ThereP n rows cols i j) := by unfold ThereP; infer_instance
theorem there_lt {n : Nat} {rows cols i j : Int} (h : ThereP n rows cols i j) : 0 ≤ i * cols ∧ i * cols + j < n := by
  obtain ⟨h1, h2, h3, h4, h5, h6⟩ := h
  have h7 := (Int.le_ediv_iff_mul_le (show 0 < cols by omega)).1 h6
  exact ⟨Int.mul_nonneg h1 (by omega), by omega⟩
def WholeP (n : Nat) (rows cols : Int) : Prop := 0 ≤ rows ∧ 0 ≤ cols ∧ (n : Int) = rows * cols
instance (n : Nat) (rows cols : Int) : Decidable (WholeP n rows cols) := by unfold WholeP; infer_instance
theorem whole_0 {n : Nat} {rows cols : Int} (h1 : 0 ≤ rows) (h2 : 0 ≤ cols) (h : rows = 0 ∨ cols = 0) : WholeP n rows cols ↔ (n : Int) = 0 := by
  unfold WholeP
  rcases h with rfl | rfl <;> simp [h1, h2]
theorem whole_n {n : Nat} {rows cols : Int} (h1 : 0 < rows) (h2 : 0 < cols) : WholeP n rows cols ↔ ((n : Int) % cols = 0 ∧ (n : Int) / cols = rows) := by
  unfold WholeP
  constructor
  · rintro ⟨_, _, h⟩
    rw [h]
    exact ⟨Int.mul_emod_left _ _, Int.mul_ediv_cancel _ (by omega)⟩
  · rintro ⟨h3, h4⟩
    refine ⟨by omega, by omega, ?_⟩
    have := Int.mul_ediv_add_emod (n : Int) cols
    rw [h3, h4] at this
    rw [Int.mul_comm]; omega
theorem whole_there {n : Nat} {rows cols i j : Int} (h : WholeP n rows cols) (hi : 0 ≤ i) (hj : 0 ≤ j) (hi' : i < rows) (hj' : j < cols) : ThereP n rows cols i j := by
  obtain ⟨h1, h2, h3⟩ := h
  have h4 : i * cols ≤ (rows - 1) * cols := Int.mul_le_mul_of_nonneg_right (by omega) (by omega)
  have h5 : (rows - 1) * cols = rows * cols - cols := by rw [Int.sub_mul]; omega
  have h6 : 0 ≤ i * cols := Int.mul_nonneg hi h2
  exact ⟨hi, hj, hi', hj', by omega, (Int.le_ediv_iff_mul_le (by omega)).2 (by omega)⟩
def panV (l : List Nat) (rows cols i j : Int) : Nat := if ThereP l.length rows cols i j then l.getD (i * cols + j).toNat 0 else 0
/-- the numbers of a whole panel -/
def panG (l : List Nat) (cols : Int) (i j : Nat) : Nat := l.getD ((i : Int) * cols + (j : Int)).toNat 0
theorem pan_whole {l : List Nat} {rows cols : Int} (h : WholeP l.length rows cols) {i j : Nat} (hi : (i : Int) < rows) (hj : (j : Int) < cols) : panV l rows cols i j = panG l cols i j := by
  unfold panV panG
  rw [if_pos (whole_there h (by omega) (by omega) hi hj)]
end Go.Sx
namespace Go.Sx
/-! ### rounded up -/
def upN (n s : Nat) : Nat := (n + s - 1) / s * s
theorem upN_mod (n s : Nat) : upN n s % s = 0 := Nat.mul_mod_left _ _
theorem upN_ge {n s : Nat} (hs : 0 < s) : n ≤ upN n s := by
  unfold upN
  have h1 := Nat.div_add_mod (n + s - 1) s
  have h2 := Nat.mod_lt (n + s - 1) hs
  rw [Nat.mul_comm] at h1
  omega
theorem upN_lt {n s : Nat} (hs : 0 < s) : upN n s < n + s := by
  unfold upN
  have h1 := Nat.div_mul_le_self (n + s - 1) s
  omega
theorem upN_first {n s k : Nat} (hs : 0 < s) (hk : n + k < upN n s) : (n + k) % s ≠ 0 := by
  intro h
  have h1 : s * ((n + k) / s) = n + k := by have := Nat.div_add_mod (n + k) s; omega
  have h2 := upN_lt (n := n) hs
  have h3 : s * ((n + k) / s) < s * ((n + s - 1) / s) := by rw [h1, Nat.mul_comm]; exact hk
  have h4 : (n + k) / s < (n + s - 1) / s := Nat.lt_of_mul_lt_mul_left h3
  have h5 : s * ((n + k) / s + 1) ≤ s * ((n + s - 1) / s) := Nat.mul_le_mul_left _ h4
  rw [Nat.mul_add, h1] at h5
  have h6 : s * ((n + s - 1) / s) = upN n s := by unfold upN; rw [Nat.mul_comm]
  omega
def padG (g : Nat → Nat → Nat) (r c : Nat) : Nat → Nat → Nat := fun i j => if i < r ∧ j < c then g i j else 0
theorem pad_next {g : Nat → Nat → Nat} {r c k : Nat} (i' j' : Nat) : rS (fun _ _ => 0) (padG g r c) k c i' j' = rS (fun _ _ => 0) (padG g r c) (k + 1) 0 i' j' := by
  unfold rS padG
  grind
theorem pad_all {g : Nat → Nat → Nat} {r c : Nat} (i' j' : Nat) : rS (fun _ _ => 0) (padG g r c) r 0 i' j' = padG g r c i' j' := by
  unfold rS
  split
  · rfl
  · unfold padG; rw [if_neg (by omega)]
theorem pad_in {g : Nat → Nat → Nat} {r c i j : Nat} (hi : i < r) (hj : j < c) : padG g r c i j = g i j := by unfold padG; rw [if_pos ⟨hi, hj⟩]
theorem panG_rm {g : Nat → Nat → Nat} {R C i j : Nat} (hi : i < R) (hj : j < C) : panG (rmA g R C) (C : Int) i j = g i j := by
  unfold panG rmA
  have e : ((i : Int) * (C : Int) + (j : Int)).toNat = i * C + j := by
    rw [← Int.natCast_mul, ← Int.natCast_add, Int.toNat_natCast]
  have h1 : i * C + j < R * C := ix_lt hi hj
  rw [e, rml_get h1]
  have e1 : (i * C + j) / C = i := by rw [Nat.mul_comm, Nat.mul_add_div (by omega), Nat.div_eq_of_lt hj]; omega
  have e2 : (i * C + j) % C = j := by rw [Nat.mul_comm, Nat.mul_add_mod, Nat.mod_eq_of_lt hj]
  rw [e1, e2]
theorem setM_first {L : List Nat} {off ld : Int} {r c x : Nat} {g : Nat → Nat → Nat} (hG : GoodP L.length off r c ld) (hr : 0 < r) (hc : 0 < c) : setM (L.set (pos off ld 0 0) x) off ld r c g = setM L off ld r c g := by
  have h := set_setM (L := L) (g := mel L off ld) hG (i := 0) (j := 0) (x := x) hr hc
  rw [setM_mel hG.2.2.2.1 hG.2.2.1] at h
  rw [h, setM_setM]
end Go.Sx

set_option linter.unusedVariables false
set_option linter.unusedSimpArgs false
set_option maxRecDepth 20000
namespace Go.Sx
open Go.Proofs
attribute [local irreducible] Ex exOps exD opX opE thenX blkX RetQ Spec CSpec Fr condK guardK guardD ckK valK pickK loadK faK callK argK gK fK rK RetV lpX prK
set_option maxHeartbeats 4000000 in
theorem pat_c (H : List (List AV)) (P : AV) (pl : List Nat) (hP : FL H P pl) (hpm : pl.length ≤ 2 ^ 30) (pr pc : Int) (hpr : -9223372036854775808 ≤ pr ∧ pr ≤ 9223372036854775807) (hpc : -9223372036854775808 ≤ pc ∧ pc ≤ 9223372036854775807) (i j : Int) (hi : -9223372036854775808 ≤ i ∧ i ≤ 9223372036854775807) (hj : -9223372036854775808 ≤ j ∧ j ≤ 9223372036854775807) :
    CSpec Try.prog 8 [.agg [.int .i64 pr, .int .i64 pc, P], .int .i64 i, .int .i64 j] H (.flt (panV pl pr pc i j)) H := by
  refine .mk (fun args w => Try.call8 args w) (Spec.intro' (fn := Try.f8) Try.func8 rfl (by kernel_rfl) (by simp) false [] (draw := drawX Try.prog ⟨false, _, []⟩) dOk ?_)
  simp only [argE, Nat.reduceAdd]
  repeat' (first
    | (refine gateE ?_; (first | (refine b_c0 ?_; (first | refine b_move (by (conv => {lhs; whnf}); done) ?_ | (refine b_fa (by (conv => {lhs; whnf}); done) ?_; first | refine f_loc (by (conv => {lhs; whnf}); done) ?_ | refine f_ptr (by (conv => {lhs; whnf}); done) ?_) | (refine b_load (by (conv => {lhs; whnf}); done) ?_; (first | refine l_loc1 (by exact rfl) (by exact rfl) ?_ | refine l_locA (by exact rfl) (by exact rfl) ?_ | refine l_FL (hP.app _) (by have h1 := there_lt (show ThereP pl.length pr pc i j by unfold ThereP; omega); omega) ?_ | fail)) | refine b_lenA (by (conv => {lhs; whnf}); done) (by exact hP.len) ?_ | refine b_iaF (by (conv => {lhs; whnf}); done) (by (conv => {lhs; whnf}); done) (by exact hP.len) (by have h1 := there_lt (show ThereP pl.length pr pc i j by unfold ThereP; omega); omega) ?_ | (refine b_bin (by (conv => {lhs; whnf}); done) (by (conv => {lhs; whnf}); done) (by (conv => {lhs; whnf}); done) ?_; (first | refine v_w (by first | omega | (have h1 := there_lt (show ThereP pl.length pr pc i j by unfold ThereP; omega); omega) | fail) ?_ | refine v_T (by omega) ?_ | refine v_F (by omega) ?_ | refine v_w (by omega) ?_ | refine v_wu (by omega) ?_ | refine v_qc (by omega) (by omega) ?_ | refine v_k ?_ | refine v_c (by omega) ?_ | fail)) | (refine b_pick (by (conv => {lhs; whnf}); done) ?_; (first | refine p_T (by (conv => {lhs; whnf}); done) ?_ | refine p_F (by (conv => {lhs; whnf}); done) ?_ | fail)) | refine b_assignF (by kernel_rfl) ?_ | refine b_assignI ?_ | refine b_assignN ?_ | refine b_assign (by (conv => {lhs; whnf}); done) ?_ | refine b_lenA (by (conv => {lhs; whnf}); done) (by first | rfl | assumption) ?_ | refine b_box (by (conv => {lhs; whnf}); done) (by exact rfl) (by exact rfl) (by exact rfl) (by exact rfl) ?_ | fail)) | refine b_nil ?_ | refine b_gT (by exact rfl) (by exact rfl) ?_ | refine b_gF (by exact rfl) (by exact rfl) (by exact rfl) ?_ | refine b_gU (by exact rfl) (by exact rfl) (by constructor <;> simp) (by exact rfl) (by exact rfl) ?_ | (refine b_g0 (by exact rfl) (by exact rfl) (by (conv => {lhs; whnf}); done) ?_; (first | refine g_TT ?_ | refine g_FF ?_ | refine g_TF ?_ | refine g_FT ?_ | refine g_PT ?_ ?_ | refine g_PF ?_ ?_ | refine g_BT ?_ ?_ | refine g_BF ?_ ?_ | fail)) | (refine b_g1 (by exact rfl) (by exact rfl) (by exact rfl) (by (conv => {lhs; whnf}); done) ?_; (first | refine g_TT ?_ | refine g_FF ?_ | refine g_TF ?_ | refine g_FT ?_ | refine g_PT ?_ ?_ | refine g_PF ?_ ?_ | refine g_BT ?_ ?_ | refine g_BF ?_ ?_ | fail)) | refine b_c1 (by exact rfl) ?_ | fail))
    | (refine gateO ?_; (first | refine b_move (by (conv => {lhs; whnf}); done) ?_ | (refine b_fa (by (conv => {lhs; whnf}); done) ?_; first | refine f_loc (by (conv => {lhs; whnf}); done) ?_ | refine f_ptr (by (conv => {lhs; whnf}); done) ?_) | (refine b_load (by (conv => {lhs; whnf}); done) ?_; (first | refine l_loc1 (by exact rfl) (by exact rfl) ?_ | refine l_locA (by exact rfl) (by exact rfl) ?_ | refine l_FL (hP.app _) (by have h1 := there_lt (show ThereP pl.length pr pc i j by unfold ThereP; omega); omega) ?_ | fail)) | refine b_lenA (by (conv => {lhs; whnf}); done) (by exact hP.len) ?_ | refine b_iaF (by (conv => {lhs; whnf}); done) (by (conv => {lhs; whnf}); done) (by exact hP.len) (by have h1 := there_lt (show ThereP pl.length pr pc i j by unfold ThereP; omega); omega) ?_ | (refine b_bin (by (conv => {lhs; whnf}); done) (by (conv => {lhs; whnf}); done) (by (conv => {lhs; whnf}); done) ?_; (first | refine v_w (by first | omega | (have h1 := there_lt (show ThereP pl.length pr pc i j by unfold ThereP; omega); omega) | fail) ?_ | refine v_T (by omega) ?_ | refine v_F (by omega) ?_ | refine v_w (by omega) ?_ | refine v_wu (by omega) ?_ | refine v_qc (by omega) (by omega) ?_ | refine v_k ?_ | refine v_c (by omega) ?_ | fail)) | (refine b_pick (by (conv => {lhs; whnf}); done) ?_; (first | refine p_T (by (conv => {lhs; whnf}); done) ?_ | refine p_F (by (conv => {lhs; whnf}); done) ?_ | fail)) | refine b_assignF (by kernel_rfl) ?_ | refine b_assignI ?_ | refine b_assignN ?_ | refine b_assign (by (conv => {lhs; whnf}); done) ?_ | refine b_lenA (by (conv => {lhs; whnf}); done) (by first | rfl | assumption) ?_ | refine b_box (by (conv => {lhs; whnf}); done) (by exact rfl) (by exact rfl) (by exact rfl) (by exact rfl) ?_ | fail))
    | (refine gateT ?_; (first | refine b_thn ?_ | refine b_thr ?_ | refine b_the ?_ | fail))
    | (refine gateX ?_; (first | refine b_seq ?_ | refine b_region ?_ | (refine b_cond (by (conv => {lhs; whnf}); done) ?_; (first | refine c_T ?_ | refine c_F ?_ | refine c_P ?_ ?_ | refine c_B ?_ ?_ | fail)) | refine b_ret ?_ | refine b_skip ?_ | refine b_block ?_ | refine b_exit ?_ | fail))
    | (refine gateQ ?_; refine b_retK (by simp) (by (conv => {lhs; whnf}); done) ?_)
    | (refine gateR ?_; (first | refine rk_tmp (by (conv => {lhs; whnf}); done) ?_ | refine rk_cellA (by (conv => {lhs; whnf}); done) (by exact rfl) (by exact rfl) ?_ | refine rk_cell1 (by (conv => {lhs; whnf}); done) (by exact rfl) (by exact rfl) ?_ | refine rk_nil ?_ | fail))
    | intro _)
  all_goals first | refine rv_old rfl (by simp [mx, mxL, aOf, aOf1, resOne]) ?_ | (trace_state; fail)
  all_goals first
    | (refine congrArg AV.flt ?_; unfold panV; rw [if_neg (by unfold ThereP; omega)]; first | done | rfl | exact (by decide))
    | (refine congrArg AV.flt ?_; unfold panV; rw [if_pos (by unfold ThereP; omega)]; first | done | rfl)

set_option maxHeartbeats 4000000 in
theorem pwhole_c (H : List (List AV)) (P : AV) (pl : List Nat) (hP : FL H P pl) (hpm : pl.length ≤ 2 ^ 30) (pr pc : Int) (hpr : -9223372036854775808 ≤ pr ∧ pr ≤ 9223372036854775807) (hpc : -9223372036854775808 ≤ pc ∧ pc ≤ 9223372036854775807) :
    CSpec Try.prog 24 [.agg [.int .i64 pr, .int .i64 pc, P]] H (.bool (decide (WholeP pl.length pr pc))) H := by
  refine .mk (fun args w => Try.call24 args w) (Spec.intro' (fn := Try.f24) Try.func24 rfl (by kernel_rfl) (by simp) false [] (draw := drawX Try.prog ⟨false, _, []⟩) dOk ?_)
  simp only [argE, Nat.reduceAdd]
  repeat' (first
    | (refine gateE ?_; (first | (refine b_c0 ?_; (first | refine b_move (by (conv => {lhs; whnf}); done) ?_ | (refine b_fa (by (conv => {lhs; whnf}); done) ?_; first | refine f_loc (by (conv => {lhs; whnf}); done) ?_ | refine f_ptr (by (conv => {lhs; whnf}); done) ?_) | (refine b_load (by (conv => {lhs; whnf}); done) ?_; (first | refine l_loc1 (by exact rfl) (by exact rfl) ?_ | refine l_locA (by exact rfl) (by exact rfl) ?_ | fail)) | refine b_lenA (by (conv => {lhs; whnf}); done) (by exact hP.len) ?_ | (refine b_binB (by first | (conv => {lhs; whnf}; done) | exact (by exact rfl) | fail) (by first | (conv => {lhs; whnf}; done) | exact (by exact rfl) | fail) ?_; (first | refine v_bbT (by exact rfl) ?_ | refine v_k ?_ | fail)) | (refine b_bin (by (conv => {lhs; whnf}); done) (by (conv => {lhs; whnf}); done) (by (conv => {lhs; whnf}); done) ?_; (first | refine v_eT (by omega) ?_ | refine v_eF (by omega) ?_ | refine v_eP ?_ | refine v_T (by omega) ?_ | refine v_F (by omega) ?_ | refine v_w (by omega) ?_ | refine v_wu (by omega) ?_ | refine v_mod (by omega) (by omega) ?_ | refine v_qc (by omega) (by omega) ?_ | refine v_k ?_ | refine v_c (by omega) ?_ | fail)) | (refine b_pick (by (conv => {lhs; whnf}); done) ?_; (first | refine p_T (by (conv => {lhs; whnf}); done) ?_ | refine p_F (by (conv => {lhs; whnf}); done) ?_ | fail)) | refine b_assignF (by kernel_rfl) ?_ | refine b_assignI ?_ | refine b_assignN ?_ | refine b_assign (by (conv => {lhs; whnf}); done) ?_ | refine b_lenA (by (conv => {lhs; whnf}); done) (by first | rfl | assumption) ?_ | refine b_box (by (conv => {lhs; whnf}); done) (by exact rfl) (by exact rfl) (by exact rfl) (by exact rfl) ?_ | fail)) | refine b_nil ?_ | refine b_gT (by exact rfl) (by exact rfl) ?_ | refine b_gF (by exact rfl) (by exact rfl) (by exact rfl) ?_ | refine b_gU (by exact rfl) (by exact rfl) (by constructor <;> simp) (by exact rfl) (by exact rfl) ?_ | (refine b_g0 (by exact rfl) (by exact rfl) (by (conv => {lhs; whnf}); done) ?_; (first | refine g_TT ?_ | refine g_FF ?_ | refine g_TF ?_ | refine g_FT ?_ | refine g_PT ?_ ?_ | refine g_PF ?_ ?_ | refine g_BT ?_ ?_ | refine g_BF ?_ ?_ | fail)) | (refine b_g1 (by exact rfl) (by exact rfl) (by exact rfl) (by (conv => {lhs; whnf}); done) ?_; (first | refine g_TT ?_ | refine g_FF ?_ | refine g_TF ?_ | refine g_FT ?_ | refine g_PT ?_ ?_ | refine g_PF ?_ ?_ | refine g_BT ?_ ?_ | refine g_BF ?_ ?_ | fail)) | refine b_c1 (by exact rfl) ?_ | fail))
    | (refine gateO ?_; (first | refine b_move (by (conv => {lhs; whnf}); done) ?_ | (refine b_fa (by (conv => {lhs; whnf}); done) ?_; first | refine f_loc (by (conv => {lhs; whnf}); done) ?_ | refine f_ptr (by (conv => {lhs; whnf}); done) ?_) | (refine b_load (by (conv => {lhs; whnf}); done) ?_; (first | refine l_loc1 (by exact rfl) (by exact rfl) ?_ | refine l_locA (by exact rfl) (by exact rfl) ?_ | fail)) | refine b_lenA (by (conv => {lhs; whnf}); done) (by exact hP.len) ?_ | (refine b_binB (by first | (conv => {lhs; whnf}; done) | exact (by exact rfl) | fail) (by first | (conv => {lhs; whnf}; done) | exact (by exact rfl) | fail) ?_; (first | refine v_bbT (by exact rfl) ?_ | refine v_k ?_ | fail)) | (refine b_bin (by (conv => {lhs; whnf}); done) (by (conv => {lhs; whnf}); done) (by (conv => {lhs; whnf}); done) ?_; (first | refine v_eT (by omega) ?_ | refine v_eF (by omega) ?_ | refine v_eP ?_ | refine v_T (by omega) ?_ | refine v_F (by omega) ?_ | refine v_w (by omega) ?_ | refine v_wu (by omega) ?_ | refine v_mod (by omega) (by omega) ?_ | refine v_qc (by omega) (by omega) ?_ | refine v_k ?_ | refine v_c (by omega) ?_ | fail)) | (refine b_pick (by (conv => {lhs; whnf}); done) ?_; (first | refine p_T (by (conv => {lhs; whnf}); done) ?_ | refine p_F (by (conv => {lhs; whnf}); done) ?_ | fail)) | refine b_assignF (by kernel_rfl) ?_ | refine b_assignI ?_ | refine b_assignN ?_ | refine b_assign (by (conv => {lhs; whnf}); done) ?_ | refine b_lenA (by (conv => {lhs; whnf}); done) (by first | rfl | assumption) ?_ | refine b_box (by (conv => {lhs; whnf}); done) (by exact rfl) (by exact rfl) (by exact rfl) (by exact rfl) ?_ | fail))
    | (refine gateD ?_; (first | (refine d_c0 (by exact rfl) ?_; (first | refine b_move (by (conv => {lhs; whnf}); done) ?_ | (refine b_fa (by (conv => {lhs; whnf}); done) ?_; first | refine f_loc (by (conv => {lhs; whnf}); done) ?_ | refine f_ptr (by (conv => {lhs; whnf}); done) ?_) | (refine b_load (by (conv => {lhs; whnf}); done) ?_; (first | refine l_loc1 (by exact rfl) (by exact rfl) ?_ | refine l_locA (by exact rfl) (by exact rfl) ?_ | fail)) | refine b_lenA (by (conv => {lhs; whnf}); done) (by exact hP.len) ?_ | (refine b_binB (by first | (conv => {lhs; whnf}; done) | exact (by exact rfl) | fail) (by first | (conv => {lhs; whnf}; done) | exact (by exact rfl) | fail) ?_; (first | refine v_bbT (by exact rfl) ?_ | refine v_k ?_ | fail)) | (refine b_bin (by (conv => {lhs; whnf}); done) (by (conv => {lhs; whnf}); done) (by (conv => {lhs; whnf}); done) ?_; (first | refine v_eT (by omega) ?_ | refine v_eF (by omega) ?_ | refine v_eP ?_ | refine v_T (by omega) ?_ | refine v_F (by omega) ?_ | refine v_w (by omega) ?_ | refine v_wu (by omega) ?_ | refine v_mod (by omega) (by omega) ?_ | refine v_qc (by omega) (by omega) ?_ | refine v_k ?_ | refine v_c (by omega) ?_ | fail)) | (refine b_pick (by (conv => {lhs; whnf}); done) ?_; (first | refine p_T (by (conv => {lhs; whnf}); done) ?_ | refine p_F (by (conv => {lhs; whnf}); done) ?_ | fail)) | refine b_assignF (by kernel_rfl) ?_ | refine b_assignI ?_ | refine b_assignN ?_ | refine b_assign (by (conv => {lhs; whnf}); done) ?_ | refine b_lenA (by (conv => {lhs; whnf}); done) (by first | rfl | assumption) ?_ | refine b_box (by (conv => {lhs; whnf}); done) (by exact rfl) (by exact rfl) (by exact rfl) (by exact rfl) ?_ | fail)) | refine d_nil ?_ | refine d_gT (by exact rfl) (by exact rfl) (by exact rfl) ?_ | refine d_gF (by exact rfl) (by exact rfl) (by exact rfl) (by exact rfl) ?_ | refine d_gU (by exact rfl) (by exact rfl) (by exact rfl) (by constructor <;> simp) (by exact rfl) (by exact rfl) ?_ | (refine d_g0 (by exact rfl) (by exact rfl) (by exact rfl) (by (conv => {lhs; whnf}); done) ?_; (first | refine dg_TT ?_ | refine dg_FF ?_ | refine dg_TF ?_ | refine dg_FT ?_ | refine dg_PT ?_ ?_ | refine dg_PF ?_ ?_ | refine dg_BT ?_ ?_ | refine dg_BF ?_ ?_ | fail)) | (refine d_g1 (by exact rfl) (by exact rfl) (by exact rfl) (by exact rfl) (by (conv => {lhs; whnf}); done) ?_; (first | refine dg_TT ?_ | refine dg_FF ?_ | refine dg_TF ?_ | refine dg_FT ?_ | refine dg_PT ?_ ?_ | refine dg_PF ?_ ?_ | refine dg_BT ?_ ?_ | refine dg_BF ?_ ?_ | fail)) | refine d_c1 (by exact rfl) (by exact rfl) ?_ | fail))
    | (refine gateC ?_; (first | refine k_lt ?_ | refine k_fz ?_ | refine k_lb (by (conv => {lhs; whnf}); done) ?_ | refine k_ms ?_ | refine k_bx (by exact rfl) (by exact rfl) ?_ | refine k_ld (by (conv => {lhs; whnf}); done) (by exact rfl) ?_ | refine k_ldT (by (conv => {lhs; whnf}); done) ?_ | refine k_bin (by (conv => {lhs; whnf}); done) (by exact rfl) ?_ | refine k_mn ?_ | refine k_mnB (by exact rfl) ?_ | refine k_mnF ?_ | refine k_mnL (by exact rfl) ?_ | fail))
    | (refine gateT ?_; (first | refine b_thn ?_ | refine b_thr ?_ | refine b_the ?_ | fail))
    | (refine gateX ?_; (first | refine b_seq ?_ | refine b_region ?_ | (refine b_cond (by (conv => {lhs; whnf}); done) ?_; (first | refine c_T ?_ | refine c_F ?_ | refine c_P ?_ ?_ | refine c_B ?_ ?_ | fail)) | refine b_ret ?_ | refine b_skip ?_ | refine b_block ?_ | refine b_exit ?_ | refine b_draw (id := 5) [] [] [(0, .lt), (1, .ld true), (2, .lt), (3, .lt), (4, .ld true), (5, .lt), (6, .ld true), (7, .lt), (8, .lt), (9, .ld true), (10, .lt), (11, .lt), (12, .ld true), (13, .lt), (14, .lt), (15, .ld true), (16, .ld true), (17, .lt), (18, .lt)] (by kernel_rfl) ?_ | fail))
    | (refine gateB ?_; (first | refine b_bln ?_ | refine b_blr ?_ | refine b_ble ?_ | refine b_blo (by exact rfl) ?_ | fail))
    | (refine gateQ ?_; refine b_retK (by simp) (by (conv => {lhs; whnf}); done) ?_)
    | (refine gateR ?_; (first | refine rk_tmp (by (conv => {lhs; whnf}); done) ?_ | refine rk_cellA (by (conv => {lhs; whnf}); done) (by exact rfl) (by exact rfl) ?_ | refine rk_cell1 (by (conv => {lhs; whnf}); done) (by exact rfl) (by exact rfl) ?_ | refine rk_nil ?_ | fail))
    | intro _)
  all_goals first | refine rv_old rfl (by simp [mx, mxL, aOf, aOf1, resOne]) ?_ | (trace_state; fail)
  all_goals first
    | exact rtF (by unfold WholeP; omega)
    | (refine congrArg AV.bool (decide_eq_decide.2 ?_); first | exact (whole_0 (by omega) (by omega) (by omega)).symm | exact (whole_n (by omega) (by omega)).symm | fail)
    | (refine rtF (fun h => ?_); have h := (whole_n (by omega) (by omega)).1 h; omega)
    | (refine rvP ?_; first | (rw [whole_0 (by omega) (by omega) (by omega)]; omega) | (rw [whole_n (by omega) (by omega)]; omega))
    | (refine rvT ?_; first | (rw [whole_0 (by omega) (by omega) (by omega)]; simp_all) | (rw [whole_n (by omega) (by omega)]; simp_all))


theorem pwhole_b (H : List (List AV)) (P : AV) (pl : List Nat) (hP : FL H P pl) (hpm : pl.length ≤ 2 ^ 30) (pr pc : Int) (hpr : -9223372036854775808 ≤ pr ∧ pr ≤ 9223372036854775807) (hpc : -9223372036854775808 ≤ pc ∧ pc ≤ 9223372036854775807) (bb : Bool) (h : decide (WholeP pl.length pr pc) = bb) : CSpec Try.prog 24 [.agg [.int .i64 pr, .int .i64 pc, P]] H (.bool bb) H := by
  subst h; exact pwhole_c H P pl hP hpm pr pc hpr hpc
theorem good_b (H : List (List AV)) (D : AV) (n : Nat) (off rows cols ld : Int) (hD : slen D = some n) (hI : MI n off rows cols ld) (bb : Bool) (h : decide (GoodP n off rows cols ld) = bb) : CSpec Try.prog 23 [mt D off rows cols ld] H (.bool bb) H := by
  subst h; exact good_c H D n off rows cols ld hD hI

theorem pat_n (H : List (List AV)) (P : AV) (pl : List Nat) (hP : FL H P pl) (hpm : pl.length ≤ 2 ^ 30) (pr pc : Int) (hpr : -9223372036854775808 ≤ pr ∧ pr ≤ 9223372036854775807) (hpc : -9223372036854775808 ≤ pc ∧ pc ≤ 9223372036854775807) (hw : WholeP pl.length pr pc) (i j : Nat) (hi : (i : Int) < pr) (hj : (j : Int) < pc) : CSpec Try.prog 8 [.agg [.int .i64 pr, .int .i64 pc, P], .int .i64 (i : Int), .int .i64 (j : Int)] H (.flt (panG pl pc i j)) H := by
  have h := pat_c H P pl hP hpm pr pc hpr hpc i j (by omega) (by omega)
  rwa [pan_whole hw hi hj] at h
theorem uset_s (H : List (List AV)) (b : Nat) (l : List Nat) (hbl : b < H.length) (off ld : Int) (r c : Nat) (hI : MI l.length off r c ld) (hG : GoodP l.length off r c ld) (g g' : Nat → Nat → Nat) (i j : Nat) (hi : i < r) (hj : j < c) (x : Nat) (hg : ∀ i' j', i' < r → j' < c → updG g i j x i' j' = g' i' j') (N : List (List AV)) :
    CSpec Try.prog 25 [mt (.slm b l.length 0 l.length 1) off r c ld, .int .i64 (i : Int), .int .i64 (j : Int), .flt x] (H.set b (fl (setM l off ld r c g)) ++ N) (.bool true) (H.set b (fl (setM l off ld r c g')) ++ N) := by
  have hp : PlaceP l.length off (r : Int) (c : Int) ld (i : Int) (j : Int) := ⟨hG, by omega, by omega, by omega, by omega⟩
  obtain ⟨h1, h2⟩ := plV_T hp
  obtain ⟨hm, ho1, ho2, hr1, hr2, hc1, hc2, hl1, hl2⟩ := id hI
  have e : (setM l off ld r c g).set (0 + (plV l.length off r c ld i j).toNat) x = setM l off ld r c g' := by
    rw [Nat.zero_add, h1, ← setM_congr hG.2.2.2.1 hG.2.2.1 hg, ← set_setM hG hi hj]; rfl
  have h := set_c (H.set b (fl (setM l off ld r c g)) ++ N) _ b l.length 0 l.length _ (hb_setN hbl) (by simp) (by omega) off r c ld hI i j (by omega) (by omega) (by omega) (by omega) x rfl
  rw [if_pos h2, e, decide_eq_true h2, hs_old (by simpa using hbl), List.set_set] at h
  exact h
set_option maxHeartbeats 4000000 in
theorem unp_0 (H H' : List (List AV)) (P : AV) (pl : List Nat) (hpm : pl.length ≤ 2 ^ 30) (pr pc : Int) (hpr : -9223372036854775808 ≤ pr ∧ pr ≤ 9223372036854775807) (hpc : -9223372036854775808 ≤ pc ∧ pc ≤ 9223372036854775807) (b : Nat) (l : List Nat) (hb : H[b]? = some (fl l)) (off ld : Int) (r c : Nat) (hI : MI l.length off r c ld) (hG : GoodP l.length off r c ld) (hbl : b < H.length) (hPs : ∀ X N, FL (H.set b X ++ N) P pl) (hw : WholeP pl.length pr pc) (hs1 : (r : Int) ≤ pr) (hs2 : (c : Int) ≤ pc) (hH : H.set b (fl (setM l off ld r c (panG pl pc))) = H') :
    CSpec Try.prog 11 [.agg [.int .i64 pr, .int .i64 pc, P], mt (.slm b l.length 0 l.length 1) off r c ld] H (.int .i64 0) H' := by
  subst hH
  obtain ⟨hm, ho1, ho2, hr1, hr2, hc1, hc2, hl1, hl2⟩ := id hI
  have hgd := id hG
  obtain ⟨hg1, hg2, hg3, hg4, hg5, hg6⟩ := hgd
  have hS0 : H.set b (fl (setM l off ld r c (cS (mel l off ld) (panG pl pc) 0 0))) = H := (by rw [setM_congr (g' := (mel l off ld)) (by omega) (by omega) (fun i j _ _ => cS_zero i j), setM_mel (by omega) (by omega)]; exact set_self hb)
  have hS9 : setM l off ld r c (panG pl pc) = setM l off ld r c (cS (mel l off ld) (panG pl pc) c 0) := setM_congr (by omega) (by omega) (fun i j _ hj => (cS_all i j hj).symm)
  have hE : r = 0 → setM l off ld r c (panG pl pc) = l := fun e => (by subst e; rw [setM_congr (g' := (mel l off ld)) (by omega) (by omega) (fun i j hi _ => absurd hi (by omega)), setM_mel (by omega) (by omega)])
  have hN : ∀ k, setM l off ld r c (cS (mel l off ld) (panG pl pc) k r) = setM l off ld r c (cS (mel l off ld) (panG pl pc) (k + 1) 0) := fun k => setM_congr (by omega) (by omega) (fun i j hi _ => cS_next i j hi)
  refine .mk (fun args w => Try.call11 args w) (Spec.intro' (fn := Try.f11) Try.func11 rfl (by kernel_rfl) (by simp) false [] (draw := drawX Try.prog ⟨false, _, []⟩) dOk ?_)
  simp only [argE, Nat.reduceAdd]
  repeat' (first
    | (refine gateE ?_; (first | (refine b_c0 ?_; (first | refine b_moveF (by kernel_rfl) ?_ | refine b_moveI ?_ | refine b_move (by (conv => {lhs; whnf}); done) ?_ | (refine b_fa (by (conv => {lhs; whnf}); done) ?_; first | refine f_loc (by (conv => {lhs; whnf}); done) ?_ | refine f_ptr (by (conv => {lhs; whnf}); done) ?_) | (refine b_load (by (conv => {lhs; whnf}); done) ?_; (first | refine l_loc1 (by exact rfl) (by exact rfl) ?_ | refine l_locA (by exact rfl) (by exact rfl) ?_ | fail)) | (refine b_binB (by first | (conv => {lhs; whnf}; done) | exact (by exact rfl) | fail) (by first | (conv => {lhs; whnf}; done) | exact (by exact rfl) | fail) ?_; (first | refine v_to ((k + 1 : Nat) : Int) (by omega) (by omega) ?_ | refine v_to ((t + 1 : Nat) : Int) (by omega) (by omega) ?_ | refine v_bbT (by exact rfl) ?_ | refine v_k ?_ | fail)) | (refine b_bin (by (conv => {lhs; whnf}); done) (by (conv => {lhs; whnf}); done) (by (conv => {lhs; whnf}); done) ?_; (first | refine v_to ((k + 1 : Nat) : Int) (by omega) (by omega) ?_ | refine v_to ((t + 1 : Nat) : Int) (by omega) (by omega) ?_ | refine v_eT (by omega) ?_ | refine v_eF (by omega) ?_ | refine v_eP ?_ | refine v_T (by omega) ?_ | refine v_F (by omega) ?_ | refine v_w (by omega) ?_ | refine v_wu (by omega) ?_ | refine v_nT ?_ | refine v_nF ?_ | refine v_nP ?_ | refine v_k ?_ | refine v_c (by omega) ?_ | fail)) | (refine b_pick (by (conv => {lhs; whnf}); done) ?_; (first | refine p_T (by (conv => {lhs; whnf}); done) ?_ | refine p_F (by (conv => {lhs; whnf}); done) ?_ | fail)) | refine b_assignF (by kernel_rfl) ?_ | refine b_assignI ?_ | refine b_assignN ?_ | refine b_assign (by (conv => {lhs; whnf}); done) ?_ | (refine b_un (by (conv => {lhs; whnf}); done) (by (conv => {lhs; whnf}); done) ?_; (first | refine v_to ((k + 1 : Nat) : Int) (by omega) (by omega) ?_ | refine v_to ((t + 1 : Nat) : Int) (by omega) (by omega) ?_ | refine v_eT (by omega) ?_ | refine v_eF (by omega) ?_ | refine v_eP ?_ | refine v_T (by omega) ?_ | refine v_F (by omega) ?_ | refine v_w (by omega) ?_ | refine v_wu (by omega) ?_ | refine v_nT ?_ | refine v_nF ?_ | refine v_nP ?_ | refine v_k ?_ | refine v_c (by omega) ?_ | fail)) | refine b_callB ?_ | refine b_box (by (conv => {lhs; whnf}); done) (by exact rfl) (by exact rfl) (by exact rfl) (by exact rfl) ?_ | fail)) | refine b_nil ?_ | refine b_gT (by exact rfl) (by exact rfl) ?_ | refine b_gF (by exact rfl) (by exact rfl) (by exact rfl) ?_ | refine b_gU (by exact rfl) (by exact rfl) (by constructor <;> simp) (by exact rfl) (by exact rfl) ?_ | (refine b_g0 (by exact rfl) (by exact rfl) (by (conv => {lhs; whnf}); done) ?_; (first | refine g_TT ?_ | refine g_FF ?_ | refine g_TF ?_ | refine g_FT ?_ | refine g_PT ?_ ?_ | refine g_PF ?_ ?_ | refine g_BT ?_ ?_ | refine g_BF ?_ ?_ | fail)) | (refine b_g1 (by exact rfl) (by exact rfl) (by exact rfl) (by (conv => {lhs; whnf}); done) ?_; (first | refine g_TT ?_ | refine g_FF ?_ | refine g_TF ?_ | refine g_FT ?_ | refine g_PT ?_ ?_ | refine g_PF ?_ ?_ | refine g_BT ?_ ?_ | refine g_BF ?_ ?_ | fail)) | refine b_c1 (by exact rfl) ?_ | fail))
    | (refine gateO ?_; (first | refine b_moveF (by kernel_rfl) ?_ | refine b_moveI ?_ | refine b_move (by (conv => {lhs; whnf}); done) ?_ | (refine b_fa (by (conv => {lhs; whnf}); done) ?_; first | refine f_loc (by (conv => {lhs; whnf}); done) ?_ | refine f_ptr (by (conv => {lhs; whnf}); done) ?_) | (refine b_load (by (conv => {lhs; whnf}); done) ?_; (first | refine l_loc1 (by exact rfl) (by exact rfl) ?_ | refine l_locA (by exact rfl) (by exact rfl) ?_ | fail)) | (refine b_binB (by first | (conv => {lhs; whnf}; done) | exact (by exact rfl) | fail) (by first | (conv => {lhs; whnf}; done) | exact (by exact rfl) | fail) ?_; (first | refine v_to ((k + 1 : Nat) : Int) (by omega) (by omega) ?_ | refine v_to ((t + 1 : Nat) : Int) (by omega) (by omega) ?_ | refine v_bbT (by exact rfl) ?_ | refine v_k ?_ | fail)) | (refine b_bin (by (conv => {lhs; whnf}); done) (by (conv => {lhs; whnf}); done) (by (conv => {lhs; whnf}); done) ?_; (first | refine v_to ((k + 1 : Nat) : Int) (by omega) (by omega) ?_ | refine v_to ((t + 1 : Nat) : Int) (by omega) (by omega) ?_ | refine v_eT (by omega) ?_ | refine v_eF (by omega) ?_ | refine v_eP ?_ | refine v_T (by omega) ?_ | refine v_F (by omega) ?_ | refine v_w (by omega) ?_ | refine v_wu (by omega) ?_ | refine v_nT ?_ | refine v_nF ?_ | refine v_nP ?_ | refine v_k ?_ | refine v_c (by omega) ?_ | fail)) | (refine b_pick (by (conv => {lhs; whnf}); done) ?_; (first | refine p_T (by (conv => {lhs; whnf}); done) ?_ | refine p_F (by (conv => {lhs; whnf}); done) ?_ | fail)) | refine b_assignF (by kernel_rfl) ?_ | refine b_assignI ?_ | refine b_assignN ?_ | refine b_assign (by (conv => {lhs; whnf}); done) ?_ | (refine b_un (by (conv => {lhs; whnf}); done) (by (conv => {lhs; whnf}); done) ?_; (first | refine v_to ((k + 1 : Nat) : Int) (by omega) (by omega) ?_ | refine v_to ((t + 1 : Nat) : Int) (by omega) (by omega) ?_ | refine v_eT (by omega) ?_ | refine v_eF (by omega) ?_ | refine v_eP ?_ | refine v_T (by omega) ?_ | refine v_F (by omega) ?_ | refine v_w (by omega) ?_ | refine v_wu (by omega) ?_ | refine v_nT ?_ | refine v_nF ?_ | refine v_nP ?_ | refine v_k ?_ | refine v_c (by omega) ?_ | fail)) | refine b_callB ?_ | refine b_box (by (conv => {lhs; whnf}); done) (by exact rfl) (by exact rfl) (by exact rfl) (by exact rfl) ?_ | fail))
    | (refine gateD ?_; (first | (refine d_c0 (by exact rfl) ?_; (first | refine b_moveF (by kernel_rfl) ?_ | refine b_moveI ?_ | refine b_move (by (conv => {lhs; whnf}); done) ?_ | (refine b_fa (by (conv => {lhs; whnf}); done) ?_; first | refine f_loc (by (conv => {lhs; whnf}); done) ?_ | refine f_ptr (by (conv => {lhs; whnf}); done) ?_) | (refine b_load (by (conv => {lhs; whnf}); done) ?_; (first | refine l_loc1 (by exact rfl) (by exact rfl) ?_ | refine l_locA (by exact rfl) (by exact rfl) ?_ | fail)) | (refine b_binB (by first | (conv => {lhs; whnf}; done) | exact (by exact rfl) | fail) (by first | (conv => {lhs; whnf}; done) | exact (by exact rfl) | fail) ?_; (first | refine v_to ((k + 1 : Nat) : Int) (by omega) (by omega) ?_ | refine v_to ((t + 1 : Nat) : Int) (by omega) (by omega) ?_ | refine v_bbT (by exact rfl) ?_ | refine v_k ?_ | fail)) | (refine b_bin (by (conv => {lhs; whnf}); done) (by (conv => {lhs; whnf}); done) (by (conv => {lhs; whnf}); done) ?_; (first | refine v_to ((k + 1 : Nat) : Int) (by omega) (by omega) ?_ | refine v_to ((t + 1 : Nat) : Int) (by omega) (by omega) ?_ | refine v_eT (by omega) ?_ | refine v_eF (by omega) ?_ | refine v_eP ?_ | refine v_T (by omega) ?_ | refine v_F (by omega) ?_ | refine v_w (by omega) ?_ | refine v_wu (by omega) ?_ | refine v_nT ?_ | refine v_nF ?_ | refine v_nP ?_ | refine v_k ?_ | refine v_c (by omega) ?_ | fail)) | (refine b_pick (by (conv => {lhs; whnf}); done) ?_; (first | refine p_T (by (conv => {lhs; whnf}); done) ?_ | refine p_F (by (conv => {lhs; whnf}); done) ?_ | fail)) | refine b_assignF (by kernel_rfl) ?_ | refine b_assignI ?_ | refine b_assignN ?_ | refine b_assign (by (conv => {lhs; whnf}); done) ?_ | (refine b_un (by (conv => {lhs; whnf}); done) (by (conv => {lhs; whnf}); done) ?_; (first | refine v_to ((k + 1 : Nat) : Int) (by omega) (by omega) ?_ | refine v_to ((t + 1 : Nat) : Int) (by omega) (by omega) ?_ | refine v_eT (by omega) ?_ | refine v_eF (by omega) ?_ | refine v_eP ?_ | refine v_T (by omega) ?_ | refine v_F (by omega) ?_ | refine v_w (by omega) ?_ | refine v_wu (by omega) ?_ | refine v_nT ?_ | refine v_nF ?_ | refine v_nP ?_ | refine v_k ?_ | refine v_c (by omega) ?_ | fail)) | refine b_callB ?_ | refine b_box (by (conv => {lhs; whnf}); done) (by exact rfl) (by exact rfl) (by exact rfl) (by exact rfl) ?_ | fail)) | refine d_nil ?_ | refine d_gT (by exact rfl) (by exact rfl) (by exact rfl) ?_ | refine d_gF (by exact rfl) (by exact rfl) (by exact rfl) (by exact rfl) ?_ | refine d_gU (by exact rfl) (by exact rfl) (by exact rfl) (by constructor <;> simp) (by exact rfl) (by exact rfl) ?_ | (refine d_g0 (by exact rfl) (by exact rfl) (by exact rfl) (by (conv => {lhs; whnf}); done) ?_; (first | refine dg_TT ?_ | refine dg_FF ?_ | refine dg_TF ?_ | refine dg_FT ?_ | refine dg_PT ?_ ?_ | refine dg_PF ?_ ?_ | refine dg_BT ?_ ?_ | refine dg_BF ?_ ?_ | fail)) | (refine d_g1 (by exact rfl) (by exact rfl) (by exact rfl) (by exact rfl) (by (conv => {lhs; whnf}); done) ?_; (first | refine dg_TT ?_ | refine dg_FF ?_ | refine dg_TF ?_ | refine dg_FT ?_ | refine dg_PT ?_ ?_ | refine dg_PF ?_ ?_ | refine dg_BT ?_ ?_ | refine dg_BF ?_ ?_ | fail)) | refine d_c1 (by exact rfl) (by exact rfl) ?_ | fail))
    | (refine gateC ?_; (first | refine k_lt ?_ | refine k_fz ?_ | refine k_lb (by (conv => {lhs; whnf}); done) ?_ | refine k_ms ?_ | refine k_bx (by exact rfl) (by exact rfl) ?_ | refine k_ld (by (conv => {lhs; whnf}); done) (by exact rfl) ?_ | refine k_ldT (by (conv => {lhs; whnf}); done) ?_ | refine k_bin (by (conv => {lhs; whnf}); done) (by exact rfl) ?_ | refine k_mn ?_ | refine k_mnB (by exact rfl) ?_ | refine k_mnF ?_ | refine k_mnL (by exact rfl) ?_ | fail))
    | (refine gateT ?_; (first | refine b_thn ?_ | refine b_thr ?_ | refine b_the ?_ | fail))
    | (refine gateX ?_; (first | refine b_seq ?_ | refine b_region ?_ | (refine b_cond (by (conv => {lhs; whnf}); done) ?_; (first | refine c_T ?_ | refine c_F ?_ | refine c_P ?_ ?_ | refine c_B ?_ ?_ | fail)) | refine b_ret ?_ | refine b_skip ?_ | refine b_block ?_ | refine b_exit ?_ | refine b_draw (id := 13) [] [7] [(0, .ld true), (1, .lt), (2, .lt), (3, .ld true), (4, .lt), (5, .lt), (6, .mn true), (7, .mn false)] (by kernel_rfl) ?_ | (refine b_loop [2, 3, 5, 34, 35, 39, 40] r (fun t => ⟨[(2, .loc 2 0), (3, .loc 3 0), (5, .val (.int .i64 ((k : Nat) : Int))), (34, .val (.int .i64 ((c : Nat) : Int))), (35, .val (.int .i64 ((k : Nat) : Int))), (39, .val (.int .i64 ((r : Nat) : Int))), (40, .val (.int .i64 ((t : Nat) : Int)))], [(2, [.int .i64 pr, .int .i64 pc, P]), (3, [(.slm b l.length 0 l.length 1), .int .i64 off, .int .i64 (r : Int), .int .i64 (c : Int), .int .i64 ld])], H.set b (fl (setM l off ld r c (cS (mel l off ld) (panG pl pc) k t))) ++ []⟩) (by exact rfl) ?_ ?_ <;> (first | intro t ht K hK | intro K) <;> (try dsimp only at *)) | (refine b_loop [2, 3, 34, 35] c (fun k => ⟨[(2, .loc 2 0), (3, .loc 3 0), (34, .val (.int .i64 ((c : Nat) : Int))), (35, .val (.int .i64 ((k : Nat) : Int)))], [(2, [.int .i64 pr, .int .i64 pc, P]), (3, [(.slm b l.length 0 l.length 1), .int .i64 off, .int .i64 (r : Int), .int .i64 (c : Int), .int .i64 ld])], H.set b (fl (setM l off ld r c (cS (mel l off ld) (panG pl pc) k 0))) ++ []⟩) (by simp only [hS0]; exact rfl) ?_ ?_ <;> (first | intro k hk K hK | intro K) <;> (try dsimp only at *)) | fail))
    | refine a_cons (by (conv => {lhs; whnf}); done) ?_
    | refine a_nil ?_
    | (refine gateK ?_; (first | refine c_call (good_b _ _ l.length off _ _ ld (by exact rfl) hI true (decide_eq_true hG)) (OldOk.app (by simp)) ?_ | refine c_call (pwhole_b _ P pl (by have := hPs (fl l) []; rwa [set_self hb] at this) hpm pr pc hpr hpc true (decide_eq_true hw)) (OldOk.app (by simp)) ?_ | refine c_call (pat_n _ P pl (hPs _ _) hpm pr pc hpr hpc hw t k (by omega) (by omega)) (OldOk.app (by simp)) ?_ | refine c_call (uset_s H b l hbl off ld r c hI hG (cS (mel l off ld) (panG pl pc) k t) (cS (mel l off ld) (panG pl pc) k (t + 1)) t k (by omega) (by omega) ((panG pl pc) t k) (fun i' j' _ _ => cS_step i' j') []) (OldOk.set2 hbl (by simp) (by rw [mxL_fl]; omega)) ?_ | fail))
    | (refine gateB ?_; (first | refine b_bln ?_ | refine b_blr ?_ | refine b_ble ?_ | refine b_blo (by exact rfl) ?_ | fail))
    | (refine gateL ?_; (first | refine lp_n ?_ | refine lp_r ?_ | refine lp_e ?_ | fail))
    | (refine pr_k (by exact rfl) ?_; first | exact hK | (rw [hN]; exact hK) | (exfalso; first | omega | (simp_all; done) | (simp_all; omega)))
    | (refine gateQ ?_; refine b_retK (by simp) (by (conv => {lhs; whnf}); done) ?_)
    | (refine gateR ?_; (first | refine rk_tmp (by (conv => {lhs; whnf}); done) ?_ | refine rk_cellA (by (conv => {lhs; whnf}); done) (by exact rfl) (by exact rfl) ?_ | refine rk_cell1 (by (conv => {lhs; whnf}); done) (by exact rfl) (by exact rfl) ?_ | refine rk_nil ?_ | fail))
    | intro _)
  all_goals first
    | (exfalso; contradiction)
    | (exfalso; omega)
    | (rw [hS9]; refine rv_old (by simp) (by simp [mx, mxL, resOne, aOf, aOf1]) ?_; exact rfl)
    | (have hr0 : r = 0 := by omega
       rw [hE hr0, set_self hb]
       refine rv_old (by simp) (by simp [mx, mxL, resOne, aOf, aOf1]) ?_; exact rfl)

end Go.Sx

set_option linter.unusedVariables false
set_option maxRecDepth 20000
namespace Go.Sx
open Go.Proofs
def fzL : List (Nat × List Nat) := [(20, [36, 53, 80])]
def escL : List Nat := [38, 39]
def ordL : List (Nat × Nat × List Nat × (Bool × List Nat) × List (Nat × List Nat) × List Nat × DTr) := [(20, 20, [], (false, []), [], [13], .lin [(0, .lt), (1, .lt), (2, .lt), (3, .lt), (4, .ld true), (5, .lt), (6, .lt), (7, .lt), (8, .lt), (9, .ld true), (10, .lt), (11, .lt), (12, .fz), (13, .mn false), (14, .lt)]),
  (31, 6, [], (false, []), [], [], .lin [(0, .lt), (1, .lt), (2, .lt), (3, .ld true), (4, .lt), (5, .lt), (6, .lt), (7, .lt), (8, .ld true), (9, .ld true)]),
  (31, 11, [], (false, []), [], [], .lin [(0, .lt), (1, .lt), (2, .lt), (3, .ld true), (4, .lt), (5, .lt), (6, .lt), (7, .lt), (8, .ld true), (9, .ld true)]),
  (34, 17, [], (false, []), [], [], .lin [(0, .lt), (1, .lt), (2, .lt), (3, .lt), (4, .lt), (5, .lt), (6, .lt), (7, .ld true), (8, .lt), (9, .lt), (10, .lt), (11, .ld true), (12, .mn true), (13, .lt), (14, .lt)]),
  (36, 4, [], (false, []), [], [], .lin [(0, .lt), (1, .lt), (2, .lt), (3, .lt), (4, .lt), (5, .lt), (6, .lt), (7, .ld true), (8, .lt), (9, .lt), (10, .lt), (11, .lt), (12, .ld true), (13, .mn true), (14, .lt)]),
  (36, 6, [], (false, []), [], [15, 17], .lin [(0, .lt), (1, .lt), (2, .lt), (3, .lt), (4, .lt), (5, .lt), (6, .lt), (7, .lt), (8, .lt), (9, .ld true), (10, .lt), (11, .lt), (12, .lt), (13, .ld true), (14, .lt), (15, .mn false), (16, .lt), (17, .mn false)]),
  (37, 10, [], (false, []), [], [17, 19], .lin [(0, .lt), (1, .lt), (2, .lt), (3, .lt), (4, .lt), (5, .lt), (6, .lt), (7, .lt), (8, .lt), (9, .lt), (10, .lt), (11, .ld true), (12, .lt), (13, .lt), (14, .lt), (15, .ld true), (16, .lt), (17, .mn false), (18, .lt), (19, .mn false)]),
  (38, 10, [], (false, []), [], [17, 19], .lin [(0, .lt), (1, .lt), (2, .lt), (3, .lt), (4, .lt), (5, .lt), (6, .lt), (7, .lt), (8, .lt), (9, .lt), (10, .lt), (11, .ld true), (12, .lt), (13, .lt), (14, .lt), (15, .ld true), (16, .lt), (17, .mn false), (18, .lt), (19, .mn false)]),
  (40, 3, [], (false, []), [], [13, 15], .lin [(0, .lt), (1, .lt), (2, .lt), (3, .lt), (4, .lt), (5, .lt), (6, .lt), (7, .ld true), (8, .lt), (9, .lt), (10, .lt), (11, .ld true), (12, .lt), (13, .mn false), (14, .lt), (15, .mn false)]),
  (41, 5, [], (false, []), [], [], .lin [(0, .lt), (1, .lt), (2, .lt), (3, .lt), (4, .lt), (5, .lt), (6, .lt), (7, .ld true), (8, .lt), (9, .lt), (10, .lt), (11, .lt), (12, .ld true), (13, .mn true), (14, .lt), (15, .lt)]),
  (41, 11, [], (false, []), [], [15, 17], .lin [(0, .lt), (1, .lt), (2, .lt), (3, .lt), (4, .lt), (5, .lt), (6, .lt), (7, .lt), (8, .lt), (9, .ld true), (10, .lt), (11, .lt), (12, .lt), (13, .ld true), (14, .lt), (15, .mn false), (16, .lt), (17, .mn false)]),
  (41, 16, [], (false, []), [], [], .lin [(0, .lt), (1, .lt), (2, .lt), (3, .ld true), (4, .lt), (5, .lt), (6, .lt), (7, .lt), (8, .ld true), (9, .mn true), (10, .lt)]),
  (41, 17, [], (false, []), [], [15, 17], .lin [(0, .lt), (1, .lt), (2, .lt), (3, .lt), (4, .lt), (5, .lt), (6, .lt), (7, .lt), (8, .lt), (9, .ld true), (10, .lt), (11, .lt), (12, .lt), (13, .ld true), (14, .lt), (15, .mn false), (16, .lt), (17, .mn false)]),
  (41, 22, [], (false, []), [], [], .lin [(0, .lt), (1, .lt), (2, .lt), (3, .ld true), (4, .lt), (5, .lt), (6, .lt), (7, .lt), (8, .ld true), (9, .mn true), (10, .lt)]),
  (41, 23, [], (false, []), [], [15, 17], .lin [(0, .lt), (1, .lt), (2, .lt), (3, .lt), (4, .lt), (5, .lt), (6, .lt), (7, .lt), (8, .lt), (9, .ld true), (10, .lt), (11, .lt), (12, .lt), (13, .ld true), (14, .lt), (15, .mn false), (16, .lt), (17, .mn false)]),
  (43, 1, [], (false, []), [], [13, 15], .lin [(0, .lt), (1, .lt), (2, .lt), (3, .lt), (4, .lt), (5, .lt), (6, .lt), (7, .ld true), (8, .lt), (9, .lt), (10, .lt), (11, .ld true), (12, .lt), (13, .mn false), (14, .lt), (15, .mn false)]),
  (43, 3, [], (false, []), [], [], .lin [(0, .lt), (1, .lt), (2, .lt), (3, .lt), (4, .lt), (5, .lt), (6, .lt), (7, .ld true), (8, .lt), (9, .lt), (10, .lt), (11, .ld true), (12, .mn true), (13, .lt), (14, .lt)]),
  (43, 5, [], (false, []), [], [], .lin [(0, .lt), (1, .lt), (2, .lt), (3, .lt), (4, .lt), (5, .lt), (6, .lt), (7, .ld true), (8, .lt), (9, .lt), (10, .lt), (11, .ld true), (12, .mn true), (13, .lt)]),
  (43, 8, [], (false, []), [], [13, 15], .lin [(0, .lt), (1, .lt), (2, .lt), (3, .lt), (4, .lt), (5, .lt), (6, .lt), (7, .ld true), (8, .lt), (9, .lt), (10, .lt), (11, .ld true), (12, .lt), (13, .mn false), (14, .lt), (15, .mn false)]),
  (44, 1, [], (false, []), [], [13, 15], .lin [(0, .lt), (1, .lt), (2, .lt), (3, .lt), (4, .lt), (5, .lt), (6, .lt), (7, .ld true), (8, .lt), (9, .lt), (10, .lt), (11, .ld true), (12, .lt), (13, .mn false), (14, .lt), (15, .mn false)]),
  (44, 3, [], (false, []), [], [], .lin [(0, .lt), (1, .lt), (2, .lt), (3, .lt), (4, .lt), (5, .lt), (6, .lt), (7, .ld true), (8, .lt), (9, .lt), (10, .lt), (11, .ld true), (12, .mn true), (13, .lt)]),
  (44, 5, [], (false, []), [], [], .lin [(0, .lt), (1, .lt), (2, .lt), (3, .lt), (4, .lt), (5, .lt), (6, .lt), (7, .ld true), (8, .lt), (9, .lt), (10, .lt), (11, .ld true), (12, .mn true), (13, .lt), (14, .lt)]),
  (44, 8, [], (false, []), [], [13, 15], .lin [(0, .lt), (1, .lt), (2, .lt), (3, .lt), (4, .lt), (5, .lt), (6, .lt), (7, .ld true), (8, .lt), (9, .lt), (10, .lt), (11, .ld true), (12, .lt), (13, .mn false), (14, .lt), (15, .mn false)]),
  (44, 10, [], (false, []), [], [13, 15], .lin [(0, .lt), (1, .lt), (2, .lt), (3, .lt), (4, .lt), (5, .lt), (6, .lt), (7, .ld true), (8, .lt), (9, .lt), (10, .lt), (11, .ld true), (12, .lt), (13, .mn false), (14, .lt), (15, .mn false)]),
  (44, 13, [], (false, []), [], [], .lin [(0, .lt), (1, .lt), (2, .lt), (3, .lt), (4, .lt), (5, .lt), (6, .lt), (7, .ld true), (8, .lt), (9, .lt), (10, .lt), (11, .ld true), (12, .mn true), (13, .lt)]),
  (44, 15, [], (false, []), [], [], .lin [(0, .lt), (1, .lt), (2, .lt), (3, .lt), (4, .lt), (5, .lt), (6, .lt), (7, .ld true), (8, .lt), (9, .lt), (10, .lt), (11, .ld true), (12, .mn true), (13, .lt), (14, .lt)]),
  (44, 18, [], (false, []), [], [13, 15], .lin [(0, .lt), (1, .lt), (2, .lt), (3, .lt), (4, .lt), (5, .lt), (6, .lt), (7, .ld true), (8, .lt), (9, .lt), (10, .lt), (11, .ld true), (12, .lt), (13, .mn false), (14, .lt), (15, .mn false)]),
  (44, 21, [], (false, []), [], [13, 15], .lin [(0, .lt), (1, .lt), (2, .lt), (3, .lt), (4, .lt), (5, .lt), (6, .lt), (7, .ld true), (8, .lt), (9, .lt), (10, .lt), (11, .ld true), (12, .lt), (13, .mn false), (14, .lt), (15, .mn false)]),
  (47, 3, [], (false, []), [], [], .lin [(0, .lt), (1, .lt), (2, .lt), (3, .lt), (4, .lt), (5, .lt), (6, .lt), (7, .lt), (8, .lt), (9, .lt), (10, .ld true), (11, .lt), (12, .lt), (13, .lt), (14, .lt), (15, .lt), (16, .lt), (17, .ld true), (18, .mn true), (19, .lt)]),
  (47, 5, [], (false, []), [], [], .lin [(0, .lt), (1, .lt), (2, .lt), (3, .lt), (4, .lt), (5, .ld true), (6, .lt), (7, .lt), (8, .lt), (9, .lt), (10, .lt), (11, .ld true), (12, .mn true), (13, .lt)]),
  (47, 6, [], (false, []), [], [21, 23], .lin [(0, .lt), (1, .lt), (2, .lt), (3, .lt), (4, .lt), (5, .lt), (6, .lt), (7, .lt), (8, .lt), (9, .lt), (10, .lt), (11, .lt), (12, .lt), (13, .ld true), (14, .lt), (15, .lt), (16, .lt), (17, .lt), (18, .lt), (19, .ld true), (20, .lt), (21, .mn false), (22, .lt), (23, .mn false)]),
  (49, 1, [], (false, []), [], [9], .lin [(0, .lt), (1, .lt), (2, .ld true), (3, .lt), (4, .lt), (5, .ld true), (6, .lt), (7, .lt), (8, .lt), (9, .mn false)]),
  (49, 2, [], (false, []), [], [9], .lin [(0, .lt), (1, .lt), (2, .ld true), (3, .lt), (4, .lt), (5, .ld true), (6, .lt), (7, .lt), (8, .lt), (9, .mn false)]),
  (49, 3, [], (false, []), [], [9], .lin [(0, .lt), (1, .lt), (2, .ld true), (3, .lt), (4, .lt), (5, .ld true), (6, .lt), (7, .lt), (8, .lt), (9, .mn false)]),
  (53, 1, [], (false, []), [], [], .lin [(0, .lt), (1, .lt), (2, .lt), (3, .ld true), (4, .lt), (5, .lt), (6, .lt), (7, .ld true), (8, .mn true)])]
def frzL : List Nat := []
def intrT (f : Nat) (args : List AV) : Option AV :=
  if Nat.beq f 22 then (match args with
    | [.fraw b] => some (.int .u64 b)
    | [.flt b] => if isNaN b then none else some (.int .u64 b)
    | _ => none)
  else none
def runT : RunT := ⟨fun f => escL.contains f, ordF ordL, intrT, fun f => (lk fzL f).getD [], fun f => !frzL.contains f⟩
theorem intr_ok (f : Nat) (args : List AV) (r : AV) (H : List (List AV)) (h : intrT f args = some r) : CSpec Try.prog f args H r H := by
  unfold intrT at h
  split at h
  · rename_i hb
    have := Nat.eq_of_beq_eq_true hb; subst this
    split at h
    · cases h; exact xbits_raw Try.func22 (by kernel_rfl) (by kernel_rfl) (by kernel_rfl) (by kernel_rfl) H _
    · split at h
      · cases h
      · rename_i hn; cases h; exact xbits_flt Try.func22 (by kernel_rfl) (by kernel_rfl) (by kernel_rfl) (by kernel_rfl) H _ hn
    · cases h
  · cases h
theorem run_5 : runF Try.prog runT 100000 60 5 [] [] = some (.bool true, []) := by kernel_rfl
theorem run_5_c (H : List (List AV)) : CSpec Try.prog 5 [] H (.bool true) H := runF_c fol intr_ok 100000 60 5 _ _ (by kernel_rfl) (by kernel_rfl) run_5 H
end Go.Sx

set_option linter.unusedVariables false
set_option linter.unusedSimpArgs false
set_option maxRecDepth 20000
namespace Go.Sx
open Go.Proofs

theorem FL.fzn (H : List (List AV)) (l : List Nat) (n : Nat) (h : l.length = n) : FL H (.sl none n (fl l)) l := by subst h; exact FL.fz H none l
theorem goodref_b (H : List (List AV)) (D : AV) (n : Nat) (off rows cols ld : Int) (hD : slen D = some n) (hI : MI n off rows cols ld) (bb : Bool) (h : decide (GoodP n off rows cols ld) = bb) : CSpec Try.prog 12 [mt D off rows cols ld] H (.bool bb) H := by
  subst h; exact goodref_c H D n off rows cols ld hD hI
end Go.Sx
