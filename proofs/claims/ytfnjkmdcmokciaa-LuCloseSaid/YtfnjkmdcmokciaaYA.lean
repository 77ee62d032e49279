/- A part of the proofs of this seat: YA. No condition is set. -/
import Derived.KernelRfl
import Derived.Lib.SlicesCompact
import Derived.Test.YtfnjkmdcmokciaaProg
import Derived.Test.YtfnjkmdcmokciaaXF
set_option maxRecDepth 20000
namespace Go.Sx
open Go.Proofs
instance : TyI Try.prog 0 1 false := ⟨by kernel_rfl, by kernel_rfl⟩
instance : TyI Try.prog 1 1 false := ⟨by kernel_rfl, by kernel_rfl⟩
instance : ZI Try.prog 1 [.raw .nilFunc] := ⟨by kernel_rfl⟩
instance : TyI Try.prog 2 1 false := ⟨by kernel_rfl, by kernel_rfl⟩
instance : ZI Try.prog 2 [.int .i64 0] := ⟨by kernel_rfl⟩
instance : UI Try.prog 2 (.int .i64) := ⟨by kernel_rfl⟩
instance : TyI Try.prog 3 1 false := ⟨by kernel_rfl, by kernel_rfl⟩
instance : ZI Try.prog 3 [.int .i64 0] := ⟨by kernel_rfl⟩
instance : UI Try.prog 3 (.int .i64) := ⟨by kernel_rfl⟩
instance : TyI Try.prog 4 1 false := ⟨by kernel_rfl, by kernel_rfl⟩
instance : ZI Try.prog 4 [.bool false] := ⟨by kernel_rfl⟩
instance : UI Try.prog 4 (.bool) := ⟨by kernel_rfl⟩
instance : TyI Try.prog 5 1 false := ⟨by kernel_rfl, by kernel_rfl⟩
instance : ZI Try.prog 5 [.int .u8 0] := ⟨by kernel_rfl⟩
instance : UI Try.prog 5 (.int .u8) := ⟨by kernel_rfl⟩
instance : TyI Try.prog 6 1 false := ⟨by kernel_rfl, by kernel_rfl⟩
instance : ZI Try.prog 6 [.int .u8 0] := ⟨by kernel_rfl⟩
instance : UI Try.prog 6 (.int .u8) := ⟨by kernel_rfl⟩
instance : TyI Try.prog 7 4 true := ⟨by kernel_rfl, by kernel_rfl⟩
instance : FldI Try.prog 7 0 0 2 := ⟨by kernel_rfl, by kernel_rfl⟩
instance : FldI Try.prog 7 1 1 3 := ⟨by kernel_rfl, by kernel_rfl⟩
instance : FldI Try.prog 7 2 2 4 := ⟨by kernel_rfl, by kernel_rfl⟩
instance : FldI Try.prog 7 3 3 6 := ⟨by kernel_rfl, by kernel_rfl⟩
instance : ZI Try.prog 7 [.int .i64 0, .int .i64 0, .bool false, .int .u8 0] := ⟨by kernel_rfl⟩
instance : BdI Try.prog 7 [.int .i64 0, .int .i64 0, .bool false, .int .u8 0] [(0, 1), (1, 1), (2, 1), (3, 1)] := ⟨by kernel_rfl⟩
instance : TyI Try.prog 8 4 true := ⟨by kernel_rfl, by kernel_rfl⟩
instance : FldI Try.prog 8 0 0 2 := ⟨by kernel_rfl, by kernel_rfl⟩
instance : FldI Try.prog 8 1 1 3 := ⟨by kernel_rfl, by kernel_rfl⟩
instance : FldI Try.prog 8 2 2 4 := ⟨by kernel_rfl, by kernel_rfl⟩
instance : FldI Try.prog 8 3 3 6 := ⟨by kernel_rfl, by kernel_rfl⟩
instance : ZI Try.prog 8 [.int .i64 0, .int .i64 0, .bool false, .int .u8 0] := ⟨by kernel_rfl⟩
instance : BdI Try.prog 8 [.int .i64 0, .int .i64 0, .bool false, .int .u8 0] [(0, 1), (1, 1), (2, 1), (3, 1)] := ⟨by kernel_rfl⟩
instance : TyI Try.prog 9 1 false := ⟨by kernel_rfl, by kernel_rfl⟩
instance : ZI Try.prog 9 [.str .empty] := ⟨by kernel_rfl⟩
instance : UI Try.prog 9 (.string) := ⟨by kernel_rfl⟩
instance : TyI Try.prog 10 1 false := ⟨by kernel_rfl, by kernel_rfl⟩
instance : ZI Try.prog 10 [.str .empty] := ⟨by kernel_rfl⟩
instance : UI Try.prog 10 (.string) := ⟨by kernel_rfl⟩
instance : TyI Try.prog 11 1 false := ⟨by kernel_rfl, by kernel_rfl⟩
instance : ZI Try.prog 11 [.str .empty] := ⟨by kernel_rfl⟩
instance : UI Try.prog 11 (.string) := ⟨by kernel_rfl⟩
instance : TyI Try.prog 12 1 false := ⟨by kernel_rfl, by kernel_rfl⟩
instance : ZI Try.prog 12 [.int .u64 0] := ⟨by kernel_rfl⟩
instance : UI Try.prog 12 (.int .u64) := ⟨by kernel_rfl⟩
instance : TyI Try.prog 13 2 true := ⟨by kernel_rfl, by kernel_rfl⟩
instance : FldI Try.prog 13 0 0 9 := ⟨by kernel_rfl, by kernel_rfl⟩
instance : FldI Try.prog 13 1 1 12 := ⟨by kernel_rfl, by kernel_rfl⟩
instance : ZI Try.prog 13 [.str .empty, .int .u64 0] := ⟨by kernel_rfl⟩
instance : BdI Try.prog 13 [.str .empty, .int .u64 0] [(0, 1), (1, 1)] := ⟨by kernel_rfl⟩
instance : TyI Try.prog 14 2 true := ⟨by kernel_rfl, by kernel_rfl⟩
instance : FldI Try.prog 14 0 0 9 := ⟨by kernel_rfl, by kernel_rfl⟩
instance : FldI Try.prog 14 1 1 12 := ⟨by kernel_rfl, by kernel_rfl⟩
instance : ZI Try.prog 14 [.str .empty, .int .u64 0] := ⟨by kernel_rfl⟩
instance : BdI Try.prog 14 [.str .empty, .int .u64 0] [(0, 1), (1, 1)] := ⟨by kernel_rfl⟩
instance : TyI Try.prog 15 1 false := ⟨by kernel_rfl, by kernel_rfl⟩
instance : ZI Try.prog 15 [.raw (.pointer none)] := ⟨by kernel_rfl⟩
instance : PtI Try.prog 15 := ⟨by kernel_rfl⟩
instance : TyI Try.prog 16 1 false := ⟨by kernel_rfl, by kernel_rfl⟩
instance : ZI Try.prog 16 [.raw (.pointer none)] := ⟨by kernel_rfl⟩
instance : TyI Try.prog 17 1 false := ⟨by kernel_rfl, by kernel_rfl⟩
instance : ZI Try.prog 17 [.raw (.pointer none)] := ⟨by kernel_rfl⟩
instance : PtI Try.prog 17 := ⟨by kernel_rfl⟩
instance : TyI Try.prog 18 1 true := ⟨by kernel_rfl, by kernel_rfl⟩
instance : FldI Try.prog 18 0 0 17 := ⟨by kernel_rfl, by kernel_rfl⟩
instance : ZI Try.prog 18 [.raw (.pointer none)] := ⟨by kernel_rfl⟩
instance : BdI Try.prog 18 [.raw (.pointer none)] [(0, 1)] := ⟨by kernel_rfl⟩
instance : TyI Try.prog 19 1 true := ⟨by kernel_rfl, by kernel_rfl⟩
instance : FldI Try.prog 19 0 0 17 := ⟨by kernel_rfl, by kernel_rfl⟩
instance : ZI Try.prog 19 [.raw (.pointer none)] := ⟨by kernel_rfl⟩
instance : BdI Try.prog 19 [.raw (.pointer none)] [(0, 1)] := ⟨by kernel_rfl⟩
instance : TyI Try.prog 20 1 false := ⟨by kernel_rfl, by kernel_rfl⟩
instance : ZI Try.prog 20 [.raw .nilIface] := ⟨by kernel_rfl⟩
instance : TyI Try.prog 21 1 false := ⟨by kernel_rfl, by kernel_rfl⟩
instance : ZI Try.prog 21 [.int .i32 0] := ⟨by kernel_rfl⟩
instance : UI Try.prog 21 (.int .i32) := ⟨by kernel_rfl⟩
instance : TyI Try.prog 22 1 false := ⟨by kernel_rfl, by kernel_rfl⟩
instance : SlI Try.prog 22 29 1 := ⟨by kernel_rfl, by kernel_rfl⟩
instance : EI Try.prog 22 1 8 [.flt 0] := ⟨by kernel_rfl⟩
instance : ZI Try.prog 22 [.slnil] := ⟨by kernel_rfl⟩
instance : TyI Try.prog 23 5 true := ⟨by kernel_rfl, by kernel_rfl⟩
instance : FldI Try.prog 23 0 0 22 := ⟨by kernel_rfl, by kernel_rfl⟩
instance : FldI Try.prog 23 1 1 3 := ⟨by kernel_rfl, by kernel_rfl⟩
instance : FldI Try.prog 23 2 2 3 := ⟨by kernel_rfl, by kernel_rfl⟩
instance : FldI Try.prog 23 3 3 3 := ⟨by kernel_rfl, by kernel_rfl⟩
instance : FldI Try.prog 23 4 4 3 := ⟨by kernel_rfl, by kernel_rfl⟩
instance : ZI Try.prog 23 [.slnil, .int .i64 0, .int .i64 0, .int .i64 0, .int .i64 0] := ⟨by kernel_rfl⟩
instance : BdI Try.prog 23 [.slnil, .int .i64 0, .int .i64 0, .int .i64 0, .int .i64 0] [(0, 1), (1, 1), (2, 1), (3, 1), (4, 1)] := ⟨by kernel_rfl⟩
instance : TyI Try.prog 24 5 true := ⟨by kernel_rfl, by kernel_rfl⟩
instance : FldI Try.prog 24 0 0 22 := ⟨by kernel_rfl, by kernel_rfl⟩
instance : FldI Try.prog 24 1 1 3 := ⟨by kernel_rfl, by kernel_rfl⟩
instance : FldI Try.prog 24 2 2 3 := ⟨by kernel_rfl, by kernel_rfl⟩
instance : FldI Try.prog 24 3 3 3 := ⟨by kernel_rfl, by kernel_rfl⟩
instance : FldI Try.prog 24 4 4 3 := ⟨by kernel_rfl, by kernel_rfl⟩
instance : ZI Try.prog 24 [.slnil, .int .i64 0, .int .i64 0, .int .i64 0, .int .i64 0] := ⟨by kernel_rfl⟩
instance : BdI Try.prog 24 [.slnil, .int .i64 0, .int .i64 0, .int .i64 0, .int .i64 0] [(0, 1), (1, 1), (2, 1), (3, 1), (4, 1)] := ⟨by kernel_rfl⟩
instance : TyI Try.prog 25 1 false := ⟨by kernel_rfl, by kernel_rfl⟩
instance : ZI Try.prog 25 [.raw .nilFunc] := ⟨by kernel_rfl⟩
instance : TyI Try.prog 26 1 false := ⟨by kernel_rfl, by kernel_rfl⟩
instance : ZI Try.prog 26 [.raw .nilFunc] := ⟨by kernel_rfl⟩
instance : TyI Try.prog 27 1 false := ⟨by kernel_rfl, by kernel_rfl⟩
instance : ZI Try.prog 27 [.raw .nilFunc] := ⟨by kernel_rfl⟩
instance : TyI Try.prog 28 1 false := ⟨by kernel_rfl, by kernel_rfl⟩
instance : ZI Try.prog 28 [.raw .nilFunc] := ⟨by kernel_rfl⟩
instance : TyI Try.prog 29 1 false := ⟨by kernel_rfl, by kernel_rfl⟩
instance : ZI Try.prog 29 [.flt 0] := ⟨by kernel_rfl⟩
instance : UI Try.prog 29 (.float .f64) := ⟨by kernel_rfl⟩
instance : TyI Try.prog 30 1 false := ⟨by kernel_rfl, by kernel_rfl⟩
instance : ZI Try.prog 30 [.raw .nilFunc] := ⟨by kernel_rfl⟩
instance : TyI Try.prog 31 1 false := ⟨by kernel_rfl, by kernel_rfl⟩
instance : ZI Try.prog 31 [.raw .nilFunc] := ⟨by kernel_rfl⟩
instance : TyI Try.prog 32 1 false := ⟨by kernel_rfl, by kernel_rfl⟩
instance : ZI Try.prog 32 [.raw .nilFunc] := ⟨by kernel_rfl⟩
instance : TyI Try.prog 33 1 false := ⟨by kernel_rfl, by kernel_rfl⟩
instance : ZI Try.prog 33 [.int .i64 0] := ⟨by kernel_rfl⟩
instance : UI Try.prog 33 (.int .i64) := ⟨by kernel_rfl⟩
instance : TyI Try.prog 34 1 false := ⟨by kernel_rfl, by kernel_rfl⟩
instance : TyI Try.prog 35 1 false := ⟨by kernel_rfl, by kernel_rfl⟩
instance : ZI Try.prog 35 [.raw .nilFunc] := ⟨by kernel_rfl⟩
instance : TyI Try.prog 36 3 true := ⟨by kernel_rfl, by kernel_rfl⟩
instance : FldI Try.prog 36 0 0 3 := ⟨by kernel_rfl, by kernel_rfl⟩
instance : FldI Try.prog 36 1 1 3 := ⟨by kernel_rfl, by kernel_rfl⟩
instance : FldI Try.prog 36 2 2 22 := ⟨by kernel_rfl, by kernel_rfl⟩
instance : ZI Try.prog 36 [.int .i64 0, .int .i64 0, .slnil] := ⟨by kernel_rfl⟩
instance : BdI Try.prog 36 [.int .i64 0, .int .i64 0, .slnil] [(0, 1), (1, 1), (2, 1)] := ⟨by kernel_rfl⟩
instance : TyI Try.prog 37 3 true := ⟨by kernel_rfl, by kernel_rfl⟩
instance : FldI Try.prog 37 0 0 3 := ⟨by kernel_rfl, by kernel_rfl⟩
instance : FldI Try.prog 37 1 1 3 := ⟨by kernel_rfl, by kernel_rfl⟩
instance : FldI Try.prog 37 2 2 22 := ⟨by kernel_rfl, by kernel_rfl⟩
instance : ZI Try.prog 37 [.int .i64 0, .int .i64 0, .slnil] := ⟨by kernel_rfl⟩
instance : BdI Try.prog 37 [.int .i64 0, .int .i64 0, .slnil] [(0, 1), (1, 1), (2, 1)] := ⟨by kernel_rfl⟩
instance : TyI Try.prog 38 1 false := ⟨by kernel_rfl, by kernel_rfl⟩
instance : ZI Try.prog 38 [.raw .nilFunc] := ⟨by kernel_rfl⟩
instance : TyI Try.prog 39 1 false := ⟨by kernel_rfl, by kernel_rfl⟩
instance : ZI Try.prog 39 [.raw .nilFunc] := ⟨by kernel_rfl⟩
instance : TyI Try.prog 40 1 false := ⟨by kernel_rfl, by kernel_rfl⟩
instance : ZI Try.prog 40 [.raw .nilFunc] := ⟨by kernel_rfl⟩
instance : TyI Try.prog 41 1 false := ⟨by kernel_rfl, by kernel_rfl⟩
instance : ZI Try.prog 41 [.raw .nilFunc] := ⟨by kernel_rfl⟩
instance : TyI Try.prog 42 1 false := ⟨by kernel_rfl, by kernel_rfl⟩
instance : ZI Try.prog 42 [.raw .nilFunc] := ⟨by kernel_rfl⟩
instance : TyI Try.prog 43 1 false := ⟨by kernel_rfl, by kernel_rfl⟩
instance : TyI Try.prog 44 1 false := ⟨by kernel_rfl, by kernel_rfl⟩
instance : ZI Try.prog 44 [.raw .nilFunc] := ⟨by kernel_rfl⟩
instance : TyI Try.prog 45 1 false := ⟨by kernel_rfl, by kernel_rfl⟩
instance : ZI Try.prog 45 [.raw .nilFunc] := ⟨by kernel_rfl⟩
instance : TyI Try.prog 46 1 false := ⟨by kernel_rfl, by kernel_rfl⟩
instance : ZI Try.prog 46 [.raw .nilFunc] := ⟨by kernel_rfl⟩
instance : TyI Try.prog 47 1 false := ⟨by kernel_rfl, by kernel_rfl⟩
instance : SlI Try.prog 47 3 1 := ⟨by kernel_rfl, by kernel_rfl⟩
instance : EI Try.prog 47 1 8 [.int .i64 0] := ⟨by kernel_rfl⟩
instance : ZI Try.prog 47 [.slnil] := ⟨by kernel_rfl⟩
instance : TyI Try.prog 48 6 true := ⟨by kernel_rfl, by kernel_rfl⟩
instance : FldI Try.prog 48 0 0 24 := ⟨by kernel_rfl, by kernel_rfl⟩
instance : FldI Try.prog 48 1 5 47 := ⟨by kernel_rfl, by kernel_rfl⟩
instance : ZI Try.prog 48 [.slnil, .int .i64 0, .int .i64 0, .int .i64 0, .int .i64 0, .slnil] := ⟨by kernel_rfl⟩
instance : BdI Try.prog 48 [.slnil, .int .i64 0, .int .i64 0, .int .i64 0, .int .i64 0, .slnil] [(0, 5), (5, 1)] := ⟨by kernel_rfl⟩
instance : TyI Try.prog 49 6 true := ⟨by kernel_rfl, by kernel_rfl⟩
instance : FldI Try.prog 49 0 0 24 := ⟨by kernel_rfl, by kernel_rfl⟩
instance : FldI Try.prog 49 1 5 47 := ⟨by kernel_rfl, by kernel_rfl⟩
instance : ZI Try.prog 49 [.slnil, .int .i64 0, .int .i64 0, .int .i64 0, .int .i64 0, .slnil] := ⟨by kernel_rfl⟩
instance : BdI Try.prog 49 [.slnil, .int .i64 0, .int .i64 0, .int .i64 0, .int .i64 0, .slnil] [(0, 5), (5, 1)] := ⟨by kernel_rfl⟩
instance : TyI Try.prog 50 1 false := ⟨by kernel_rfl, by kernel_rfl⟩
instance : TyI Try.prog 51 1 false := ⟨by kernel_rfl, by kernel_rfl⟩
instance : ZI Try.prog 51 [.raw .nilFunc] := ⟨by kernel_rfl⟩
instance : TyI Try.prog 52 1 false := ⟨by kernel_rfl, by kernel_rfl⟩
instance : ZI Try.prog 52 [.raw .nilFunc] := ⟨by kernel_rfl⟩
instance : TyI Try.prog 53 1 false := ⟨by kernel_rfl, by kernel_rfl⟩
instance : ZI Try.prog 53 [.raw .nilFunc] := ⟨by kernel_rfl⟩
instance : TyI Try.prog 54 1 false := ⟨by kernel_rfl, by kernel_rfl⟩
instance : ZI Try.prog 54 [.raw .nilFunc] := ⟨by kernel_rfl⟩
instance : TyI Try.prog 55 1 false := ⟨by kernel_rfl, by kernel_rfl⟩
instance : ZI Try.prog 55 [.raw .nilFunc] := ⟨by kernel_rfl⟩
instance : TyI Try.prog 56 1 false := ⟨by kernel_rfl, by kernel_rfl⟩
instance : TyI Try.prog 57 1 false := ⟨by kernel_rfl, by kernel_rfl⟩
instance : ZI Try.prog 57 [.raw .nilFunc] := ⟨by kernel_rfl⟩
instance : TyI Try.prog 58 1 false := ⟨by kernel_rfl, by kernel_rfl⟩
instance : ZI Try.prog 58 [.raw .nilFunc] := ⟨by kernel_rfl⟩
instance : TyI Try.prog 59 1 false := ⟨by kernel_rfl, by kernel_rfl⟩
instance : ZI Try.prog 59 [.raw .nilFunc] := ⟨by kernel_rfl⟩
instance : TyI Try.prog 60 1 false := ⟨by kernel_rfl, by kernel_rfl⟩
instance : ZI Try.prog 60 [.raw .nilFunc] := ⟨by kernel_rfl⟩
instance : TyI Try.prog 61 3 true := ⟨by kernel_rfl, by kernel_rfl⟩
instance : FldI Try.prog 61 0 0 4 := ⟨by kernel_rfl, by kernel_rfl⟩
instance : FldI Try.prog 61 1 1 47 := ⟨by kernel_rfl, by kernel_rfl⟩
instance : FldI Try.prog 61 2 2 3 := ⟨by kernel_rfl, by kernel_rfl⟩
instance : ZI Try.prog 61 [.bool false, .slnil, .int .i64 0] := ⟨by kernel_rfl⟩
instance : BdI Try.prog 61 [.bool false, .slnil, .int .i64 0] [(0, 1), (1, 1), (2, 1)] := ⟨by kernel_rfl⟩
instance : TyI Try.prog 62 3 true := ⟨by kernel_rfl, by kernel_rfl⟩
instance : FldI Try.prog 62 0 0 4 := ⟨by kernel_rfl, by kernel_rfl⟩
instance : FldI Try.prog 62 1 1 47 := ⟨by kernel_rfl, by kernel_rfl⟩
instance : FldI Try.prog 62 2 2 3 := ⟨by kernel_rfl, by kernel_rfl⟩
instance : ZI Try.prog 62 [.bool false, .slnil, .int .i64 0] := ⟨by kernel_rfl⟩
instance : BdI Try.prog 62 [.bool false, .slnil, .int .i64 0] [(0, 1), (1, 1), (2, 1)] := ⟨by kernel_rfl⟩
instance : TyI Try.prog 63 1 false := ⟨by kernel_rfl, by kernel_rfl⟩
instance : ZI Try.prog 63 [.raw .nilFunc] := ⟨by kernel_rfl⟩
instance : TyI Try.prog 64 1 false := ⟨by kernel_rfl, by kernel_rfl⟩
instance : ZI Try.prog 64 [.raw .nilFunc] := ⟨by kernel_rfl⟩
instance : TyI Try.prog 65 1 false := ⟨by kernel_rfl, by kernel_rfl⟩
instance : ZI Try.prog 65 [.raw .nilFunc] := ⟨by kernel_rfl⟩
instance : TyI Try.prog 66 1 false := ⟨by kernel_rfl, by kernel_rfl⟩
instance : ZI Try.prog 66 [.raw .nilFunc] := ⟨by kernel_rfl⟩
instance : TyI Try.prog 67 1 false := ⟨by kernel_rfl, by kernel_rfl⟩
instance : ZI Try.prog 67 [.raw .nilFunc] := ⟨by kernel_rfl⟩
instance : TyI Try.prog 68 1 false := ⟨by kernel_rfl, by kernel_rfl⟩
instance : ZI Try.prog 68 [.raw .nilFunc] := ⟨by kernel_rfl⟩
instance : TyI Try.prog 69 1 false := ⟨by kernel_rfl, by kernel_rfl⟩
instance : TyI Try.prog 70 1 false := ⟨by kernel_rfl, by kernel_rfl⟩
instance : ZI Try.prog 70 [.raw .nilFunc] := ⟨by kernel_rfl⟩
instance : TyI Try.prog 71 1 false := ⟨by kernel_rfl, by kernel_rfl⟩
instance : TyI Try.prog 72 1 false := ⟨by kernel_rfl, by kernel_rfl⟩
instance : ZI Try.prog 72 [.raw .nilFunc] := ⟨by kernel_rfl⟩
instance : TyI Try.prog 73 1 false := ⟨by kernel_rfl, by kernel_rfl⟩
instance : ZI Try.prog 73 [.raw .nilFunc] := ⟨by kernel_rfl⟩
instance : TyI Try.prog 74 1 false := ⟨by kernel_rfl, by kernel_rfl⟩
instance : TyI Try.prog 75 1 false := ⟨by kernel_rfl, by kernel_rfl⟩
instance : ZI Try.prog 75 [.raw .nilFunc] := ⟨by kernel_rfl⟩
instance : TyI Try.prog 76 1 false := ⟨by kernel_rfl, by kernel_rfl⟩
instance : TyI Try.prog 77 1 false := ⟨by kernel_rfl, by kernel_rfl⟩
instance : ZI Try.prog 77 [.raw .nilFunc] := ⟨by kernel_rfl⟩
instance : TyI Try.prog 78 1 false := ⟨by kernel_rfl, by kernel_rfl⟩
instance : ZI Try.prog 78 [.raw .nilFunc] := ⟨by kernel_rfl⟩
instance : TyI Try.prog 79 1 false := ⟨by kernel_rfl, by kernel_rfl⟩
instance : ZI Try.prog 79 [.raw .nilFunc] := ⟨by kernel_rfl⟩
instance : TyI Try.prog 80 1 false := ⟨by kernel_rfl, by kernel_rfl⟩
instance : ZI Try.prog 80 [.raw .nilFunc] := ⟨by kernel_rfl⟩
instance : TyI Try.prog 81 4 true := ⟨by kernel_rfl, by kernel_rfl⟩
instance : FldI Try.prog 81 0 0 22 := ⟨by kernel_rfl, by kernel_rfl⟩
instance : FldI Try.prog 81 1 1 3 := ⟨by kernel_rfl, by kernel_rfl⟩
instance : FldI Try.prog 81 2 2 3 := ⟨by kernel_rfl, by kernel_rfl⟩
instance : FldI Try.prog 81 3 3 3 := ⟨by kernel_rfl, by kernel_rfl⟩
instance : ZI Try.prog 81 [.slnil, .int .i64 0, .int .i64 0, .int .i64 0] := ⟨by kernel_rfl⟩
instance : BdI Try.prog 81 [.slnil, .int .i64 0, .int .i64 0, .int .i64 0] [(0, 1), (1, 1), (2, 1), (3, 1)] := ⟨by kernel_rfl⟩
instance : TyI Try.prog 82 4 true := ⟨by kernel_rfl, by kernel_rfl⟩
instance : FldI Try.prog 82 0 0 22 := ⟨by kernel_rfl, by kernel_rfl⟩
instance : FldI Try.prog 82 1 1 3 := ⟨by kernel_rfl, by kernel_rfl⟩
instance : FldI Try.prog 82 2 2 3 := ⟨by kernel_rfl, by kernel_rfl⟩
instance : FldI Try.prog 82 3 3 3 := ⟨by kernel_rfl, by kernel_rfl⟩
instance : ZI Try.prog 82 [.slnil, .int .i64 0, .int .i64 0, .int .i64 0] := ⟨by kernel_rfl⟩
instance : BdI Try.prog 82 [.slnil, .int .i64 0, .int .i64 0, .int .i64 0] [(0, 1), (1, 1), (2, 1), (3, 1)] := ⟨by kernel_rfl⟩
instance : TyI Try.prog 83 1 false := ⟨by kernel_rfl, by kernel_rfl⟩
instance : ZI Try.prog 83 [.raw .nilFunc] := ⟨by kernel_rfl⟩
instance : TyI Try.prog 84 1 false := ⟨by kernel_rfl, by kernel_rfl⟩
instance : ZI Try.prog 84 [.raw .nilFunc] := ⟨by kernel_rfl⟩
instance : TyI Try.prog 85 1 false := ⟨by kernel_rfl, by kernel_rfl⟩
instance : ZI Try.prog 85 [.raw .nilFunc] := ⟨by kernel_rfl⟩
instance : TyI Try.prog 86 1 false := ⟨by kernel_rfl, by kernel_rfl⟩
instance : TyI Try.prog 87 1 false := ⟨by kernel_rfl, by kernel_rfl⟩
instance : ZI Try.prog 87 [.raw .nilFunc] := ⟨by kernel_rfl⟩
instance : TyI Try.prog 88 1 false := ⟨by kernel_rfl, by kernel_rfl⟩
instance : ZI Try.prog 88 [.raw .nilFunc] := ⟨by kernel_rfl⟩
instance : TyI Try.prog 89 1 false := ⟨by kernel_rfl, by kernel_rfl⟩
instance : TyI Try.prog 90 1 false := ⟨by kernel_rfl, by kernel_rfl⟩
instance : ZI Try.prog 90 [.raw .nilFunc] := ⟨by kernel_rfl⟩
instance : TyI Try.prog 91 1 false := ⟨by kernel_rfl, by kernel_rfl⟩
instance : ZI Try.prog 91 [.raw .nilFunc] := ⟨by kernel_rfl⟩
instance : TyI Try.prog 92 1 false := ⟨by kernel_rfl, by kernel_rfl⟩
instance : ZI Try.prog 92 [.raw .nilFunc] := ⟨by kernel_rfl⟩
instance : TyI Try.prog 93 1 false := ⟨by kernel_rfl, by kernel_rfl⟩
instance : ZI Try.prog 93 [.raw .nilFunc] := ⟨by kernel_rfl⟩
instance : TyI Try.prog 94 1 false := ⟨by kernel_rfl, by kernel_rfl⟩
instance : ZI Try.prog 94 [.raw .nilFunc] := ⟨by kernel_rfl⟩
instance : TyI Try.prog 95 1 false := ⟨by kernel_rfl, by kernel_rfl⟩
instance : SlI Try.prog 95 98 2 := ⟨by kernel_rfl, by kernel_rfl⟩
instance : EI Try.prog 95 2 16 [.int .i64 0, .int .i64 0] := ⟨by kernel_rfl⟩
instance : ZI Try.prog 95 [.slnil] := ⟨by kernel_rfl⟩
instance : TyI Try.prog 96 1 false := ⟨by kernel_rfl, by kernel_rfl⟩
instance : ZI Try.prog 96 [.raw .nilFunc] := ⟨by kernel_rfl⟩
instance : TyI Try.prog 97 1 false := ⟨by kernel_rfl, by kernel_rfl⟩
instance : ZI Try.prog 97 [.raw .nilFunc] := ⟨by kernel_rfl⟩
instance : TyI Try.prog 98 2 true := ⟨by kernel_rfl, by kernel_rfl⟩
instance : ZI Try.prog 98 [.int .i64 0, .int .i64 0] := ⟨by kernel_rfl⟩
instance : TyI Try.prog 99 1 false := ⟨by kernel_rfl, by kernel_rfl⟩
instance : ZI Try.prog 99 [.raw .nilFunc] := ⟨by kernel_rfl⟩
instance : TyI Try.prog 100 1 false := ⟨by kernel_rfl, by kernel_rfl⟩
instance : ZI Try.prog 100 [.raw .nilFunc] := ⟨by kernel_rfl⟩
instance : TyI Try.prog 101 1 false := ⟨by kernel_rfl, by kernel_rfl⟩
instance : TyI Try.prog 102 1 false := ⟨by kernel_rfl, by kernel_rfl⟩
instance : ZI Try.prog 102 [.raw .nilFunc] := ⟨by kernel_rfl⟩
instance : TyI Try.prog 103 1 false := ⟨by kernel_rfl, by kernel_rfl⟩
instance : ZI Try.prog 103 [.raw (.pointer none)] := ⟨by kernel_rfl⟩
instance : PtI Try.prog 103 := ⟨by kernel_rfl⟩
instance : TyI Try.prog 104 1 false := ⟨by kernel_rfl, by kernel_rfl⟩
instance : ZI Try.prog 104 [.raw .nilFunc] := ⟨by kernel_rfl⟩
instance : TyI Try.prog 105 1 false := ⟨by kernel_rfl, by kernel_rfl⟩
instance : ZI Try.prog 105 [.raw .nilFunc] := ⟨by kernel_rfl⟩
instance : TyI Try.prog 106 1 false := ⟨by kernel_rfl, by kernel_rfl⟩
instance : ZI Try.prog 106 [.raw .nilFunc] := ⟨by kernel_rfl⟩
instance : TyI Try.prog 107 1 false := ⟨by kernel_rfl, by kernel_rfl⟩
instance : ZI Try.prog 107 [.raw .nilFunc] := ⟨by kernel_rfl⟩
instance : TyI Try.prog 108 1 false := ⟨by kernel_rfl, by kernel_rfl⟩
instance : ZI Try.prog 108 [.raw .nilFunc] := ⟨by kernel_rfl⟩
instance : TyI Try.prog 109 1 false := ⟨by kernel_rfl, by kernel_rfl⟩
instance : ZI Try.prog 109 [.raw .nilFunc] := ⟨by kernel_rfl⟩
instance : TyI Try.prog 110 1 false := ⟨by kernel_rfl, by kernel_rfl⟩
instance : ZI Try.prog 110 [.raw .nilFunc] := ⟨by kernel_rfl⟩
instance : TyI Try.prog 111 1 false := ⟨by kernel_rfl, by kernel_rfl⟩
instance : ZI Try.prog 111 [.raw .nilFunc] := ⟨by kernel_rfl⟩
instance : TyI Try.prog 112 1 false := ⟨by kernel_rfl, by kernel_rfl⟩
instance : ZI Try.prog 112 [.int .u64 0] := ⟨by kernel_rfl⟩
instance : UI Try.prog 112 (.int .u64) := ⟨by kernel_rfl⟩
instance : TyI Try.prog 113 1 false := ⟨by kernel_rfl, by kernel_rfl⟩
instance : TyI Try.prog 114 1 false := ⟨by kernel_rfl, by kernel_rfl⟩
instance : ZI Try.prog 114 [.raw .nilFunc] := ⟨by kernel_rfl⟩
instance : TyI Try.prog 115 1 false := ⟨by kernel_rfl, by kernel_rfl⟩
instance : ZI Try.prog 115 [.raw .nilFunc] := ⟨by kernel_rfl⟩
instance : TyI Try.prog 116 1 false := ⟨by kernel_rfl, by kernel_rfl⟩
instance : ZI Try.prog 116 [.raw .nilFunc] := ⟨by kernel_rfl⟩
instance : TyI Try.prog 117 1 false := ⟨by kernel_rfl, by kernel_rfl⟩
instance : ZI Try.prog 117 [.raw .nilFunc] := ⟨by kernel_rfl⟩
instance : TyI Try.prog 118 1 false := ⟨by kernel_rfl, by kernel_rfl⟩
instance : TyI Try.prog 119 1 false := ⟨by kernel_rfl, by kernel_rfl⟩
instance : ZI Try.prog 119 [.raw .nilFunc] := ⟨by kernel_rfl⟩
instance : TyI Try.prog 120 1 false := ⟨by kernel_rfl, by kernel_rfl⟩
instance : TyI Try.prog 121 1 false := ⟨by kernel_rfl, by kernel_rfl⟩
instance : ZI Try.prog 121 [.raw .nilFunc] := ⟨by kernel_rfl⟩
instance : TyI Try.prog 122 1 false := ⟨by kernel_rfl, by kernel_rfl⟩
instance : ZI Try.prog 122 [.raw .nilFunc] := ⟨by kernel_rfl⟩
instance : TyI Try.prog 123 1 false := ⟨by kernel_rfl, by kernel_rfl⟩
instance : ZI Try.prog 123 [.raw .nilFunc] := ⟨by kernel_rfl⟩
instance : TyI Try.prog 124 1 false := ⟨by kernel_rfl, by kernel_rfl⟩
instance : ZI Try.prog 124 [.raw .nilFunc] := ⟨by kernel_rfl⟩
instance : TyI Try.prog 125 1 false := ⟨by kernel_rfl, by kernel_rfl⟩
instance : ZI Try.prog 125 [.raw .nilFunc] := ⟨by kernel_rfl⟩
instance : TyI Try.prog 126 1 false := ⟨by kernel_rfl, by kernel_rfl⟩
instance : ZI Try.prog 126 [.raw .nilFunc] := ⟨by kernel_rfl⟩
instance : TyI Try.prog 127 1 false := ⟨by kernel_rfl, by kernel_rfl⟩
instance : ZI Try.prog 127 [.raw .nilFunc] := ⟨by kernel_rfl⟩
instance : TyI Try.prog 128 1 false := ⟨by kernel_rfl, by kernel_rfl⟩
instance : ZI Try.prog 128 [.raw .nilFunc] := ⟨by kernel_rfl⟩
instance : TyI Try.prog 129 11 true := ⟨by kernel_rfl, by kernel_rfl⟩
instance : FldI Try.prog 129 0 0 49 := ⟨by kernel_rfl, by kernel_rfl⟩
instance : FldI Try.prog 129 1 6 24 := ⟨by kernel_rfl, by kernel_rfl⟩
instance : ZI Try.prog 129 [.slnil, .int .i64 0, .int .i64 0, .int .i64 0, .int .i64 0, .slnil, .slnil, .int .i64 0, .int .i64 0, .int .i64 0, .int .i64 0] := ⟨by kernel_rfl⟩
instance : BdI Try.prog 129 [.slnil, .int .i64 0, .int .i64 0, .int .i64 0, .int .i64 0, .slnil, .slnil, .int .i64 0, .int .i64 0, .int .i64 0, .int .i64 0] [(0, 6), (6, 5)] := ⟨by kernel_rfl⟩
instance : TyI Try.prog 130 11 true := ⟨by kernel_rfl, by kernel_rfl⟩
instance : FldI Try.prog 130 0 0 49 := ⟨by kernel_rfl, by kernel_rfl⟩
instance : FldI Try.prog 130 1 6 24 := ⟨by kernel_rfl, by kernel_rfl⟩
instance : ZI Try.prog 130 [.slnil, .int .i64 0, .int .i64 0, .int .i64 0, .int .i64 0, .slnil, .slnil, .int .i64 0, .int .i64 0, .int .i64 0, .int .i64 0] := ⟨by kernel_rfl⟩
instance : BdI Try.prog 130 [.slnil, .int .i64 0, .int .i64 0, .int .i64 0, .int .i64 0, .slnil, .slnil, .int .i64 0, .int .i64 0, .int .i64 0, .int .i64 0] [(0, 6), (6, 5)] := ⟨by kernel_rfl⟩
instance : TyI Try.prog 131 1 false := ⟨by kernel_rfl, by kernel_rfl⟩
instance : TyI Try.prog 132 1 false := ⟨by kernel_rfl, by kernel_rfl⟩
instance : ZI Try.prog 132 [.raw .nilFunc] := ⟨by kernel_rfl⟩
instance : TyI Try.prog 133 1 false := ⟨by kernel_rfl, by kernel_rfl⟩
instance : ZI Try.prog 133 [.raw .nilFunc] := ⟨by kernel_rfl⟩
instance : TyI Try.prog 134 1 false := ⟨by kernel_rfl, by kernel_rfl⟩
instance : ZI Try.prog 134 [.raw .nilFunc] := ⟨by kernel_rfl⟩
instance : TyI Try.prog 135 1 false := ⟨by kernel_rfl, by kernel_rfl⟩
instance : ZI Try.prog 135 [.raw .nilFunc] := ⟨by kernel_rfl⟩
instance : TyI Try.prog 136 1 false := ⟨by kernel_rfl, by kernel_rfl⟩
instance : ZI Try.prog 136 [.raw .nilFunc] := ⟨by kernel_rfl⟩
instance : TyI Try.prog 137 1 false := ⟨by kernel_rfl, by kernel_rfl⟩
instance : ZI Try.prog 137 [.raw .nilFunc] := ⟨by kernel_rfl⟩
instance : TyI Try.prog 138 1 false := ⟨by kernel_rfl, by kernel_rfl⟩
instance : ZI Try.prog 138 [.raw .nilFunc] := ⟨by kernel_rfl⟩
instance : TyI Try.prog 139 1 false := ⟨by kernel_rfl, by kernel_rfl⟩
instance : ZI Try.prog 139 [.raw .nilFunc] := ⟨by kernel_rfl⟩
instance : TyI Try.prog 140 1 false := ⟨by kernel_rfl, by kernel_rfl⟩
instance : ZI Try.prog 140 [.raw .nilFunc] := ⟨by kernel_rfl⟩
instance : TyI Try.prog 141 1 false := ⟨by kernel_rfl, by kernel_rfl⟩
instance : ZI Try.prog 141 [.raw .nilFunc] := ⟨by kernel_rfl⟩
instance : TyI Try.prog 142 1 false := ⟨by kernel_rfl, by kernel_rfl⟩
instance : ZI Try.prog 142 [.raw .nilFunc] := ⟨by kernel_rfl⟩
instance : TyI Try.prog 143 1 false := ⟨by kernel_rfl, by kernel_rfl⟩
instance : ZI Try.prog 143 [.raw .nilFunc] := ⟨by kernel_rfl⟩
instance : TyI Try.prog 144 1 false := ⟨by kernel_rfl, by kernel_rfl⟩
instance : ZI Try.prog 144 [.raw .nilFunc] := ⟨by kernel_rfl⟩
instance : TyI Try.prog 145 1 false := ⟨by kernel_rfl, by kernel_rfl⟩
instance : ZI Try.prog 145 [.raw .nilFunc] := ⟨by kernel_rfl⟩
instance : TyI Try.prog 146 1 false := ⟨by kernel_rfl, by kernel_rfl⟩
instance : ZI Try.prog 146 [.raw .nilFunc] := ⟨by kernel_rfl⟩
instance : TyI Try.prog 147 1 false := ⟨by kernel_rfl, by kernel_rfl⟩
instance : ZI Try.prog 147 [.raw .nilFunc] := ⟨by kernel_rfl⟩
instance : TyI Try.prog 148 1 false := ⟨by kernel_rfl, by kernel_rfl⟩
instance : ZI Try.prog 148 [.int .u64 0] := ⟨by kernel_rfl⟩
instance : UI Try.prog 148 (.int .u64) := ⟨by kernel_rfl⟩
instance : TyI Try.prog 149 1 false := ⟨by kernel_rfl, by kernel_rfl⟩
instance : TyI Try.prog 150 1 false := ⟨by kernel_rfl, by kernel_rfl⟩
instance : ZI Try.prog 150 [.raw .nilFunc] := ⟨by kernel_rfl⟩
instance : TyI Try.prog 151 1 false := ⟨by kernel_rfl, by kernel_rfl⟩
instance : ZI Try.prog 151 [.raw .nilFunc] := ⟨by kernel_rfl⟩
instance : TyI Try.prog 152 1 false := ⟨by kernel_rfl, by kernel_rfl⟩
instance : ZI Try.prog 152 [.raw .nilFunc] := ⟨by kernel_rfl⟩
instance : TyI Try.prog 153 1 false := ⟨by kernel_rfl, by kernel_rfl⟩
instance : ZI Try.prog 153 [.raw .nilFunc] := ⟨by kernel_rfl⟩
instance : TyI Try.prog 154 1 false := ⟨by kernel_rfl, by kernel_rfl⟩
instance : ZI Try.prog 154 [.raw .nilFunc] := ⟨by kernel_rfl⟩
instance : TyI Try.prog 155 1 false := ⟨by kernel_rfl, by kernel_rfl⟩
instance : ZI Try.prog 155 [.raw .nilFunc] := ⟨by kernel_rfl⟩
instance : TyI Try.prog 156 1 false := ⟨by kernel_rfl, by kernel_rfl⟩
instance : ZI Try.prog 156 [.raw .nilFunc] := ⟨by kernel_rfl⟩
instance : TyI Try.prog 157 1 false := ⟨by kernel_rfl, by kernel_rfl⟩
instance : ZI Try.prog 157 [.raw .nilFunc] := ⟨by kernel_rfl⟩
instance : TyI Try.prog 158 1 false := ⟨by kernel_rfl, by kernel_rfl⟩
instance : ZI Try.prog 158 [.raw .nilFunc] := ⟨by kernel_rfl⟩
instance : TyI Try.prog 159 9 true := ⟨by kernel_rfl, by kernel_rfl⟩
instance : FldI Try.prog 159 0 0 24 := ⟨by kernel_rfl, by kernel_rfl⟩
instance : FldI Try.prog 159 1 5 82 := ⟨by kernel_rfl, by kernel_rfl⟩
instance : ZI Try.prog 159 [.slnil, .int .i64 0, .int .i64 0, .int .i64 0, .int .i64 0, .slnil, .int .i64 0, .int .i64 0, .int .i64 0] := ⟨by kernel_rfl⟩
instance : BdI Try.prog 159 [.slnil, .int .i64 0, .int .i64 0, .int .i64 0, .int .i64 0, .slnil, .int .i64 0, .int .i64 0, .int .i64 0] [(0, 5), (5, 4)] := ⟨by kernel_rfl⟩
instance : TyI Try.prog 160 9 true := ⟨by kernel_rfl, by kernel_rfl⟩
instance : FldI Try.prog 160 0 0 24 := ⟨by kernel_rfl, by kernel_rfl⟩
instance : FldI Try.prog 160 1 5 82 := ⟨by kernel_rfl, by kernel_rfl⟩
instance : ZI Try.prog 160 [.slnil, .int .i64 0, .int .i64 0, .int .i64 0, .int .i64 0, .slnil, .int .i64 0, .int .i64 0, .int .i64 0] := ⟨by kernel_rfl⟩
instance : BdI Try.prog 160 [.slnil, .int .i64 0, .int .i64 0, .int .i64 0, .int .i64 0, .slnil, .int .i64 0, .int .i64 0, .int .i64 0] [(0, 5), (5, 4)] := ⟨by kernel_rfl⟩
instance : TyI Try.prog 161 1 false := ⟨by kernel_rfl, by kernel_rfl⟩
instance : ZI Try.prog 161 [.raw .nilFunc] := ⟨by kernel_rfl⟩
instance : TyI Try.prog 162 1 false := ⟨by kernel_rfl, by kernel_rfl⟩
instance : ZI Try.prog 162 [.raw .nilFunc] := ⟨by kernel_rfl⟩
instance : TyI Try.prog 163 1 false := ⟨by kernel_rfl, by kernel_rfl⟩
instance : ZI Try.prog 163 [.raw .nilFunc] := ⟨by kernel_rfl⟩
instance : TyI Try.prog 164 1 false := ⟨by kernel_rfl, by kernel_rfl⟩
instance : ZI Try.prog 164 [.raw .nilFunc] := ⟨by kernel_rfl⟩
instance : TyI Try.prog 165 1 false := ⟨by kernel_rfl, by kernel_rfl⟩
instance : ZI Try.prog 165 [.raw .nilFunc] := ⟨by kernel_rfl⟩
instance : TyI Try.prog 166 1 false := ⟨by kernel_rfl, by kernel_rfl⟩
instance : ZI Try.prog 166 [.raw .nilFunc] := ⟨by kernel_rfl⟩
instance : TyI Try.prog 167 1 false := ⟨by kernel_rfl, by kernel_rfl⟩
instance : ZI Try.prog 167 [.raw .nilFunc] := ⟨by kernel_rfl⟩
instance : TyI Try.prog 168 1 false := ⟨by kernel_rfl, by kernel_rfl⟩
instance : ZI Try.prog 168 [.int .i64 0] := ⟨by kernel_rfl⟩
instance : UI Try.prog 168 (.int .i64) := ⟨by kernel_rfl⟩
instance : TyI Try.prog 169 1 false := ⟨by kernel_rfl, by kernel_rfl⟩
instance : TyI Try.prog 170 1 false := ⟨by kernel_rfl, by kernel_rfl⟩
instance : ZI Try.prog 170 [.raw .nilFunc] := ⟨by kernel_rfl⟩
instance : TyI Try.prog 171 1 false := ⟨by kernel_rfl, by kernel_rfl⟩
instance : ZI Try.prog 171 [.raw .nilFunc] := ⟨by kernel_rfl⟩
instance : TyI Try.prog 172 1 false := ⟨by kernel_rfl, by kernel_rfl⟩
instance : ZI Try.prog 172 [.raw .nilFunc] := ⟨by kernel_rfl⟩
instance : TyI Try.prog 173 1 false := ⟨by kernel_rfl, by kernel_rfl⟩
instance : ZI Try.prog 173 [.raw .nilFunc] := ⟨by kernel_rfl⟩
instance : TyI Try.prog 174 1 false := ⟨by kernel_rfl, by kernel_rfl⟩
instance : ZI Try.prog 174 [.raw .nilFunc] := ⟨by kernel_rfl⟩
instance : TyI Try.prog 175 1 false := ⟨by kernel_rfl, by kernel_rfl⟩
instance : ZI Try.prog 175 [.raw .nilFunc] := ⟨by kernel_rfl⟩
instance : TyI Try.prog 176 1 false := ⟨by kernel_rfl, by kernel_rfl⟩
instance : ZI Try.prog 176 [.int .u32 0] := ⟨by kernel_rfl⟩
instance : UI Try.prog 176 (.int .u32) := ⟨by kernel_rfl⟩
instance : TyI Try.prog 177 1 false := ⟨by kernel_rfl, by kernel_rfl⟩
instance : ZI Try.prog 177 [.raw .nilFunc] := ⟨by kernel_rfl⟩
instance : TyI Try.prog 178 1 false := ⟨by kernel_rfl, by kernel_rfl⟩
instance : ZI Try.prog 178 [.int .u64 0] := ⟨by kernel_rfl⟩
instance : UI Try.prog 178 (.int .u64) := ⟨by kernel_rfl⟩
instance : TyI Try.prog 179 1 false := ⟨by kernel_rfl, by kernel_rfl⟩
instance : ZI Try.prog 179 [.raw .nilFunc] := ⟨by kernel_rfl⟩
instance : TyI Try.prog 180 1 false := ⟨by kernel_rfl, by kernel_rfl⟩
instance : ZI Try.prog 180 [.raw .nilFunc] := ⟨by kernel_rfl⟩
instance : TyI Try.prog 181 1 false := ⟨by kernel_rfl, by kernel_rfl⟩
instance : ZI Try.prog 181 [.raw .nilFunc] := ⟨by kernel_rfl⟩
instance : TyI Try.prog 182 1 false := ⟨by kernel_rfl, by kernel_rfl⟩
instance : ZI Try.prog 182 [.raw (.pointer none)] := ⟨by kernel_rfl⟩
instance : PtI Try.prog 182 := ⟨by kernel_rfl⟩
instance : TyI Try.prog 183 1 false := ⟨by kernel_rfl, by kernel_rfl⟩
instance : ZI Try.prog 183 [.raw .nilFunc] := ⟨by kernel_rfl⟩
instance : TyI Try.prog 184 1 false := ⟨by kernel_rfl, by kernel_rfl⟩
instance : ZI Try.prog 184 [.raw .nilFunc] := ⟨by kernel_rfl⟩
instance : TyI Try.prog 185 1 false := ⟨by kernel_rfl, by kernel_rfl⟩
instance : ZI Try.prog 185 [.raw (.pointer none)] := ⟨by kernel_rfl⟩
instance : PtI Try.prog 185 := ⟨by kernel_rfl⟩
instance : TyI Try.prog 186 1 false := ⟨by kernel_rfl, by kernel_rfl⟩
instance : ZI Try.prog 186 [.raw .nilFunc] := ⟨by kernel_rfl⟩
instance : TyI Try.prog 187 1 false := ⟨by kernel_rfl, by kernel_rfl⟩
instance : ZI Try.prog 187 [.raw .nilFunc] := ⟨by kernel_rfl⟩
instance : TyI Try.prog 188 4 true := ⟨by kernel_rfl, by kernel_rfl⟩
instance : FldI Try.prog 188 0 0 17 := ⟨by kernel_rfl, by kernel_rfl⟩
instance : FldI Try.prog 188 1 1 17 := ⟨by kernel_rfl, by kernel_rfl⟩
instance : FldI Try.prog 188 2 2 17 := ⟨by kernel_rfl, by kernel_rfl⟩
instance : FldI Try.prog 188 3 3 9 := ⟨by kernel_rfl, by kernel_rfl⟩
instance : ZI Try.prog 188 [.raw (.pointer none), .raw (.pointer none), .raw (.pointer none), .str .empty] := ⟨by kernel_rfl⟩
instance : BdI Try.prog 188 [.raw (.pointer none), .raw (.pointer none), .raw (.pointer none), .str .empty] [(0, 1), (1, 1), (2, 1), (3, 1)] := ⟨by kernel_rfl⟩
instance : TyI Try.prog 189 4 true := ⟨by kernel_rfl, by kernel_rfl⟩
instance : FldI Try.prog 189 0 0 17 := ⟨by kernel_rfl, by kernel_rfl⟩
instance : FldI Try.prog 189 1 1 17 := ⟨by kernel_rfl, by kernel_rfl⟩
instance : FldI Try.prog 189 2 2 17 := ⟨by kernel_rfl, by kernel_rfl⟩
instance : FldI Try.prog 189 3 3 9 := ⟨by kernel_rfl, by kernel_rfl⟩
instance : ZI Try.prog 189 [.raw (.pointer none), .raw (.pointer none), .raw (.pointer none), .str .empty] := ⟨by kernel_rfl⟩
instance : BdI Try.prog 189 [.raw (.pointer none), .raw (.pointer none), .raw (.pointer none), .str .empty] [(0, 1), (1, 1), (2, 1), (3, 1)] := ⟨by kernel_rfl⟩
instance : TyI Try.prog 190 0 true := ⟨by kernel_rfl, by kernel_rfl⟩
instance : ZI Try.prog 190 [] := ⟨by kernel_rfl⟩
instance : TyI Try.prog 191 0 true := ⟨by kernel_rfl, by kernel_rfl⟩
instance : ZI Try.prog 191 [] := ⟨by kernel_rfl⟩
instance : BdI Try.prog 191 [] [(0, 0)] := ⟨by kernel_rfl⟩
instance : TyI Try.prog 192 0 true := ⟨by kernel_rfl, by kernel_rfl⟩
instance : ZI Try.prog 192 [] := ⟨by kernel_rfl⟩
instance : BdI Try.prog 192 [] [(0, 0)] := ⟨by kernel_rfl⟩
instance : TyI Try.prog 193 1 false := ⟨by kernel_rfl, by kernel_rfl⟩
instance : ZI Try.prog 193 [.int .u8 0] := ⟨by kernel_rfl⟩
instance : UI Try.prog 193 (.int .u8) := ⟨by kernel_rfl⟩
instance : TyI Try.prog 194 1 false := ⟨by kernel_rfl, by kernel_rfl⟩
instance : ZI Try.prog 194 [.int .u8 0] := ⟨by kernel_rfl⟩
instance : UI Try.prog 194 (.int .u8) := ⟨by kernel_rfl⟩
instance : TyI Try.prog 195 1 false := ⟨by kernel_rfl, by kernel_rfl⟩
instance : ZI Try.prog 195 [.raw .nilFunc] := ⟨by kernel_rfl⟩
instance : TyI Try.prog 196 1 false := ⟨by kernel_rfl, by kernel_rfl⟩
instance : ZI Try.prog 196 [.raw (.pointer none)] := ⟨by kernel_rfl⟩
instance : PtI Try.prog 196 := ⟨by kernel_rfl⟩
instance : TyI Try.prog 197 1 false := ⟨by kernel_rfl, by kernel_rfl⟩
instance : ZI Try.prog 197 [.int .i32 0] := ⟨by kernel_rfl⟩
instance : UI Try.prog 197 (.int .i32) := ⟨by kernel_rfl⟩
instance : TyI Try.prog 198 1 false := ⟨by kernel_rfl, by kernel_rfl⟩
instance : ZI Try.prog 198 [.int .i32 0] := ⟨by kernel_rfl⟩
instance : UI Try.prog 198 (.int .i32) := ⟨by kernel_rfl⟩
instance : TyI Try.prog 199 11 true := ⟨by kernel_rfl, by kernel_rfl⟩
instance : FldI Try.prog 199 0 0 12 := ⟨by kernel_rfl, by kernel_rfl⟩
instance : FldI Try.prog 199 1 1 12 := ⟨by kernel_rfl, by kernel_rfl⟩
instance : FldI Try.prog 199 2 2 176 := ⟨by kernel_rfl, by kernel_rfl⟩
instance : FldI Try.prog 199 3 3 193 := ⟨by kernel_rfl, by kernel_rfl⟩
instance : FldI Try.prog 199 4 4 5 := ⟨by kernel_rfl, by kernel_rfl⟩
instance : FldI Try.prog 199 5 5 5 := ⟨by kernel_rfl, by kernel_rfl⟩
instance : FldI Try.prog 199 6 6 194 := ⟨by kernel_rfl, by kernel_rfl⟩
instance : FldI Try.prog 199 7 7 195 := ⟨by kernel_rfl, by kernel_rfl⟩
instance : FldI Try.prog 199 8 8 196 := ⟨by kernel_rfl, by kernel_rfl⟩
instance : FldI Try.prog 199 9 9 197 := ⟨by kernel_rfl, by kernel_rfl⟩
instance : FldI Try.prog 199 10 10 198 := ⟨by kernel_rfl, by kernel_rfl⟩
instance : ZI Try.prog 199 [.int .u64 0, .int .u64 0, .int .u32 0, .int .u8 0, .int .u8 0, .int .u8 0, .int .u8 0, .raw .nilFunc, .raw (.pointer none), .int .i32 0, .int .i32 0] := ⟨by kernel_rfl⟩
instance : BdI Try.prog 199 [.int .u64 0, .int .u64 0, .int .u32 0, .int .u8 0, .int .u8 0, .int .u8 0, .int .u8 0, .raw .nilFunc, .raw (.pointer none), .int .i32 0, .int .i32 0] [(0, 1), (1, 1), (2, 1), (3, 1), (4, 1), (5, 1), (6, 1), (7, 1), (8, 1), (9, 1), (10, 1)] := ⟨by kernel_rfl⟩
instance : TyI Try.prog 200 11 true := ⟨by kernel_rfl, by kernel_rfl⟩
instance : FldI Try.prog 200 0 0 12 := ⟨by kernel_rfl, by kernel_rfl⟩
instance : FldI Try.prog 200 1 1 12 := ⟨by kernel_rfl, by kernel_rfl⟩
instance : FldI Try.prog 200 2 2 176 := ⟨by kernel_rfl, by kernel_rfl⟩
instance : FldI Try.prog 200 3 3 193 := ⟨by kernel_rfl, by kernel_rfl⟩
instance : FldI Try.prog 200 4 4 5 := ⟨by kernel_rfl, by kernel_rfl⟩
instance : FldI Try.prog 200 5 5 5 := ⟨by kernel_rfl, by kernel_rfl⟩
instance : FldI Try.prog 200 6 6 194 := ⟨by kernel_rfl, by kernel_rfl⟩
instance : FldI Try.prog 200 7 7 195 := ⟨by kernel_rfl, by kernel_rfl⟩
instance : FldI Try.prog 200 8 8 196 := ⟨by kernel_rfl, by kernel_rfl⟩
instance : FldI Try.prog 200 9 9 197 := ⟨by kernel_rfl, by kernel_rfl⟩
instance : FldI Try.prog 200 10 10 198 := ⟨by kernel_rfl, by kernel_rfl⟩
instance : ZI Try.prog 200 [.int .u64 0, .int .u64 0, .int .u32 0, .int .u8 0, .int .u8 0, .int .u8 0, .int .u8 0, .raw .nilFunc, .raw (.pointer none), .int .i32 0, .int .i32 0] := ⟨by kernel_rfl⟩
instance : BdI Try.prog 200 [.int .u64 0, .int .u64 0, .int .u32 0, .int .u8 0, .int .u8 0, .int .u8 0, .int .u8 0, .raw .nilFunc, .raw (.pointer none), .int .i32 0, .int .i32 0] [(0, 1), (1, 1), (2, 1), (3, 1), (4, 1), (5, 1), (6, 1), (7, 1), (8, 1), (9, 1), (10, 1)] := ⟨by kernel_rfl⟩
instance : TyI Try.prog 201 1 false := ⟨by kernel_rfl, by kernel_rfl⟩
instance : ZI Try.prog 201 [.raw .nilFunc] := ⟨by kernel_rfl⟩
instance : TyI Try.prog 202 1 false := ⟨by kernel_rfl, by kernel_rfl⟩
instance : ZI Try.prog 202 [.raw (.pointer none)] := ⟨by kernel_rfl⟩
theorem fol : Try.prog.follows .mixedOrders = true := by kernel_rfl
theorem dOk {esc : Bool} {n : Nat} {fz : List Nat} (C : Cx) (h1 : C.P = Try.prog) (h2 : C.cfg = ⟨esc, n, fz⟩) : DrawOk C (drawX Try.prog ⟨esc, n, fz⟩) := by
  have := drawOk (C := C) (by rw [h1]; exact fol)
  rw [h1, h2] at this; exact this
end Go.Sx

set_option linter.unusedVariables false
set_option linter.unusedSimpArgs false
set_option maxRecDepth 20000
namespace Go.Sx
open Go.Proofs
attribute [local irreducible] Ex exOps exD opX opE thenX blkX RetQ Spec CSpec Fr condK guardK guardD ckK valK pickK loadK faK callK argK gK fK rK RetV lpX prK
set_option maxHeartbeats 4000000 in
theorem fits_c (H : List (List AV)) (size off steps step more : Int) (h0 : 0 ≤ size) (hs : size ≤ 9223372036854775807) (h1 : 0 ≤ more) (h2 : 0 ≤ steps) (h3 : 1 ≤ step) (hm : more ≤ 2 ^ 63 - 1) (ho : off ≤ 2^63 -1) (ho' : -(2^63) ≤ off) (hst : step ≤ 2^63 - 1) :
    CSpec Try.prog 136 [.int .i64 size, .int .i64 off, .int .i64 steps, .int .i64 step, .int .i64 more] H (.bool (decide (0 ≤ off ∧ off < size ∧ more < size - off ∧ steps * step ≤ size - 1 - off - more))) H := by
  refine .mk (fun args w => Try.call136 args w) (Spec.intro' (fn := Try.f136) Try.func136 rfl (by kernel_rfl) (by simp) false [] (draw := drawX Try.prog ⟨false, _, []⟩) dOk ?_)
  simp only [argE, Nat.reduceAdd]
  repeat' (first
    | (refine gateE ?_; (first | refine b_c0 ?_ | refine b_nil ?_ | refine b_gT (by exact rfl) (by exact rfl) ?_ | refine b_gF (by exact rfl) (by exact rfl) (by exact rfl) ?_ | refine b_gU (by exact rfl) (by exact rfl) (by constructor <;> simp) (by exact rfl) (by exact rfl) ?_ | (refine b_g0 (by exact rfl) (by exact rfl) (by (conv => {lhs; whnf}); done) ?_; (first | refine g_TT ?_ | refine g_FF ?_ | refine g_TF ?_ | refine g_FT ?_ | refine g_PT ?_ ?_ | refine g_PF ?_ ?_ | refine g_BT ?_ ?_ | refine g_BF ?_ ?_ | fail)) | (refine b_g1 (by exact rfl) (by exact rfl) (by exact rfl) (by (conv => {lhs; whnf}); done) ?_; (first | refine g_TT ?_ | refine g_FF ?_ | refine g_TF ?_ | refine g_FT ?_ | refine g_PT ?_ ?_ | refine g_PF ?_ ?_ | refine g_BT ?_ ?_ | refine g_BF ?_ ?_ | fail)) | refine b_c1 (by exact rfl) ?_ | fail))
    | (refine gateO ?_; (first | refine b_move (by (conv => {lhs; whnf}); done) ?_ | (refine b_bin (by (conv => {lhs; whnf}); done) (by (conv => {lhs; whnf}); done) (by (conv => {lhs; whnf}); done) ?_; (first | refine v_T (by omega) ?_ | refine v_F (by omega) ?_ | refine v_w (by omega) ?_ | refine v_wu (by omega) ?_ | refine v_qc (by omega) (by omega) ?_ | refine v_k ?_ | refine v_c (by omega) ?_ | fail)) | (refine b_pick (by (conv => {lhs; whnf}); done) ?_; (first | refine p_T (by (conv => {lhs; whnf}); done) ?_ | refine p_F (by (conv => {lhs; whnf}); done) ?_ | fail)) | refine b_assignF (by kernel_rfl) ?_ | refine b_assignI ?_ | refine b_assignN ?_ | refine b_assign (by (conv => {lhs; whnf}); done) ?_ | fail))
    | (refine gateT ?_; (first | refine b_thn ?_ | refine b_thr ?_ | refine b_the ?_ | fail))
    | (refine gateX ?_; (first | refine b_seq ?_ | refine b_region ?_ | (refine b_cond (by (conv => {lhs; whnf}); done) ?_; (first | refine c_T ?_ | refine c_F ?_ | refine c_P ?_ ?_ | refine c_B ?_ ?_ | fail)) | refine b_ret ?_ | refine b_skip ?_ | refine b_block ?_ | refine b_exit ?_ | fail))
    | (refine gateQ ?_; refine b_retK (by simp) (by (conv => {lhs; whnf}); done) ?_)
    | (refine gateR ?_; (first | refine rk_tmp (by (conv => {lhs; whnf}); done) ?_ | refine rk_cellA (by (conv => {lhs; whnf}); done) (by exact rfl) (by exact rfl) ?_ | refine rk_cell1 (by (conv => {lhs; whnf}); done) (by exact rfl) (by exact rfl) ?_ | refine rk_nil ?_ | fail))
    | intro _)
  all_goals first | refine rv_old rfl (by simp [mx, mxL, aOf, aOf1, resOne]) ?_ | (trace_state; fail)
  all_goals first
    | exact rtF (by omega)
    | (refine rvP ?_; rw [Int.le_ediv_iff_mul_le (by omega)]; omega)

set_option maxHeartbeats 4000000 in
theorem good_c (H : List (List AV)) (D : AV) (n : Nat) (off rows cols ld : Int) (hD : slen D = some n) (hI : MI n off rows cols ld) :
    CSpec Try.prog 89 [mt D off rows cols ld] H (.bool (decide (GoodP n off rows cols ld))) H := by
  obtain ⟨hn, ho1, ho2, hr1, hr2, hc1, hc2, hl1, hl2⟩ := id hI
  refine .mk (fun args w => Try.call89 args w) (Spec.intro' (fn := Try.f89) Try.func89 rfl (by kernel_rfl) (by simp) false [] (draw := drawX Try.prog ⟨false, _, []⟩) dOk ?_)
  simp only [argE, Nat.reduceAdd]
  repeat' (first
    | (refine gateE ?_; (first | refine b_c0 ?_ | refine b_nil ?_ | refine b_gT (by exact rfl) (by exact rfl) ?_ | refine b_gF (by exact rfl) (by exact rfl) (by exact rfl) ?_ | refine b_gU (by exact rfl) (by exact rfl) (by constructor <;> simp) (by exact rfl) (by exact rfl) ?_ | (refine b_g0 (by exact rfl) (by exact rfl) (by (conv => {lhs; whnf}); done) ?_; (first | refine g_TT ?_ | refine g_FF ?_ | refine g_TF ?_ | refine g_FT ?_ | refine g_PT ?_ ?_ | refine g_PF ?_ ?_ | refine g_BT ?_ ?_ | refine g_BF ?_ ?_ | fail)) | (refine b_g1 (by exact rfl) (by exact rfl) (by exact rfl) (by (conv => {lhs; whnf}); done) ?_; (first | refine g_TT ?_ | refine g_FF ?_ | refine g_TF ?_ | refine g_FT ?_ | refine g_PT ?_ ?_ | refine g_PF ?_ ?_ | refine g_BT ?_ ?_ | refine g_BF ?_ ?_ | fail)) | refine b_c1 (by exact rfl) ?_ | fail))
    | (refine gateO ?_; (first | refine b_move (by (conv => {lhs; whnf}); done) ?_ | (refine b_fa (by (conv => {lhs; whnf}); done) ?_; first | refine f_loc (by (conv => {lhs; whnf}); done) ?_ | refine f_ptr (by (conv => {lhs; whnf}); done) ?_) | (refine b_load (by (conv => {lhs; whnf}); done) ?_; (first | refine l_loc1 (by exact rfl) (by exact rfl) ?_ | refine l_locA (by exact rfl) (by exact rfl) ?_ | fail)) | (refine b_binB (by first | (conv => {lhs; whnf}; done) | exact (by exact rfl) | fail) (by first | (conv => {lhs; whnf}; done) | exact (by exact rfl) | fail) ?_; (first | refine v_bbT (by exact rfl) ?_ | refine v_k ?_ | fail)) | (refine b_bin (by (conv => {lhs; whnf}); done) (by (conv => {lhs; whnf}); done) (by (conv => {lhs; whnf}); done) ?_; (first | refine v_eT (by omega) ?_ | refine v_eF (by omega) ?_ | refine v_eP ?_ | refine v_T (by omega) ?_ | refine v_F (by omega) ?_ | refine v_w (by omega) ?_ | refine v_wu (by omega) ?_ | refine v_k ?_ | refine v_c (by omega) ?_ | fail)) | (refine b_pick (by (conv => {lhs; whnf}); done) ?_; (first | refine p_T (by (conv => {lhs; whnf}); done) ?_ | refine p_F (by (conv => {lhs; whnf}); done) ?_ | fail)) | refine b_assignF (by kernel_rfl) ?_ | refine b_assignI ?_ | refine b_assignN ?_ | refine b_assign (by (conv => {lhs; whnf}); done) ?_ | refine b_callB ?_ | refine b_lenA (by (conv => {lhs; whnf}); done) (by first | rfl | assumption) ?_ | refine b_box (by (conv => {lhs; whnf}); done) (by exact rfl) (by exact rfl) (by exact rfl) (by exact rfl) ?_ | fail))
    | (refine gateT ?_; (first | refine b_thn ?_ | refine b_thr ?_ | refine b_the ?_ | fail))
    | (refine gateX ?_; (first | refine b_seq ?_ | refine b_region ?_ | (refine b_cond (by (conv => {lhs; whnf}); done) ?_; (first | refine c_T ?_ | refine c_F ?_ | refine c_P ?_ ?_ | refine c_B ?_ ?_ | fail)) | refine b_ret ?_ | refine b_skip ?_ | refine b_block ?_ | refine b_exit ?_ | fail))
    | refine a_cons (by (conv => {lhs; whnf}); done) ?_
    | refine a_nil ?_
    | (refine gateK ?_; (first | refine c_call (fits_c _ _ _ _ _ _ (by omega) (by omega) (by omega) (by omega) (by omega) (by omega) (by omega) (by omega) (by omega)) (OldOk.refl _ _) ?_ | fail))
    | (refine gateQ ?_; refine b_retK (by simp) (by (conv => {lhs; whnf}); done) ?_)
    | (refine gateR ?_; (first | refine rk_tmp (by (conv => {lhs; whnf}); done) ?_ | refine rk_cellA (by (conv => {lhs; whnf}); done) (by exact rfl) (by exact rfl) ?_ | refine rk_cell1 (by (conv => {lhs; whnf}); done) (by exact rfl) (by exact rfl) ?_ | refine rk_nil ?_ | fail))
    | intro _)
  all_goals first | refine rv_old rfl (by simp [mx, mxL, aOf, aOf1, resOne]) ?_ | (trace_state; fail)
  all_goals first
    | exact rtF (by unfold GoodP; omega)
    | exact rtT (by unfold GoodP; omega)
    | exact rvP (by unfold GoodP; omega)

set_option maxHeartbeats 4000000 in
theorem span_c (H : List (List AV)) (D : AV) (n : Nat) (off rows cols ld : Int) (hD : slen D = some n) (hI : MI n off rows cols ld) :
    CSpec Try.prog 82 [mt D off rows cols ld] H (.tup [.int .i64 (sF n off rows cols ld), .int .i64 (sT n off rows cols ld), .bool (decide (SpanP n off rows cols ld))]) H := by
  obtain ⟨hn, ho1, ho2, hr1, hr2, hc1, hc2, hl1, hl2⟩ := id hI
  refine .mk (fun args w => Try.call82 args w) (Spec.intro' (fn := Try.f82) Try.func82 rfl (by kernel_rfl) (by simp) false [] (draw := drawX Try.prog ⟨false, _, []⟩) dOk ?_)
  simp only [argE, Nat.reduceAdd]
  repeat' (first
    | (refine gateE ?_; (first | refine b_c0 ?_ | refine b_nil ?_ | refine b_gT (by exact rfl) (by exact rfl) ?_ | refine b_gF (by exact rfl) (by exact rfl) (by exact rfl) ?_ | refine b_gU (by exact rfl) (by exact rfl) (by constructor <;> simp) (by exact rfl) (by exact rfl) ?_ | (refine b_g0 (by exact rfl) (by exact rfl) (by (conv => {lhs; whnf}); done) ?_; (first | refine g_TT ?_ | refine g_FF ?_ | refine g_TF ?_ | refine g_FT ?_ | refine g_PT ?_ ?_ | refine g_PF ?_ ?_ | refine g_BT ?_ ?_ | refine g_BF ?_ ?_ | fail)) | (refine b_g1 (by exact rfl) (by exact rfl) (by exact rfl) (by (conv => {lhs; whnf}); done) ?_; (first | refine g_TT ?_ | refine g_FF ?_ | refine g_TF ?_ | refine g_FT ?_ | refine g_PT ?_ ?_ | refine g_PF ?_ ?_ | refine g_BT ?_ ?_ | refine g_BF ?_ ?_ | fail)) | refine b_c1 (by exact rfl) ?_ | fail))
    | (refine gateO ?_; (first | refine b_move (by (conv => {lhs; whnf}); done) ?_ | (refine b_fa (by (conv => {lhs; whnf}); done) ?_; first | refine f_loc (by (conv => {lhs; whnf}); done) ?_ | refine f_ptr (by (conv => {lhs; whnf}); done) ?_) | (refine b_load (by (conv => {lhs; whnf}); done) ?_; (first | refine l_loc1 (by exact rfl) (by exact rfl) ?_ | refine l_locA (by exact rfl) (by exact rfl) ?_ | fail)) | (refine b_binB (by first | (conv => {lhs; whnf}; done) | exact (by exact rfl) | fail) (by first | (conv => {lhs; whnf}; done) | exact (by exact rfl) | fail) ?_; (first | refine v_w (by first | omega | (simp only [GoodP, Decidable.not_not] at *; have hh := Int.mul_nonneg (show 0 ≤ cols - 1 by omega) (show 0 ≤ ld by omega); omega)) ?_ | refine v_bbT (by exact rfl) ?_ | refine v_k ?_ | fail)) | (refine b_bin (by (conv => {lhs; whnf}); done) (by (conv => {lhs; whnf}); done) (by (conv => {lhs; whnf}); done) ?_; (first | refine v_w (by first | omega | (simp only [GoodP, Decidable.not_not] at *; have hh := Int.mul_nonneg (show 0 ≤ cols - 1 by omega) (show 0 ≤ ld by omega); omega)) ?_ | refine v_eT (by omega) ?_ | refine v_eF (by omega) ?_ | refine v_eP ?_ | refine v_w (by omega) ?_ | refine v_wu (by omega) ?_ | refine v_nT ?_ | refine v_nF ?_ | refine v_nP ?_ | refine v_k ?_ | refine v_c (by omega) ?_ | fail)) | (refine b_pick (by (conv => {lhs; whnf}); done) ?_; (first | refine p_T (by (conv => {lhs; whnf}); done) ?_ | refine p_F (by (conv => {lhs; whnf}); done) ?_ | fail)) | refine b_assignF (by kernel_rfl) ?_ | refine b_assignI ?_ | refine b_assignN ?_ | refine b_assign (by (conv => {lhs; whnf}); done) ?_ | (refine b_un (by (conv => {lhs; whnf}); done) (by (conv => {lhs; whnf}); done) ?_; (first | refine v_w (by first | omega | (simp only [GoodP, Decidable.not_not] at *; have hh := Int.mul_nonneg (show 0 ≤ cols - 1 by omega) (show 0 ≤ ld by omega); omega)) ?_ | refine v_eT (by omega) ?_ | refine v_eF (by omega) ?_ | refine v_eP ?_ | refine v_w (by omega) ?_ | refine v_wu (by omega) ?_ | refine v_nT ?_ | refine v_nF ?_ | refine v_nP ?_ | refine v_k ?_ | refine v_c (by omega) ?_ | fail)) | refine b_callB ?_ | refine b_box (by (conv => {lhs; whnf}); done) (by exact rfl) (by exact rfl) (by exact rfl) (by exact rfl) ?_ | fail))
    | (refine gateD ?_; (first | refine d_c0 (by exact rfl) ?_ | refine d_nil ?_ | refine d_gT (by exact rfl) (by exact rfl) (by exact rfl) ?_ | refine d_gF (by exact rfl) (by exact rfl) (by exact rfl) (by exact rfl) ?_ | refine d_gU (by exact rfl) (by exact rfl) (by exact rfl) (by constructor <;> simp) (by exact rfl) (by exact rfl) ?_ | (refine d_g0 (by exact rfl) (by exact rfl) (by exact rfl) (by (conv => {lhs; whnf}); done) ?_; (first | refine dg_TT ?_ | refine dg_FF ?_ | refine dg_TF ?_ | refine dg_FT ?_ | refine dg_PT ?_ ?_ | refine dg_PF ?_ ?_ | refine dg_BT ?_ ?_ | refine dg_BF ?_ ?_ | fail)) | (refine d_g1 (by exact rfl) (by exact rfl) (by exact rfl) (by exact rfl) (by (conv => {lhs; whnf}); done) ?_; (first | refine dg_TT ?_ | refine dg_FF ?_ | refine dg_TF ?_ | refine dg_FT ?_ | refine dg_PT ?_ ?_ | refine dg_PF ?_ ?_ | refine dg_BT ?_ ?_ | refine dg_BF ?_ ?_ | fail)) | refine d_c1 (by exact rfl) (by exact rfl) ?_ | fail))
    | (refine gateC ?_; (first | refine k_lt ?_ | refine k_ld (by (conv => {lhs; whnf}); done) (by exact rfl) ?_ | refine k_ldT (by (conv => {lhs; whnf}); done) ?_ | refine k_bin (by (conv => {lhs; whnf}); done) (by exact rfl) ?_ | refine k_mn ?_ | refine k_mnB (by exact rfl) ?_ | refine k_mnF ?_ | fail))
    | (refine gateT ?_; (first | refine b_thn ?_ | refine b_thr ?_ | refine b_the ?_ | fail))
    | (refine gateX ?_; (first | refine b_seq ?_ | refine b_region ?_ | (refine b_cond (by (conv => {lhs; whnf}); done) ?_; (first | refine c_T ?_ | refine c_F ?_ | refine c_P ?_ ?_ | refine c_B ?_ ?_ | fail)) | refine b_ret ?_ | refine b_skip ?_ | refine b_block ?_ | refine b_exit ?_ | refine b_draw [] [] [(0, .lt), (1, .ld true), (2, .lt), (3, .ld true), (4, .lt), (5, .ld true), (6, .lt), (7, .lt), (8, .ld true), (9, .lt), (10, .lt), (11, .lt), (12, .ld true), (13, .lt), (14, .lt), (15, .lt), (16, .lt), (17, .lt)] (by kernel_rfl) ?_ | fail))
    | refine a_cons (by (conv => {lhs; whnf}); done) ?_
    | refine a_nil ?_
    | (refine gateK ?_; (first | refine c_call (good_c _ D n off rows cols ld hD hI) (OldOk.refl _ _) ?_ | fail))
    | (refine gateQ ?_; refine b_retK (by simp) (by (conv => {lhs; whnf}); done) ?_)
    | (refine gateR ?_; (first | refine rk_tmp (by (conv => {lhs; whnf}); done) ?_ | refine rk_cellA (by (conv => {lhs; whnf}); done) (by exact rfl) (by exact rfl) ?_ | refine rk_cell1 (by (conv => {lhs; whnf}); done) (by exact rfl) (by exact rfl) ?_ | refine rk_nil ?_ | fail))
    | intro _)
  all_goals first | refine rv_old rfl (by simp [mx, mxL, aOf, aOf1, resOne]) ?_ | (trace_state; fail)
  all_goals (unfold sF sT; simp only [resOne, List.nil_append, List.cons_append, aOf, aOf1])
  all_goals first
    | (have hp : ¬ SpanP n off rows cols ld := by (unfold SpanP; simp_all)
       rw [if_neg hp, if_neg hp, decide_eq_false hp]; done)
    | (have hp : SpanP n off rows cols ld := by (unfold SpanP; simp_all)
       rw [if_pos hp, if_pos hp, decide_eq_true hp]; done)

set_option maxHeartbeats 4000000 in
theorem meet_c (H : List (List AV)) (Da : AV) (na : Nat) (offa rowsa colsa lda : Int) (hDa : slen Da = some na) (hIa : MI na offa rowsa colsa lda) (Db : AV) (nb : Nat) (offb rowsb colsb ldb : Int) (hDb : slen Db = some nb) (hIb : MI nb offb rowsb colsb ldb) (pe : Bool) (hpe : 0 < na → 0 < nb → ptrEq H Da 0 Db 0 = some pe) :
    CSpec Try.prog 17 [mt Da offa rowsa colsa lda, mt Db offb rowsb colsb ldb] H (.bool (decide (SpanP na offa rowsa colsa lda ∧ SpanP nb offb rowsb colsb ldb ∧ pe = true ∧ sF na offa rowsa colsa lda ≤ sT nb offb rowsb colsb ldb ∧ sF nb offb rowsb colsb ldb ≤ sT na offa rowsa colsa lda))) H := by
  obtain ⟨hna, ho1a, ho2a, hr1a, hr2a, hc1a, hc2a, hl1a, hl2a⟩ := id hIa
  obtain ⟨hnb, ho1b, ho2b, hr1b, hr2b, hc1b, hc2b, hl1b, hl2b⟩ := id hIb
  refine .mk (fun args w => Try.call17 args w) (Spec.intro' (fn := Try.f17) Try.func17 rfl (by kernel_rfl) (by simp) false [] (draw := drawX Try.prog ⟨false, _, []⟩) dOk ?_)
  simp only [argE, Nat.reduceAdd]
  repeat' (first
    | (refine gateE ?_; (first | refine b_c0 ?_ | refine b_nil ?_ | refine b_gT (by exact rfl) (by exact rfl) ?_ | refine b_gF (by exact rfl) (by exact rfl) (by exact rfl) ?_ | refine b_gU (by exact rfl) (by exact rfl) (by constructor <;> simp) (by exact rfl) (by exact rfl) ?_ | (refine b_g0 (by exact rfl) (by exact rfl) (by (conv => {lhs; whnf}); done) ?_; (first | refine g_TT ?_ | refine g_FF ?_ | refine g_TF ?_ | refine g_FT ?_ | refine g_PT ?_ ?_ | refine g_PF ?_ ?_ | refine g_BT ?_ ?_ | refine g_BF ?_ ?_ | fail)) | (refine b_g1 (by exact rfl) (by exact rfl) (by exact rfl) (by (conv => {lhs; whnf}); done) ?_; (first | refine g_TT ?_ | refine g_FF ?_ | refine g_TF ?_ | refine g_FT ?_ | refine g_PT ?_ ?_ | refine g_PF ?_ ?_ | refine g_BT ?_ ?_ | refine g_BF ?_ ?_ | fail)) | refine b_c1 (by exact rfl) ?_ | fail))
    | (refine gateO ?_; (first | refine b_move (by (conv => {lhs; whnf}); done) ?_ | (refine b_fa (by (conv => {lhs; whnf}); done) ?_; first | refine f_loc (by (conv => {lhs; whnf}); done) ?_ | refine f_ptr (by (conv => {lhs; whnf}); done) ?_) | (refine b_load (by (conv => {lhs; whnf}); done) ?_; (first | refine l_loc1 (by exact rfl) (by exact rfl) ?_ | refine l_locA (by exact rfl) (by exact rfl) ?_ | fail)) | refine b_ia0 (by (conv => {lhs; whnf}); done) (by assumption) (span_pos (by assumption)) ?_ | refine b_ptr (by (conv => {lhs; whnf}); done) (by (conv => {lhs; whnf}); done) (by rw [List.append_nil]; exact hpe (span_pos (by assumption)) (span_pos (by assumption))) ?_ | (refine b_binB (by first | (conv => {lhs; whnf}; done) | exact (by exact rfl) | fail) (by first | (conv => {lhs; whnf}; done) | exact (by exact rfl) | fail) ?_; (first | refine v_bbT (by exact rfl) ?_ | refine v_k ?_ | fail)) | (refine b_bin (by (conv => {lhs; whnf}); done) (by (conv => {lhs; whnf}); done) (by (conv => {lhs; whnf}); done) ?_; (first | refine v_eT (by omega) ?_ | refine v_eF (by omega) ?_ | refine v_eP ?_ | refine v_T (by omega) ?_ | refine v_F (by omega) ?_ | refine v_w (by omega) ?_ | refine v_wu (by omega) ?_ | refine v_k ?_ | refine v_c (by omega) ?_ | fail)) | (refine b_pick (by (conv => {lhs; whnf}); done) ?_; (first | refine p_T (by (conv => {lhs; whnf}); done) ?_ | refine p_F (by (conv => {lhs; whnf}); done) ?_ | fail)) | refine b_assignF (by kernel_rfl) ?_ | refine b_assignI ?_ | refine b_assignN ?_ | refine b_assign (by (conv => {lhs; whnf}); done) ?_ | refine b_callB ?_ | refine b_ext (by (conv => {lhs; whnf}); done) (by exact rfl) ?_ | refine b_box (by (conv => {lhs; whnf}); done) (by exact rfl) (by exact rfl) (by exact rfl) (by exact rfl) ?_ | fail))
    | (refine gateD ?_; (first | refine d_c0 (by exact rfl) ?_ | refine d_nil ?_ | refine d_gT (by exact rfl) (by exact rfl) (by exact rfl) ?_ | refine d_gF (by exact rfl) (by exact rfl) (by exact rfl) (by exact rfl) ?_ | refine d_gU (by exact rfl) (by exact rfl) (by exact rfl) (by constructor <;> simp) (by exact rfl) (by exact rfl) ?_ | (refine d_g0 (by exact rfl) (by exact rfl) (by exact rfl) (by (conv => {lhs; whnf}); done) ?_; (first | refine dg_TT ?_ | refine dg_FF ?_ | refine dg_TF ?_ | refine dg_FT ?_ | refine dg_PT ?_ ?_ | refine dg_PF ?_ ?_ | refine dg_BT ?_ ?_ | refine dg_BF ?_ ?_ | fail)) | (refine d_g1 (by exact rfl) (by exact rfl) (by exact rfl) (by exact rfl) (by (conv => {lhs; whnf}); done) ?_; (first | refine dg_TT ?_ | refine dg_FF ?_ | refine dg_TF ?_ | refine dg_FT ?_ | refine dg_PT ?_ ?_ | refine dg_PF ?_ ?_ | refine dg_BT ?_ ?_ | refine dg_BF ?_ ?_ | fail)) | refine d_c1 (by exact rfl) (by exact rfl) ?_ | fail))
    | (refine gateC ?_; (first | refine k_lt ?_ | refine k_ld (by (conv => {lhs; whnf}); done) (by exact rfl) ?_ | refine k_ldT (by (conv => {lhs; whnf}); done) ?_ | refine k_bin (by (conv => {lhs; whnf}); done) (by exact rfl) ?_ | refine k_mn ?_ | refine k_mnB (by exact rfl) ?_ | refine k_mnF ?_ | fail))
    | (refine gateT ?_; (first | refine b_thn ?_ | refine b_thr ?_ | refine b_the ?_ | fail))
    | (refine gateX ?_; (first | refine b_seq ?_ | refine b_region ?_ | (refine b_cond (by (conv => {lhs; whnf}); done) ?_; (first | refine c_T ?_ | refine c_F ?_ | refine c_P ?_ ?_ | refine c_B ?_ ?_ | fail)) | refine b_ret ?_ | refine b_skip ?_ | refine b_block ?_ | refine b_exit ?_ | refine b_draw [] [] [(0, .lt), (1, .lt), (2, .lt), (3, .lt), (4, .lt), (5, .lt), (6, .ld true), (7, .lt), (8, .lt), (9, .ld true), (10, .lt), (11, .ld true), (12, .lt), (13, .lt), (14, .lt), (15, .lt), (16, .lt), (17, .lt), (18, .lt), (19, .lt), (20, .lt), (21, .lt), (22, .lt), (23, .lt)] (by kernel_rfl) ?_ | fail))
    | refine a_cons (by (conv => {lhs; whnf}); done) ?_
    | refine a_nil ?_
    | (refine gateK ?_; (first | refine c_call (span_c _ Da na offa rowsa colsa lda hDa hIa) (OldOk.refl _ _) ?_ | refine c_call (span_c _ Db nb offb rowsb colsb ldb hDb hIb) (OldOk.refl _ _) ?_ | fail))
    | (refine gateQ ?_; refine b_retK (by simp) (by (conv => {lhs; whnf}); done) ?_)
    | (refine gateR ?_; (first | refine rk_tmp (by (conv => {lhs; whnf}); done) ?_ | refine rk_cellA (by (conv => {lhs; whnf}); done) (by exact rfl) (by exact rfl) ?_ | refine rk_cell1 (by (conv => {lhs; whnf}); done) (by exact rfl) (by exact rfl) ?_ | refine rk_nil ?_ | fail))
    | intro _)
  all_goals first | refine rv_old rfl (by simp [mx, mxL, aOf, aOf1, resOne]) ?_ | (trace_state; fail)
  all_goals first
    | (refine rtF ?_; first | (simp_all; done) | (simp_all; omega))
    | (refine rvF ?_; first | (simp_all; done) | (simp_all; omega))
    | (refine rtT ?_; first | (simp_all; done) | (simp_all; omega))
    | (refine rvT ?_; first | (simp_all; done) | (simp_all; omega))
    | (refine rvP ?_; first | (simp_all; done) | (simp_all; omega))

set_option maxHeartbeats 4000000 in
theorem place_c (H : List (List AV)) (D : AV) (n : Nat) (off rows cols ld : Int) (hD : slen D = some n) (hI : MI n off rows cols ld) (i j : Int) (hi1 : -9223372036854775808 ≤ i) (hi2 : i ≤ 9223372036854775807) (hj1 : -9223372036854775808 ≤ j) (hj2 : j ≤ 9223372036854775807) :
    CSpec Try.prog 83 [mt D off rows cols ld, .int .i64 i, .int .i64 j] H (.int .i64 (plV n off rows cols ld i j)) H := by
  obtain ⟨hn, ho1, ho2, hr1, hr2, hc1, hc2, hl1, hl2⟩ := id hI
  refine .mk (fun args w => Try.call83 args w) (Spec.intro' (fn := Try.f83) Try.func83 rfl (by kernel_rfl) (by simp) false [] (draw := drawX Try.prog ⟨false, _, []⟩) dOk ?_)
  simp only [argE, Nat.reduceAdd]
  repeat' (first
    | (refine gateE ?_; (first | refine b_c0 ?_ | refine b_nil ?_ | refine b_gT (by exact rfl) (by exact rfl) ?_ | refine b_gF (by exact rfl) (by exact rfl) (by exact rfl) ?_ | refine b_gU (by exact rfl) (by exact rfl) (by constructor <;> simp) (by exact rfl) (by exact rfl) ?_ | (refine b_g0 (by exact rfl) (by exact rfl) (by (conv => {lhs; whnf}); done) ?_; (first | refine g_TT ?_ | refine g_FF ?_ | refine g_TF ?_ | refine g_FT ?_ | refine g_PT ?_ ?_ | refine g_PF ?_ ?_ | refine g_BT ?_ ?_ | refine g_BF ?_ ?_ | fail)) | (refine b_g1 (by exact rfl) (by exact rfl) (by exact rfl) (by (conv => {lhs; whnf}); done) ?_; (first | refine g_TT ?_ | refine g_FF ?_ | refine g_TF ?_ | refine g_FT ?_ | refine g_PT ?_ ?_ | refine g_PF ?_ ?_ | refine g_BT ?_ ?_ | refine g_BF ?_ ?_ | fail)) | refine b_c1 (by exact rfl) ?_ | fail))
    | (refine gateO ?_; (first | refine b_move (by (conv => {lhs; whnf}); done) ?_ | (refine b_fa (by (conv => {lhs; whnf}); done) ?_; first | refine f_loc (by (conv => {lhs; whnf}); done) ?_ | refine f_ptr (by (conv => {lhs; whnf}); done) ?_) | (refine b_load (by (conv => {lhs; whnf}); done) ?_; (first | refine l_loc1 (by exact rfl) (by exact rfl) ?_ | refine l_locA (by exact rfl) (by exact rfl) ?_ | fail)) | (refine b_bin (by (conv => {lhs; whnf}); done) (by (conv => {lhs; whnf}); done) (by (conv => {lhs; whnf}); done) ?_; (first | refine v_w (by have hp := good_place (Decidable.not_not.1 (by assumption)) (i := i) (j := j) (by omega) (by omega) (by omega) (by omega); omega) ?_ | refine v_T (by omega) ?_ | refine v_F (by omega) ?_ | refine v_w (by omega) ?_ | refine v_wu (by omega) ?_ | refine v_nT ?_ | refine v_nF ?_ | refine v_nP ?_ | refine v_k ?_ | refine v_c (by omega) ?_ | fail)) | (refine b_pick (by (conv => {lhs; whnf}); done) ?_; (first | refine p_T (by (conv => {lhs; whnf}); done) ?_ | refine p_F (by (conv => {lhs; whnf}); done) ?_ | fail)) | refine b_assignF (by kernel_rfl) ?_ | refine b_assignI ?_ | refine b_assignN ?_ | refine b_assign (by (conv => {lhs; whnf}); done) ?_ | (refine b_un (by (conv => {lhs; whnf}); done) (by (conv => {lhs; whnf}); done) ?_; (first | refine v_w (by have hp := good_place (Decidable.not_not.1 (by assumption)) (i := i) (j := j) (by omega) (by omega) (by omega) (by omega); omega) ?_ | refine v_T (by omega) ?_ | refine v_F (by omega) ?_ | refine v_w (by omega) ?_ | refine v_wu (by omega) ?_ | refine v_nT ?_ | refine v_nF ?_ | refine v_nP ?_ | refine v_k ?_ | refine v_c (by omega) ?_ | fail)) | refine b_callB ?_ | refine b_box (by (conv => {lhs; whnf}); done) (by exact rfl) (by exact rfl) (by exact rfl) (by exact rfl) ?_ | fail))
    | (refine gateT ?_; (first | refine b_thn ?_ | refine b_thr ?_ | refine b_the ?_ | fail))
    | (refine gateX ?_; (first | refine b_seq ?_ | refine b_region ?_ | (refine b_cond (by (conv => {lhs; whnf}); done) ?_; (first | refine c_T ?_ | refine c_F ?_ | refine c_P ?_ ?_ | refine c_B ?_ ?_ | fail)) | refine b_ret ?_ | refine b_skip ?_ | refine b_block ?_ | refine b_exit ?_ | fail))
    | refine a_cons (by (conv => {lhs; whnf}); done) ?_
    | refine a_nil ?_
    | (refine gateK ?_; (first | refine c_call (good_c _ D n off rows cols ld hD hI) (OldOk.refl _ _) ?_ | fail))
    | (refine gateQ ?_; refine b_retK (by simp) (by (conv => {lhs; whnf}); done) ?_)
    | (refine gateR ?_; (first | refine rk_tmp (by (conv => {lhs; whnf}); done) ?_ | refine rk_cellA (by (conv => {lhs; whnf}); done) (by exact rfl) (by exact rfl) ?_ | refine rk_cell1 (by (conv => {lhs; whnf}); done) (by exact rfl) (by exact rfl) ?_ | refine rk_nil ?_ | fail))
    | intro _)
  all_goals first | refine rv_old rfl (by simp [mx, mxL, aOf, aOf1, resOne]) ?_ | (trace_state; fail)
  all_goals (unfold plV; simp only [resOne, List.nil_append, List.cons_append, aOf, aOf1])
  all_goals first
    | (have hp : ¬ PlaceP n off rows cols ld i j := by (rintro ⟨h1, h2, h3, h4, h5⟩; first | contradiction | omega)
       rw [if_neg hp]; done)
    | (have hp : PlaceP n off rows cols ld i j := by (refine ⟨Decidable.not_not.1 (by assumption), ?_, ?_, ?_, ?_⟩ <;> omega)
       rw [if_pos hp]; done)

theorem meet_f (H : List (List AV)) (Da : AV) (na : Nat) (offa rowsa colsa lda : Int) (hDa : slen Da = some na) (hIa : MI na offa rowsa colsa lda) (Db : AV) (nb : Nat) (offb rowsb colsb ldb : Int) (hDb : slen Db = some nb) (hIb : MI nb offb rowsb colsb ldb) (hpe : 0 < na → 0 < nb → ptrEq H Da 0 Db 0 = some false) :
    CSpec Try.prog 17 [mt Da offa rowsa colsa lda, mt Db offb rowsb colsb ldb] H (.bool false) H := by
  have := meet_c H Da na offa rowsa colsa lda hDa hIa Db nb offb rowsb colsb ldb hDb hIb false hpe
  simpa using this

end Go.Sx

set_option linter.unusedVariables false
set_option linter.unusedSimpArgs false
namespace Go.Sx
/-! ### the order of floats that are not below 0 -/
def fB : Nat := 4503599627370496
def fVal (x : Nat) : Nat := if x < fB then x else (fB + x % fB) * 2 ^ (x / fB - 1)
theorem fVal_mono {x y : Nat} (h : x < y) : fVal x < fVal y := by
  have hB : 0 < fB := by decide
  unfold fVal
  have hx := Nat.div_add_mod x fB
  have hy := Nat.div_add_mod y fB
  have hxm := Nat.mod_lt x hB
  have hym := Nat.mod_lt y hB
  by_cases h1 : x < fB
  · by_cases h2 : y < fB
    · rw [if_pos h1, if_pos h2]; exact h
    · rw [if_pos h1, if_neg h2]
      have : 1 ≤ 2 ^ (y / fB - 1) := Nat.one_le_two_pow
      have := Nat.mul_le_mul (Nat.le_refl (fB + y % fB)) this
      omega
  · by_cases h2 : y < fB
    · omega
    · rw [if_neg h1, if_neg h2]
      have hqx : 1 ≤ x / fB := (Nat.le_div_iff_mul_le hB).2 (by omega)
      rcases Nat.lt_trichotomy (x / fB) (y / fB) with hq | hq | hq
      · have e1 : (fB + x % fB) * 2 ^ (x / fB - 1) < (2 * fB) * 2 ^ (x / fB - 1) := Nat.mul_lt_mul_of_pos_right (by omega) (Nat.two_pow_pos _)
        have e2 : (2 * fB) * 2 ^ (x / fB - 1) = fB * 2 ^ (x / fB) := by
          have : 2 ^ (x / fB) = 2 * 2 ^ (x / fB - 1) := by
            rw [← Nat.pow_succ']; congr 1; omega
          rw [this, ← Nat.mul_assoc, Nat.mul_comm 2 fB]
        have e3 : fB * 2 ^ (x / fB) ≤ (fB + y % fB) * 2 ^ (y / fB - 1) := Nat.mul_le_mul (by omega) (Nat.pow_le_pow_right (by omega) (by omega))
        omega
      · rw [hq] at hx ⊢
        exact Nat.mul_lt_mul_of_pos_right (by omega) (Nat.two_pow_pos _)
      · have : y / fB + 1 ≤ x / fB := hq
        have := Nat.mul_le_mul (Nat.le_refl fB) this
        rw [Nat.mul_add, Nat.mul_one] at this
        omega
theorem fVal_cmp (x y : Nat) : compare (fVal x) (fVal y) = compare x y := by
  rcases Nat.lt_trichotomy x y with h | h | h
  · rw [Nat.compare_eq_lt.2 h, Nat.compare_eq_lt.2 (fVal_mono h)]
  · subst h; rw [Nat.compare_eq_eq.2 rfl, Nat.compare_eq_eq.2 rfl]
  · rw [Nat.compare_eq_gt.2 h, Nat.compare_eq_gt.2 (fVal_mono h)]
def fInf : Nat := 9218868437227405312
theorem read_pos {x : Nat} (h : x < fInf) : ∃ m e : Nat, Ieee.double.read x = .number false m (Ieee.double.leastPlace + (e : Int)) ∧ fVal x = m * 2 ^ e := by
  have e1 : Ieee.double.signWeight = 9223372036854775808 := by decide
  have e2 : Ieee.double.binade = fB := by decide
  have e3 : Ieee.double.infRung = fInf := by decide
  have hx : x < 9223372036854775808 := by unfold fInf at h; omega
  have h0 : (x / 9223372036854775808 % 2 == 1) = false := by
    rw [Nat.div_eq_of_lt hx]; rfl
  have hm : x % 9223372036854775808 = x := Nat.mod_eq_of_lt hx
  unfold Ieee.Format.read fVal
  simp only [e1, e2, e3, h0, hm]
  by_cases h1 : x < fB
  · rw [if_pos h1, if_pos h1]
    exact ⟨x, 0, by simp, by simp⟩
  · rw [if_neg h1, if_pos h, if_neg h1]
    exact ⟨_, _, rfl, rfl⟩
theorem read_inf : Ieee.double.read fInf = .infinity false := by decide
theorem shl_cmp (m n a b : Nat) (i j k : Nat) (hi : a = i + k) (hj : b = j + k) : compare ((m <<< i : Nat) : Int) ((n <<< j : Nat) : Int) = compare (m * 2 ^ a) (n * 2 ^ b) := by
  have e : ∀ x y : Nat, compare (x : Int) (y : Int) = compare x y := by
    intro x y
    rcases Nat.lt_trichotomy x y with h | h | h
    · rw [Nat.compare_eq_lt.2 h, Int.compare_eq_lt.2 (by omega)]
    · subst h; rw [Nat.compare_eq_eq.2 rfl, Int.compare_eq_eq.2 rfl]
    · rw [Nat.compare_eq_gt.2 h, Int.compare_eq_gt.2 (by omega)]
  rw [e, Nat.shiftLeft_eq, Nat.shiftLeft_eq]
  subst hi hj
  have h1 : m * 2 ^ (i + k) = m * 2 ^ i * 2 ^ k := by rw [Nat.pow_add, Nat.mul_assoc]
  have h2 : n * 2 ^ (j + k) = n * 2 ^ j * 2 ^ k := by rw [Nat.pow_add, Nat.mul_assoc]
  rw [h1, h2]
  have hp : 0 < 2 ^ k := Nat.two_pow_pos k
  rcases Nat.lt_trichotomy (m * 2 ^ i) (n * 2 ^ j) with h | h | h
  · rw [Nat.compare_eq_lt.2 h, Nat.compare_eq_lt.2 (Nat.mul_lt_mul_of_pos_right h hp)]
  · rw [h, Nat.compare_eq_eq.2 rfl, Nat.compare_eq_eq.2 rfl]
  · rw [Nat.compare_eq_gt.2 h, Nat.compare_eq_gt.2 (Nat.mul_lt_mul_of_pos_right h hp)]
theorem order_pos {x y : Nat} (hx : x ≤ fInf) (hy : y ≤ fInf) : Ieee.double.order x y = some (compare x y) := by
  unfold Ieee.Format.order
  rcases Nat.lt_or_ge x fInf with h1 | h1
  · obtain ⟨m, e, r1, v1⟩ := read_pos h1
    rcases Nat.lt_or_ge y fInf with h2 | h2
    · obtain ⟨n, f, r2, v2⟩ := read_pos h2
      rw [r1, r2]
      simp only [Ieee.Datum.order, Ieee.signed, Bool.false_eq_true, if_false, Option.some.injEq]
      rw [shl_cmp m n e f _ _ (min e f) (by omega) (by omega), ← v1, ← v2, fVal_cmp]
    · have : y = fInf := by omega
      subst this
      rw [r1, read_inf]
      simp [Ieee.Datum.order, Nat.compare_eq_lt.2 h1]
  · have : x = fInf := by omega
    subst this
    rcases Nat.lt_or_ge y fInf with h2 | h2
    · obtain ⟨n, f, r2, v2⟩ := read_pos h2
      rw [r2, read_inf]
      simp [Ieee.Datum.order, Nat.compare_eq_gt.2 h2]
    · have : y = fInf := by omega
      subst this
      rw [read_inf]
      simp [Ieee.Datum.order]
theorem flt_pos {x y : Nat} (hx : x ≤ fInf) (hy : y ≤ fInf) : flt x y = decide (x < y) := by
  unfold flt
  rw [order_pos hx hy]
  rcases Nat.lt_trichotomy x y with h | h | h
  · rw [Nat.compare_eq_lt.2 h]; simp [h]
  · subst h; rw [Nat.compare_eq_eq.2 rfl]; simp
  · rw [Nat.compare_eq_gt.2 h]; simp; omega
theorem feq_pos {x : Nat} (hx : x ≤ fInf) : feq x x = true := by
  unfold feq
  rw [order_pos hx hx, Nat.compare_eq_eq.2 rfl]; rfl
theorem feq_qn : feq qn qn = false := by decide
def mxN (l : List Nat) : Nat := l.foldl max 0
theorem foldl_mx (l : List Nat) (h : ∀ x ∈ l, x ≤ fInf) : ∀ m, m ≤ fInf → l.foldl mxF m = l.foldl max m := by
  induction l with
  | nil => intro m _; rfl
  | cons a l ih =>
    intro m hm
    have ha := h a (by simp)
    simp only [List.foldl_cons]
    have : mxF m a = max m a := by
      unfold mxF
      rw [flt_pos hm ha]
      by_cases hh : m < a
      · simp [hh]; omega
      · simp [hh]; omega
    rw [this]
    exact ih (fun x hx => h x (by simp [hx])) _ (by omega)
theorem great_abs (l : List Nat) (h : ∀ x ∈ l, x = qn ∨ x ≤ fInf) : greatF l = if qn ∈ l then qn else mxN l := by
  have hf : ∀ x, x = qn ∨ x ≤ fInf → ((!feq x x) = true ↔ x = qn) := by
    intro x hx
    rcases hx with rfl | hx
    · simp [feq_qn]
    · rw [feq_pos hx]
      simp
      intro hq; subst hq; exact absurd hx (by decide)
  unfold greatF
  by_cases hq : qn ∈ l
  · rw [if_pos hq]
    have : (l.find? (fun x => !feq x x)).isSome := by
      rw [List.find?_isSome]
      exact ⟨qn, hq, by simp [feq_qn]⟩
    obtain ⟨x, hx⟩ := Option.isSome_iff_exists.1 this
    rw [hx]
    have h1 := List.find?_some hx
    have h2 := List.mem_of_find?_eq_some hx
    exact (hf x (h x h2)).1 h1
  · rw [if_neg hq]
    have : l.find? (fun x => !feq x x) = none := by
      rw [List.find?_eq_none]
      intro x hx hh
      have := (hf x (h x hx)).1 hh
      subst this; exact hq hx
    rw [this]
    refine foldl_mx l (fun x hx => ?_) 0 (by decide)
    rcases h x hx with rfl | h'
    · exact absurd hx hq
    · exact h'
theorem mxN_le : ∀ (l : List Nat) (m x : Nat), l.foldl max m ≤ x ↔ m ≤ x ∧ ∀ y ∈ l, y ≤ x
  | [], m, x => by simp
  | a :: l, m, x => by
    simp only [List.foldl_cons]
    rw [mxN_le l]
    simp only [List.mem_cons, forall_eq_or_imp]
    constructor
    · rintro ⟨h1, h2⟩; exact ⟨by omega, by omega, h2⟩
    · rintro ⟨h1, h2, h3⟩; exact ⟨by omega, h3⟩
end Go.Sx

set_option linter.unusedVariables false
set_option linter.unusedSimpArgs false
namespace Go.Sx
/-! ### a matrix within a list, written -/
def loc (off ld : Int) (r c p : Nat) : Option (Nat × Nat) :=
  if 0 ≤ (p : Int) - off ∧ (((p : Int) - off) % ld).toNat < r ∧ (((p : Int) - off) / ld).toNat < c then some ((((p : Int) - off) % ld).toNat, (((p : Int) - off) / ld).toNat) else none
def setM (L : List Nat) (off ld : Int) (r c : Nat) (g : Nat → Nat → Nat) : List Nat :=
  rml (fun p => match loc off ld r c p with | some q => g q.1 q.2 | none => L.getD p 0) L.length
@[simp] theorem setM_len (L : List Nat) (off ld : Int) (r c : Nat) (g : Nat → Nat → Nat) : (setM L off ld r c g).length = L.length := by simp [setM]
def pos (off ld : Int) (i j : Nat) : Nat := (off + (i : Int) + (j : Int) * ld).toNat
theorem mel_pos (l : List Nat) (off ld : Int) (i j : Nat) : mel l off ld i j = l.getD (pos off ld i j) 0 := rfl
section
variable {off ld : Int} {r c n : Nat}
theorem loc_pos (hG : GoodP n off r c ld) {i j : Nat} (hi : i < r) (hj : j < c) : loc off ld r c (pos off ld i j) = some (i, j) := by
  obtain ⟨h1, h2, h3, h4, h5, h6⟩ := id hG
  have hp := good_place hG (i := (i : Int)) (j := (j : Int)) (by omega) (by omega) (by omega) (by omega)
  have e : ((pos off ld i j : Nat) : Int) - off = (i : Int) + (j : Int) * ld := by unfold pos; omega
  have e1 : ((i : Int) + (j : Int) * ld) % ld = i := by
    rw [Int.add_mul_emod_self_right]; exact Int.emod_eq_of_lt (by omega) (by omega)
  have e2 : ((i : Int) + (j : Int) * ld) / ld = j := by
    rw [Int.add_mul_ediv_right _ _ (by omega), Int.ediv_eq_zero_of_lt (by omega) (by omega)]; omega
  unfold loc
  rw [e, e1, e2]
  rw [if_pos ⟨by omega, by omega, by omega⟩]
  simp
theorem loc_some {p i j : Nat} (h4 : 1 ≤ ld) (h3 : 0 ≤ off) (h : loc off ld r c p = some (i, j)) : i < r ∧ j < c ∧ p = pos off ld i j := by
  unfold loc at h
  split at h
  · rename_i hc
    simp only [Option.some.injEq, Prod.mk.injEq] at h
    obtain ⟨rfl, rfl⟩ := h
    refine ⟨hc.2.1, hc.2.2, ?_⟩
    unfold pos
    have e1 := Int.emod_nonneg ((p : Int) - off) (show ld ≠ 0 by omega)
    have e2 := Int.ediv_nonneg hc.1 (show 0 ≤ ld by omega)
    have e3 := Int.mul_ediv_add_emod ((p : Int) - off) ld
    rw [Int.toNat_of_nonneg e1, Int.toNat_of_nonneg e2]
    have : ((p : Int) - off) / ld * ld = ld * (((p : Int) - off) / ld) := Int.mul_comm _ _
    omega
  · cases h
theorem pos_lt (hG : GoodP n off r c ld) {i j : Nat} (hi : i < r) (hj : j < c) : pos off ld i j < n := by
  have hp := good_place hG (i := (i : Int)) (j := (j : Int)) (by omega) (by omega) (by omega) (by omega)
  unfold pos; omega
theorem mel_setM {L : List Nat} {g : Nat → Nat → Nat} (hG : GoodP L.length off r c ld) {i j : Nat} (hi : i < r) (hj : j < c) : mel (setM L off ld r c g) off ld i j = g i j := by
  rw [mel_pos, setM, rml_get (pos_lt hG hi hj), loc_pos hG hi hj]
theorem setM_congr {L : List Nat} {g g' : Nat → Nat → Nat} (h4 : 1 ≤ ld) (h3 : 0 ≤ off) (h : ∀ i j, i < r → j < c → g i j = g' i j) : setM L off ld r c g = setM L off ld r c g' := by
  unfold setM
  refine rml_congr fun p hp => ?_
  cases hl : loc off ld r c p with
  | some q =>
    obtain ⟨i, j⟩ := q
    obtain ⟨hi, hj, _⟩ := loc_some h4 h3 hl
    exact h i j hi hj
  | none => rfl
theorem setM_mel {L : List Nat} (h4 : 1 ≤ ld) (h3 : 0 ≤ off) : setM L off ld r c (mel L off ld) = L := by
  apply List.ext_getElem
  · simp
  · intro p h1 h2
    have hp : p < L.length := h2
    have := rml_get (g := fun p => match loc off ld r c p with | some q => mel L off ld q.1 q.2 | none => L.getD p 0) hp
    have e : (setM L off ld r c (mel L off ld)).getD p 0 = L.getD p 0 := by
      rw [setM, this]
      cases hl : loc off ld r c p with
      | some q =>
        obtain ⟨i, j⟩ := q
        obtain ⟨_, _, rfl⟩ := loc_some h4 h3 hl
        rfl
      | none => rfl
    simpa [List.getD, h1, h2] using e
def updG (g : Nat → Nat → Nat) (i j x : Nat) : Nat → Nat → Nat := fun i' j' => if i' = i ∧ j' = j then x else g i' j'
theorem set_setM {L : List Nat} {g : Nat → Nat → Nat} (hG : GoodP L.length off r c ld) {i j x : Nat} (hi : i < r) (hj : j < c) : (setM L off ld r c g).set (pos off ld i j) x = setM L off ld r c (updG g i j x) := by
  obtain ⟨h1, h2, h3, h4, h5, h6⟩ := id hG
  apply List.ext_getElem
  · simp
  · intro p k1 k2
    simp only [setM_len] at k2
    rw [List.getElem_set]
    have val : ∀ g : Nat → Nat → Nat, (setM L off ld r c g)[p]'(by simpa using k2) = match loc off ld r c p with | some q => g q.1 q.2 | none => L.getD p 0 := by
      intro g; simp [setM, rml]
    rw [val, val]
    split
    · rename_i hp
      subst hp
      rw [loc_pos hG hi hj]
      simp [updG]
    · rename_i hp
      cases hl : loc off ld r c p with
      | some q =>
        obtain ⟨i', j'⟩ := q
        obtain ⟨hi', hj', rfl⟩ := loc_some h4 h3 hl
        simp only [updG]
        rw [if_neg]
        rintro ⟨rfl, rfl⟩; exact hp rfl
      | none => rfl
/-- a part, written -/
def partG (g g' : Nat → Nat → Nat) (i0 j0 r' c' : Nat) : Nat → Nat → Nat := fun i j => if i0 ≤ i ∧ i < i0 + r' ∧ j0 ≤ j ∧ j < j0 + c' then g' (i - i0) (j - j0) else g i j
theorem pos_part {off ld : Int} {i0 j0 i j : Nat} : pos (off + ((i0 : Int) + (j0 : Int) * ld)) ld i j = pos off ld (i0 + i) (j0 + j) := by
  unfold pos
  congr 1
  have : (((j0 + j : Nat)) : Int) * ld = (j0 : Int) * ld + (j : Int) * ld := by rw [Int.natCast_add, Int.add_mul]
  rw [this]; omega
theorem setM_part {L : List Nat} {g' : Nat → Nat → Nat} (hG : GoodP L.length off r c ld) {i0 j0 r' c' : Nat} (hi : i0 + r' ≤ r) (hj : j0 + c' ≤ c) (hG' : GoodP L.length (off + ((i0 : Int) + (j0 : Int) * ld)) r' c' ld) :
    setM L (off + ((i0 : Int) + (j0 : Int) * ld)) ld r' c' g' = setM L off ld r c (partG (mel L off ld) g' i0 j0 r' c') := by
  obtain ⟨h1, h2, h3, h4, h5, h6⟩ := id hG
  unfold setM
  refine rml_congr fun p hp => ?_
  cases hl : loc (off + ((i0 : Int) + (j0 : Int) * ld)) ld r' c' p with
  | some q =>
    obtain ⟨i, j⟩ := q
    obtain ⟨hi', hj', rfl⟩ := loc_some h4 hG'.2.2.1 hl
    rw [pos_part, loc_pos hG (by omega) (by omega)]
    simp only [partG]
    rw [if_pos ⟨by omega, by omega, by omega, by omega⟩]
    congr 1 <;> omega
  | none =>
    cases hl' : loc off ld r c p with
    | some q =>
      obtain ⟨i, j⟩ := q
      obtain ⟨hi', hj', rfl⟩ := loc_some h4 h3 hl'
      simp only [partG]
      rw [if_neg]
      · rfl
      · rintro ⟨k1, k2, k3, k4⟩
        have := loc_pos hG' (i := i - i0) (j := j - j0) (by omega) (by omega)
        rw [pos_part, show i0 + (i - i0) = i from by omega, show j0 + (j - j0) = j from by omega, hl] at this
        cases this
    | none => rfl
theorem mel_part {L : List Nat} {i0 j0 i j : Nat} : mel L (off + ((i0 : Int) + (j0 : Int) * ld)) ld i j = mel L off ld (i0 + i) (j0 + j) := by
  rw [mel_pos, mel_pos, pos_part]
end
end Go.Sx

set_option linter.unusedVariables false
set_option linter.unusedSimpArgs false
namespace Go.Sx
section
variable {P : Program} {cfg : Cfg} {e : List (Nat × EV)} {L : List (Nat × List AV)} {H N : List (List AV)} {K : St → Prop}
variable {ty : TypeId} {pos : String} {aft : Array Edge} {gd : Option (Nat × Bool)} {dd : Nat}
/-! ### one block of old that is written over and over: the blocks are 'H.set b ..' -/
theorem hb_set {b : Nat} {cs : List AV} (h : b < H.length) : (H.set b cs)[b]? = some cs := by simp [h]
theorem l_bF {t : TypeId} {b g o len sz k : Nat} {X : List Nat} [i : TyI P t 1 false] (hb : b < H.length) (hg : X.length = g) (hk : o + k < X.length) (h : K ⟨(dd, .val (.flt (X.getD (o + k) 0))) :: e, L, H.set b (fl X) ++ N⟩) :
    loadK P t dd K ⟨e, L, H.set b (fl X) ++ N⟩ (.val (.eptr (.slm b g o len sz) k)) :=
  l_ptr1 (by simp only [sread, hg_old (hb_set hb), Option.bind_some, fl_len, hg, if_true]; exact gc_one (fl_get hk)) h
theorem b_stB {t : TypeId} {x v : Operand} {b g o len sz k : Nat} {X X' : List Nat} {f : Nat} [ti : TyI P t 1 false] (hx : St.ev ⟨e, L, H.set b (fl X) ++ N⟩ x = .val (.eptr (.slm b g o len sz) k)) (hv : St.ev ⟨e, L, H.set b (fl X) ++ N⟩ v = .val (.flt f)) (hb : b < H.length)
    (hg : X.length = g) (hk : o + k < X.length) (hX : X.set (o + k) f = X') (h : K ⟨e, L, H.set b (fl X') ++ N⟩) : opX P cfg ⟨none, .store t x v, ty, pos, aft, gd⟩ K ⟨e, L, H.set b (fl X) ++ N⟩ := by
  refine b_stF hx hv (hb_set hb) hg hk hX ?_
  rw [List.set_set]; exact h
theorem b_nilC {x : Operand} {s : AV} {o : Nat} (hx : St.ev ⟨e, L, H⟩ x = .val (.eptr s o)) (h : K ⟨(dd, .val (.eptr s o)) :: e, L, H⟩) : opX P cfg ⟨some dd, .nilCheck x, ty, pos, aft, gd⟩ K ⟨e, L, H⟩ := by
  rw [op_pure P cfg e L H K _ _ _ _ _ _ rfl]
  simp only [pureV, hx]
  exact ⟨trivial, h⟩
theorem b_iaM {m : Nat} {t el : TypeId} {x y : Operand} [si : SlI P t el 1] {s : AV} {k : IntKind} {i : Int} {len : Nat} (hx : St.ev ⟨e, L, H⟩ x = .val s) (hy : St.ev ⟨e, L, H⟩ y = .val (.int k i)) (hl : slen s = some len) (hi : i = (m : Int)) (hm : m < len)
    (h : K ⟨(dd, .val (.eptr s m)) :: e, L, H⟩) : opX P cfg ⟨some dd, .indexAddr t x y, ty, pos, aft, gd⟩ K ⟨e, L, H⟩ :=
  b_ia (i := m) hx hy hl hi hm (by simpa using h)
theorem FL.set {b g q : Nat} {X : List Nat} (hb : b < H.length) (hg : g = X.length) (hq : q = X.length) : FL (H.set b (fl X) ++ N) (.slm b g 0 q 1) X :=
  (FL.old (hb_set hb) hg hq).app N
end
/-- two rows, swapped -/
def swpG (g : Nat → Nat → Nat) (i k : Nat) : Nat → Nat → Nat := fun i' j => if i' = i then g k j else if i' = k then g i j else g i' j
def swpS (g : Nat → Nat → Nat) (i k t : Nat) : Nat → Nat → Nat := fun i' j => if j < t then swpG g i k i' j else g i' j
theorem swpS_step' {g : Nat → Nat → Nat} {i k t : Nat} (i' j : Nat) : updG (updG (swpS g i k t) i t (g k t)) k t (g i t) i' j = swpS g i k (t + 1) i' j := by
  unfold updG swpS swpG
  by_cases h1 : j = t
  · subst h1
    by_cases h2 : i' = k
    · subst h2
      by_cases h3 : i' = i
      · subst h3; simp
      · simp [h3]
    · by_cases h3 : i' = i
      · subst h3; simp [h2]
      · simp [h2, h3]
  · have : (j < t + 1) = (j < t) := by apply propext; omega
    simp [h1, this]
theorem swpS_step {g : Nat → Nat → Nat} {i k t : Nat} (hik : i ≠ k) (i' j : Nat) : updG (updG (swpS g i k t) i t (g k t)) k t (g i t) i' j = swpS g i k (t + 1) i' j := swpS_step' i' j
theorem swpG_same {g : Nat → Nat → Nat} {i : Nat} (i' j : Nat) : swpG g i i i' j = g i' j := by
  unfold swpG; split
  · rename_i h; rw [h]
  · rfl
/-- a table, one number set -/
theorem rmA_congr {g g' : Nat → Nat → Nat} {r c : Nat} (h : ∀ i j, i < r → j < c → g i j = g' i j) : rmA g r c = rmA g' r c := by
  unfold rmA
  exact rml_congr fun k hk => h _ _ (div_lt' (by simpa using hk)) (Nat.mod_lt _ (pos_of_lt hk))
theorem rmA_set {g : Nat → Nat → Nat} {r c i j x : Nat} (hi : i < r) (hj : j < c) : (rmA g r c).set (i * c + j) x = rmA (updG g i j x) r c := by
  apply List.ext_getElem
  · simp
  · intro k h1 h2
    simp only [rmA_len] at h2
    rw [List.getElem_set]
    split
    · rename_i hk
      subst hk
      simp [rmA, rml, ix_div hj, ix_mod hj, updG]
    · rename_i hk
      simp only [rmA, rml, List.getElem_map, List.getElem_range, updG]
      rw [if_neg]
      rintro ⟨h3, h4⟩
      apply hk
      have := Nat.div_add_mod k c
      rw [h3, h4, Nat.mul_comm] at this
      exact this
/-- the place of the greatest number without its sign, among the first -/
def moN (x : List Nat) : Nat → Nat
  | 0 => 0
  | k + 1 => if k = 0 then 0 else if flt (absF (x.getD (moN x k) 0)) (absF (x.getD k 0)) then k else moN x k
theorem moN_one (x : List Nat) : moN x 1 = 0 := rfl
theorem moN_T {x : List Nat} {k : Nat} (hk : 0 < k) (h : flt (absF (x.getD (moN x k) 0)) (absF (x.getD k 0)) = true) : moN x (k + 1) = k := by
  simp only [moN]; rw [if_neg (by omega), if_pos h]
theorem moN_F {x : List Nat} {k : Nat} (hk : 0 < k) (h : flt (absF (x.getD (moN x k) 0)) (absF (x.getD k 0)) = false) : moN x (k + 1) = moN x k := by
  simp only [moN]; rw [if_neg (by omega), h]; rfl
theorem moN_lt (x : List Nat) : ∀ k, 0 < k → moN x k < k
  | 0, h => by omega
  | k + 1, _ => by
    simp only [moN]
    split
    · omega
    · split
      · omega
      · have := moN_lt x k (by omega); omega
def moI (x : List Nat) (k : Nat) : Int := if k = 0 then -1 else (moN x k : Int)
theorem moI_zero (x : List Nat) : moI x 0 = -1 := rfl
theorem moI_pos {x : List Nat} {k : Nat} (h : 0 < k) : moI x k = (moN x k : Int) := by unfold moI; rw [if_neg (by omega)]
theorem moI_one (x : List Nat) : moI x (0 + 1) = 0 := rfl
theorem row_pos {off ld : Int} {r c n i t : Nat} (hG : GoodP n off r c ld) (hi : i < r) (ht : t < c) : rOff off (c : Int) (i : Int) + (t : Int) * ld = ((pos off ld i t : Nat) : Int) := by
  have hp := good_place hG (i := (i : Int)) (j := (t : Int)) (by omega) (by omega) (by omega) (by omega)
  unfold rOff pos
  rw [if_pos (by omega)]
  omega
theorem col_pos {off ld : Int} {r c n i t : Nat} (hG : GoodP n off r c ld) (hi : i < r) (ht : t < c) : cOff off (r : Int) ld (t : Int) + (i : Int) = ((pos off ld i t : Nat) : Int) := by
  have hp := good_place hG (i := (i : Int)) (j := (t : Int)) (by omega) (by omega) (by omega) (by omega)
  unfold cOff pos
  rw [if_pos (by omega)]
  omega
end Go.Sx

set_option linter.unusedVariables false
set_option linter.unusedSimpArgs false
namespace Go.Sx
/-! ### signs of products -/
open Ieee
theorem e_sw : Ieee.double.signWeight = 9223372036854775808 := by decide
theorem e_bn : Ieee.double.binade = 4503599627370496 := by decide
theorem e_ir : Ieee.double.infRung = 9218868437227405312 := by decide
theorem e_lp : Ieee.double.leastPlace = -1074 := by decide
theorem e_fb : Ieee.double.fractionBits = 52 := by decide
theorem read_word (s : Bool) (k : Nat) (h : k ≤ 9218868437227405312) : Ieee.double.read (Ieee.double.word s k) = (if s then (Ieee.double.read k).opposite else Ieee.double.read k) := by
  have hk : k < 9223372036854775808 := by omega
  have h1 : (k / 9223372036854775808 % 2 == 1) = false := by rw [Nat.div_eq_of_lt hk]; rfl
  have h2 : k % 9223372036854775808 = k := Nat.mod_eq_of_lt hk
  cases s with
  | false =>
    have : Ieee.double.word false k = k := by simp [Ieee.Format.word, e_sw]
    rw [this]; rfl
  | true =>
    have e : Ieee.double.word true k = 9223372036854775808 + k := by simp [Ieee.Format.word, e_sw]
    rw [e]
    have h3 : ((9223372036854775808 + k) / 9223372036854775808 % 2 == 1) = true := by
      have : (9223372036854775808 + k) / 9223372036854775808 = 1 := by omega
      rw [this]; rfl
    have h4 : (9223372036854775808 + k) % 9223372036854775808 = k := by omega
    unfold Ieee.Format.read
    simp only [e_sw, e_bn, e_ir, h1, h2, h3, h4, if_true]
    split
    · simp [Ieee.Datum.opposite]
    · split
      · simp [Ieee.Datum.opposite]
      · split
        · simp [Ieee.Datum.opposite]
        · simp [Ieee.Datum.opposite]
def rungF (m : Nat) (p : Int) : Nat :=
  if m = 0 then 0 else
    let last := max (p + m.log2 - 52) (-1074)
    min ((last - (-1074)).toNat * 4503599627370496 + Toward.even.cut false (m <<< (p - last).toNat) (last - p).toNat) 9218868437227405312
theorem cut_even (s : Bool) (n d : Nat) : Toward.even.cut s n d = Toward.even.cut false n d := rfl
theorem nearest_eq (s : Bool) (m : Nat) (p : Int) : Ieee.double.nearest s m p = Ieee.double.word s (rungF m p) := by
  unfold Ieee.Format.nearest rungF
  by_cases h : m = 0
  · simp [h]
  · simp only [h, if_false, e_fb, e_lp, e_bn, e_ir, cut_even s]
    rfl
theorem rungF_le (m : Nat) (p : Int) : rungF m p ≤ 9218868437227405312 := by
  unfold rungF
  split
  · omega
  · exact Nat.min_le_right _ _
theorem log2_of {n k : Nat} (h1 : 2 ^ k ≤ n) (h2 : n < 2 ^ (k + 1)) : n.log2 = k := by
  have hn : n ≠ 0 := by have := Nat.two_pow_pos k; omega
  exact (Nat.log2_eq_iff hn).2 ⟨h1, h2⟩
theorem cut_exact {n : Nat} (h : 1 ≤ n) : Toward.even.cut false ((4503599627370496 * n) <<< 0) 52 = n := by
  have hl : 52 ≤ (4503599627370496 * n).log2 := by
    rw [Nat.le_log2 (by omega)]
    have : 2 ^ 52 = 4503599627370496 := by decide
    omega
  unfold Toward.cut
  have e0 : (4503599627370496 * n) <<< 0 = 4503599627370496 * n := rfl
  have e1 : min 52 ((4503599627370496 * n).log2 + 2) = 52 := by omega
  have e2 : (1 : Nat) <<< 52 = 4503599627370496 := by decide
  simp only [e0, e1, e2]
  have e3 : 4503599627370496 * n / 4503599627370496 = n := Nat.mul_div_cancel_left n (by decide)
  have e4 : 4503599627370496 * n % 4503599627370496 = 0 := Nat.mul_mod_right _ _
  rw [e3, e4]
  simp
/-- what is read is written again, from a place 52 further down -/
theorem rungF_read {k : Nat} (h : k < 9218868437227405312) : ∃ m e, Ieee.double.read k = .number false m e ∧ rungF (4503599627370496 * m) (e + -52) = k := by
  have hk : k < 9223372036854775808 := by omega
  have h1 : (k / 9223372036854775808 % 2 == 1) = false := by rw [Nat.div_eq_of_lt hk]; rfl
  have h2 : k % 9223372036854775808 = k := Nat.mod_eq_of_lt hk
  unfold Ieee.Format.read
  simp only [e_sw, e_bn, e_ir, e_lp, h1, h2]
  by_cases hB : k < 4503599627370496
  · rw [if_pos hB]
    refine ⟨k, -1074, rfl, ?_⟩
    by_cases h0 : k = 0
    · subst h0; decide
    · have hl2 : (4503599627370496 * k).log2 < 104 := by
        rw [Nat.log2_lt (by omega)]
        have : 2 ^ 104 = 4503599627370496 * 4503599627370496 := by decide
        omega
      unfold rungF
      rw [if_neg (by omega)]
      have e1 : max (-1074 + -52 + (((4503599627370496 * k).log2 : Nat) : Int) - 52) (-1074) = -1074 := by omega
      simp only [e1]
      have e2 : ((-1074 : Int) + -52 - -1074).toNat = 0 := by decide
      have e3 : ((-1074 : Int) - (-1074 + -52)).toNat = 52 := by decide
      have e4 : ((-1074 : Int) - -1074).toNat = 0 := by decide
      rw [e2, e3, e4, cut_exact (by omega)]
      omega
  · rw [if_neg hB, if_pos h]
    refine ⟨_, _, rfl, ?_⟩
    have hd := Nat.div_add_mod k 4503599627370496
    have hm := Nat.mod_lt k (show 0 < 4503599627370496 by decide)
    have hq : 1 ≤ k / 4503599627370496 := (Nat.le_div_iff_mul_le (by decide)).2 (by omega)
    generalize k % 4503599627370496 = r at hd hm
    generalize k / 4503599627370496 = q at hd hq
    have hl : (4503599627370496 * (4503599627370496 + r)).log2 = 104 := by
      apply log2_of
      · have : 2 ^ 104 = 4503599627370496 * 4503599627370496 := by decide
        omega
      · have : 2 ^ (104 + 1) = 4503599627370496 * 9007199254740992 := by decide
        omega
    unfold rungF
    rw [if_neg (by omega), hl]
    have e1 : max ((-1074 : Int) + ((q - 1 : Nat) : Int) + -52 + ((104 : Nat) : Int) - 52) (-1074) = -1074 + ((q - 1 : Nat) : Int) := by omega
    simp only [e1]
    have e2 : ((-1074 : Int) + ((q - 1 : Nat) : Int) + -52 - (-1074 + ((q - 1 : Nat) : Int))).toNat = 0 := by omega
    have e3 : ((-1074 : Int) + ((q - 1 : Nat) : Int) - (-1074 + ((q - 1 : Nat) : Int) + -52)).toNat = 52 := by omega
    have e4 : ((-1074 : Int) + ((q - 1 : Nat) : Int) - -1074).toNat = q - 1 := by omega
    rw [e2, e3, e4, cut_exact (by omega)]
    have : (q - 1) * 4503599627370496 + (4503599627370496 + r) = k := by omega
    rw [this]; omega
/-- a word's sign, and the rest -/
theorem read_split (y : Nat) : ∃ s : Bool, Ieee.double.read y = (if s then (Ieee.double.read (y % 9223372036854775808)).opposite else Ieee.double.read (y % 9223372036854775808)) := by
  have h2 : y % 9223372036854775808 % 9223372036854775808 = y % 9223372036854775808 := Nat.mod_mod _ _
  have h3 : (y % 9223372036854775808 / 9223372036854775808 % 2 == 1) = false := by rw [Nat.div_eq_of_lt (Nat.mod_lt _ (by decide))]; rfl
  refine ⟨y / 9223372036854775808 % 2 == 1, ?_⟩
  unfold Ieee.Format.read
  simp only [e_sw, e_bn, e_ir, h2, h3]
  cases (y / 9223372036854775808 % 2 == 1) with
  | false => simp
  | true =>
    simp only [if_true]
    split
    · simp [Ieee.Datum.opposite]
    · split
      · simp [Ieee.Datum.opposite]
      · split
        · simp [Ieee.Datum.opposite]
        · simp [Ieee.Datum.opposite]
theorem opp_opp (d : Datum) : d.opposite.opposite = d := by cases d <;> simp [Ieee.Datum.opposite]
def negOne : Nat := 13830554455654793216
theorem read_negOne : Ieee.double.read negOne = .number true 4503599627370496 (-52) := by decide
theorem mul_negOne {y : Nat} (hn : isNaN y = false) : ∃ r, Ieee.double.mul negOne y = some r ∧ Ieee.double.read r = (Ieee.double.read y).opposite := by
  obtain ⟨s, hs⟩ := read_split y
  have hk : y % 9223372036854775808 ≤ 9218868437227405312 := by
    rcases Nat.lt_or_ge 9218868437227405312 (y % 9223372036854775808) with h | h
    · have : isNaN y = true := by
        unfold isNaN Ieee.Format.read
        simp only [e_sw, e_bn, e_ir]
        rw [if_neg (by omega), if_neg (by omega), if_neg (by omega)]
        rfl
      rw [this] at hn; cases hn
    · exact h
  generalize y % 9223372036854775808 = k at hs hk
  unfold Ieee.Format.mul
  rw [read_negOne, hs]
  rcases Nat.lt_or_ge k 9218868437227405312 with h | h
  · obtain ⟨m, e, h1, h2⟩ := rungF_read h
    rw [h1]
    have e1 : (-52 + e : Int) = e + -52 := by omega
    cases s with
    | false =>
      refine ⟨Ieee.double.word true k, ?_, ?_⟩
      · simp [Ieee.Datum.product, Ieee.Format.write, nearest_eq, e1, h2]
      · rw [read_word _ _ hk]; simp [h1]
    | true =>
      refine ⟨Ieee.double.word false k, ?_, ?_⟩
      · simp [Ieee.Datum.product, Ieee.Datum.opposite, Ieee.Format.write, nearest_eq, e1, h2]
      · rw [read_word _ _ hk]; simp [h1, Ieee.Datum.opposite]
  · have hke : k = 9218868437227405312 := by omega
    subst hke
    have hi : Ieee.double.read 9218868437227405312 = .infinity false := by decide
    rw [hi]
    cases s with
    | false =>
      refine ⟨Ieee.double.word true 9218868437227405312, ?_, ?_⟩
      · simp [Ieee.Datum.product, Ieee.Format.write, e_ir]
      · rw [read_word _ _ hk]; simp [hi]
    | true =>
      refine ⟨Ieee.double.word false 9218868437227405312, ?_, ?_⟩
      · simp [Ieee.Datum.product, Ieee.Datum.opposite, Ieee.Format.write, e_ir]
      · rw [read_word _ _ hk]; simp [hi, Ieee.Datum.opposite]

theorem product_opp (a b : Datum) : a.opposite.product b = (a.product b).map Datum.opposite := by
  cases a <;> cases b <;> simp [Ieee.Datum.opposite, Ieee.Datum.product] <;> (try split) <;> simp_all [Ieee.Datum.opposite]
theorem product_comm (a b : Datum) : a.product b = b.product a := by
  cases a <;> cases b <;> simp [Ieee.Datum.product, Bool.xor_comm, Nat.mul_comm, Int.add_comm] <;> (try split) <;> simp_all [Bool.xor_comm]
theorem write_opp {d : Datum} (h : d.isNaN = false) : Ieee.double.read (Ieee.double.write d.opposite) = (Ieee.double.read (Ieee.double.write d)).opposite ∧ (Ieee.double.read (Ieee.double.write d)).isNaN = false := by
  have nn : ∀ k, k ≤ 9218868437227405312 → (Ieee.double.read k).isNaN = false := by
    intro k hk
    rcases Nat.lt_or_ge k 9218868437227405312 with h | h
    · obtain ⟨m, e, h1, _⟩ := rungF_read h
      rw [h1]; rfl
    · have : k = 9218868437227405312 := by omega
      subst this; decide
  have on : ∀ d : Datum, d.opposite.isNaN = d.isNaN := by intro d; cases d <;> rfl
  have key : ∀ (s : Bool) (k : Nat), k ≤ 9218868437227405312 → Ieee.double.read (Ieee.double.word (!s) k) = (Ieee.double.read (Ieee.double.word s k)).opposite ∧ (Ieee.double.read (Ieee.double.word s k)).isNaN = false := by
    intro s k hk
    rw [read_word _ _ hk, read_word _ _ hk]
    cases s
    · simp [nn k hk]
    · simp [opp_opp, on, nn k hk]
  cases d with
  | number s m p =>
    simp only [Ieee.Datum.opposite, Ieee.Format.write, nearest_eq]
    exact key s _ (rungF_le m p)
  | infinity s =>
    simp only [Ieee.Datum.opposite, Ieee.Format.write, e_ir]
    exact key s _ (Nat.le_refl _)
  | nan s t => cases h
theorem cn_idem (b : Nat) : cn (cn b) = cn b := by
  rcases cn_cases b with ⟨h1, h2⟩ | ⟨h1, h2⟩
  · rw [h2]; exact cn_qn
  · rw [h2, h2]
theorem add_cnr (a b : Nat) : Ieee.double.add a (cn b) = Ieee.double.add a b := by
  rw [← add_cn a (cn b), cn_idem, add_cn]
theorem sub_cnr (a b : Nat) : Ieee.double.sub a (cn b) = Ieee.double.sub a b := by
  rw [← sub_cn a (cn b), cn_idem, sub_cn]
theorem mul_cnl (a b : Nat) : Ieee.double.mul (cn a) b = Ieee.double.mul a b := by
  rw [← mul_cn (cn a) b, cn_idem, mul_cn]
theorem nan_mul (x : Nat) {y : Nat} (h : isNaN y = true) : Ieee.double.mul x y = none ∧ Ieee.double.mul y x = none := by
  obtain ⟨s, t, hr⟩ := nan_read h
  unfold Ieee.Format.mul
  rw [hr]
  constructor
  · cases Ieee.double.read x <;> rfl
  · rfl
theorem nan_add (x : Nat) {y : Nat} (h : isNaN y = true) : Ieee.double.add x y = none ∧ Ieee.double.sub x y = none := by
  obtain ⟨s, t, hr⟩ := nan_read h
  unfold Ieee.Format.add Ieee.Format.sub
  rw [hr]
  constructor <;> cases Ieee.double.read x <;> rfl
theorem qnN : isNaN qn = true := by decide
/-- ger's step is the document's: a number less a product -/
theorem ger_step {p x y : Nat} : fadd p (fmul (fmul negOne y) x) = fsub p (fmul x y) := by
  have ff : ∀ (f : Nat → Nat → Option Nat) a b, fop f a b = (match f a b with | some r => cn r | none => qn) := fun _ _ _ => rfl
  by_cases hn : isNaN y = true
  · have e1 : fmul negOne y = qn := by show fop _ _ _ = _; rw [ff, (nan_mul negOne hn).1]
    have e2 : fmul qn x = qn := by show fop _ _ _ = _; rw [ff, (nan_mul x qnN).2]
    have e3 : fmul x y = qn := by show fop _ _ _ = _; rw [ff, (nan_mul x hn).1]
    rw [e1, e2, e3]
    show fop _ _ _ = fop _ _ _
    rw [ff, ff, (nan_add p qnN).1, (nan_add p qnN).2]
  · have hn' : isNaN y = false := by simpa using hn
    obtain ⟨r, h1, h2⟩ := mul_negOne hn'
    have e1 : fmul negOne y = cn r := by show fop _ _ _ = _; rw [ff, h1]
    rw [e1]
    have e2 : Ieee.double.mul (cn r) x = ((Ieee.double.read x).product (Ieee.double.read y)).map (fun d => Ieee.double.write d.opposite) := by
      rw [mul_cnl]
      unfold Ieee.Format.mul
      rw [h2, product_opp, product_comm]
      cases (Ieee.double.read x).product (Ieee.double.read y) <;> rfl
    have e3 : Ieee.double.mul x y = ((Ieee.double.read x).product (Ieee.double.read y)).map Ieee.double.write := rfl
    show fop _ p (fop _ _ _) = fop _ p (fop _ _ _)
    simp only [ff]
    rw [e2, e3]
    cases hd : (Ieee.double.read x).product (Ieee.double.read y) with
    | none =>
      simp only [Option.map_none]
      rw [(nan_add p qnN).1, (nan_add p qnN).2]
    | some d =>
      simp only [Option.map_some]
      rw [add_cnr, sub_cnr]
      have hdn : d.isNaN = false := by
        revert hd
        cases Ieee.double.read x <;> cases Ieee.double.read y <;> simp [Ieee.Datum.product] <;> first | (intro hh; subst hh; rfl) | (intro _ hh; subst hh; rfl)
      obtain ⟨h3, h4⟩ := write_opp hdn
      unfold Ieee.Format.add Ieee.Format.sub
      rw [h3]
end Go.Sx

set_option linter.unusedVariables false
set_option linter.unusedSimpArgs false
namespace Go.Sx
theorem hs_set2 {H N : List (List AV)} {b : Nat} {X Y : List AV} (h : b < H.length) : (H.set b X ++ N).set b Y = H.set b Y ++ N := by
  rw [hs_old (by simpa using h), List.set_set]
theorem hg_set {H N : List (List AV)} {b : Nat} {X : List AV} (h : b < H.length) : (H.set b X ++ N)[b]? = some X := hg_old (hb_set h)
/-! ### the factors, step by step -/
def colK (g : Nat → Nat → Nat) (k n : Nat) : List Nat := rml (fun i => g (k + i) k) (n - k)
@[simp] theorem colK_len (g : Nat → Nat → Nat) (k n : Nat) : (colK g k n).length = n - k := by simp [colK]
def pvK (g : Nat → Nat → Nat) (k n : Nat) : Nat := k + moN (colK g k n) (n - k)
theorem pvK_lt {g : Nat → Nat → Nat} {k n : Nat} (h : k < n) : pvK g k n < n := by
  have := moN_lt (colK g k n) (n - k) (by omega)
  unfold pvK; omega
theorem pvK_ge {g : Nat → Nat → Nat} {k n : Nat} : k ≤ pvK g k n := by unfold pvK; omega
def swK (g : Nat → Nat → Nat) (k n : Nat) : Nat → Nat → Nat := swpG g k (pvK g k n)
def divG (g : Nat → Nat → Nat) (k : Nat) : Nat → Nat → Nat := fun i j => if k < i ∧ j = k then fdiv (g i k) (g k k) else g i j
def subG (g : Nat → Nat → Nat) (k : Nat) : Nat → Nat → Nat := fun i j => if k < i ∧ k < j then fsub (g i j) (fmul (g i k) (g k j)) else g i j
def elG (g : Nat → Nat → Nat) (k : Nat) : Nat → Nat → Nat := subG (divG g k) k
def stG (g : Nat → Nat → Nat) (n : Nat) : Nat → Nat → Nat → Nat
  | 0 => g
  | k + 1 => elG (swK (stG g n k) k n) k
def sgK (g : Nat → Nat → Nat) (n k : Nat) : Bool := feq (swK (stG g n k) k n k k) 0
def pvL (g : Nat → Nat → Nat) (n k : Nat) : List Int := (List.range k).map fun t => (pvK (stG g n t) t n : Int)
@[simp] theorem pvL_len (g : Nat → Nat → Nat) (n k : Nat) : (pvL g n k).length = k := by simp [pvL]
theorem pvL_succ (g : Nat → Nat → Nat) (n k : Nat) : pvL g n (k + 1) = pvL g n k ++ [(pvK (stG g n k) k n : Int)] := by simp [pvL, List.range_succ]
theorem pvL_il (g : Nat → Nat → Nat) (n k : Nat) : il (pvL g n k) ++ [.int .i64 (pvK (stG g n k) k n : Int)] = il (pvL g n (k + 1)) := by rw [pvL_succ]; simp [il]
/-- the first step whose pivot is 0 -/
def fN (g : Nat → Nat → Nat) (n : Nat) : Nat := (List.range n).findIdx (sgK g n)
theorem fN_le (g : Nat → Nat → Nat) (n : Nat) : fN g n ≤ n := by
  have := List.findIdx_le_length (xs := List.range n) (p := sgK g n)
  simpa [fN] using this
theorem fN_lt {g : Nat → Nat → Nat} {n k : Nat} (h : k < fN g n) : sgK g n k = false := by
  have := List.not_of_lt_findIdx (xs := List.range n) (p := sgK g n) (i := k) h
  simpa using this
theorem fN_at {g : Nat → Nat → Nat} {n : Nat} (h : fN g n < n) : sgK g n (fN g n) = true := by
  have h' : (List.range n).findIdx (sgK g n) < (List.range n).length := by simpa [fN] using h
  have := List.findIdx_getElem (xs := List.range n) (p := sgK g n) (w := h')
  simpa [fN] using this
theorem elG_row {g : Nat → Nat → Nat} {k i j : Nat} (h : i ≤ k) : elG g k i j = g i j := by
  unfold elG subG divG
  rw [if_neg (by omega), if_neg (by omega)]
theorem elG_col {g : Nat → Nat → Nat} {k i j : Nat} (h : j < k) : elG g k i j = g i j := by
  unfold elG subG divG
  rw [if_neg (by omega), if_neg (by omega)]
theorem elG_k {g : Nat → Nat → Nat} {k i : Nat} (h : k < i) : elG g k i k = fdiv (g i k) (g k k) := by
  unfold elG subG divG
  rw [if_neg (by omega), if_pos (by omega)]
theorem elG_in {g : Nat → Nat → Nat} {k i j : Nat} (h : k < i) (h' : k < j) : elG g k i j = fsub (g i j) (fmul (fdiv (g i k) (g k k)) (g k j)) := by
  unfold elG subG divG
  rw [if_pos ⟨h, h'⟩, if_neg (by omega), if_pos ⟨h, rfl⟩, if_neg (by omega)]
end Go.Sx

set_option linter.unusedVariables false
set_option linter.unusedSimpArgs false
namespace Go.Sx
theorem sc_all {cs xs : List AV} (h : xs.length = cs.length) : sc cs 0 xs = xs := by
  apply List.ext_getElem?
  intro i
  rw [sc_get _ _ _ _ (by omega)]
  by_cases hi : i < xs.length
  · rw [if_pos (by omega)]; simp
  · rw [if_neg (by omega), List.getElem?_eq_none (by omega), List.getElem?_eq_none (by omega)]
section
variable {P : Program} {cfg : Cfg} {e : List (Nat × EV)} {L : List (Nat × List AV)} {H N : List (List AV)} {K : St → Prop}
variable {ty : TypeId} {pos : String} {aft : Array Edge} {gd : Option (Nat × Bool)} {dd : Nat}
/-- a whole block is written over -/
theorem b_cpyF {t tx el el' : TypeId} {z' : Nat} {s x : Operand} {n i g q m : Nat} {tag : Option (Nat × Nat)} {xs cs : List AV} {A N N' : List (List AV)} [si : SlI P t el 1] [sj : SlI P tx el' z'] (hs : St.ev ⟨e, L, A ++ N⟩ s = .val (.slm (n + i) g 0 q 1)) (hx : St.ev ⟨e, L, A ++ N⟩ x = .val (.sl tag m xs))
    (hA : A.length = n) (hc : N[i]? = some cs) (hg : cs.length = g) (hq : q = g) (hm : m = g) (hxl : xs.length = g) (hn : cfg.n0 = n) (hN : N.set i xs = N') (h : K ⟨(dd, .val (.int .i64 (g : Int))) :: e, L, A ++ N'⟩) :
    opX P cfg ⟨some dd, .call { callee := .builtin .copy, args := #[s, x], argTypes := #[t, tx] }, ty, pos, aft, gd⟩ K ⟨e, L, A ++ N⟩ := by
  subst hA
  have hsrc : srcX (A ++ N) 1 (.sl tag m xs) = some (m, xs) := src_fz (by omega)
  simp only [opX, opE, List.map_cons, List.map_nil, hs, hx, EV.asV, si.h, si.z, sj.h, sj.z, Option.bind_some, hsrc, cpyX, hg_new rfl hc]
  refine ⟨by omega, trivial, hg, .inl (by omega), by omega, ?_⟩
  have e1 : sc cs 0 (xs.take (min m q * 1)) = xs := by
    rw [show min m q * 1 = xs.length by omega, List.take_length]
    exact sc_all (by omega)
  rw [e1, hs_new rfl hN, show min m q = g by omega]
  exact h
end
theorem v_to {e : List (Nat × EV)} {L : List (Nat × List AV)} {H : List (List AV)} {K : St → Prop} {dd : Nat} (n' : Int) {n : Int} (hw : -9223372036854775808 ≤ n ∧ n ≤ 9223372036854775807) (hn : n = n') (h : K ⟨(dd, .val (.int .i64 n')) :: e, L, H⟩) : valK dd K ⟨e, L, H⟩ (some (True, .int .i64 (IntKind.i64.wrap n))) := by
  subst hn; exact v_w hw h
theorem colk_right {n : Nat} {off ld : Int} {r c k j : Nat} (hG : GoodP n off r c ld) (hk : k < c) (hj : j ≤ r) : RightP n (cOff off r ld k + (j : Int)) ((r - j : Nat) : Int) 1 := by
  obtain ⟨h1, h2, h3, h4⟩ := col_right hG (j := (k : Int)) (by omega) (by omega)
  refine ⟨by omega, by omega, by omega, ?_⟩
  rcases h4 with h4 | h4
  · exact .inl (by omega)
  · by_cases h : j = r
    · exact .inl (by omega)
    · exact .inr (by omega)
theorem colk_vec {l : List Nat} {off ld : Int} {r c k j : Nat} (hG : GoodP l.length off r c ld) (hk : k < c) (hj : j ≤ r) : vecL l (cOff off r ld k + (j : Int)) ((r - j : Nat) : Int) 1 = rml (fun i => mel l off ld (j + i) k) (r - j) := by
  unfold vecL rml
  rw [Int.toNat_natCast]
  refine List.map_congr_left fun i hi => ?_
  have hi' : i < r - j := by simpa using hi
  have := col_pos hG (i := j + i) (t := k) (by omega) hk
  rw [mel_pos]
  congr 1
  omega
/-- a column, divided number by number -/
def dvS (g : Nat → Nat → Nat) (k t : Nat) : Nat → Nat → Nat := fun i j => if k < i ∧ i < k + 1 + t ∧ j = k then fdiv (g i k) (g k k) else g i j
theorem dvS_zero {g : Nat → Nat → Nat} {k : Nat} (i j : Nat) : dvS g k 0 i j = g i j := by unfold dvS; rw [if_neg (by omega)]
theorem dvS_all {g : Nat → Nat → Nat} {k n : Nat} (h : k < n) (i j : Nat) (hi : i < n) : dvS g k (n - (k + 1)) i j = divG g k i j := by
  unfold dvS divG
  by_cases h1 : k < i ∧ j = k
  · rw [if_pos (by omega), if_pos h1]
  · rw [if_neg (by omega), if_neg h1]
theorem dvS_step {g : Nat → Nat → Nat} {k t : Nat} (i j : Nat) : updG (dvS g k t) (k + 1 + t) k (fdiv (dvS g k t (k + 1 + t) k) (g k k)) i j = dvS g k (t + 1) i j := by
  have e1 : dvS g k t (k + 1 + t) k = g (k + 1 + t) k := by unfold dvS; rw [if_neg (by omega)]
  rw [e1]
  unfold updG dvS
  by_cases h1 : i = k + 1 + t ∧ j = k
  · obtain ⟨rfl, rfl⟩ := h1
    rw [if_pos ⟨rfl, rfl⟩, if_pos (by omega)]
  · rw [if_neg h1]
    by_cases h2 : k < i ∧ i < k + 1 + t ∧ j = k
    · rw [if_pos h2, if_pos (by omega)]
    · rw [if_neg h2, if_neg (by omega)]
/-! ### a list that grows while others, too, have become -/
theorem gN_ne {l : List AV} (h : l ≠ []) : gN l = [l] := if_neg h
theorem set_last {α : Type} {A : List α} {x y : α} {i : Nat} (h : i = A.length) : (A ++ [x]).set i y = A ++ [y] := by
  subst h; rw [List.set_append_right _ _ (Nat.le_refl _)]; simp
theorem get_last {α : Type} {A : List α} {x : α} {i : Nat} (h : i = A.length) : (A ++ [x])[i]? = some x := by
  subst h; simp
end Go.Sx

set_option linter.unusedVariables false
set_option linter.unusedSimpArgs false
namespace Go.Sx
def gerG (g : Nat → Nat → Nat) (a : Nat) (xs ys : Nat → Nat) : Nat → Nat → Nat := fun i j => fadd (g i j) (fmul (fmul a (ys j)) (xs i))
def gerS (g : Nat → Nat → Nat) (a : Nat) (xs ys : Nat → Nat) (r t : Nat) : Nat → Nat → Nat := fun i j => if j * r + i < t then gerG g a xs ys i j else g i j
theorem gerS_zero {g : Nat → Nat → Nat} {a : Nat} {xs ys : Nat → Nat} {r : Nat} (i j : Nat) : gerS g a xs ys r 0 i j = g i j := by unfold gerS; rw [if_neg (by omega)]
theorem gerS_all {g : Nat → Nat → Nat} {a : Nat} {xs ys : Nat → Nat} {r c : Nat} (i j : Nat) (hi : i < r) (hj : j < c) : gerS g a xs ys r (c * r) i j = gerG g a xs ys i j := by
  unfold gerS; rw [if_pos (ix_lt hj hi)]
theorem gerS_at {g : Nat → Nat → Nat} {a : Nat} {xs ys : Nat → Nat} {r : Nat} (i j : Nat) : gerS g a xs ys r (j * r + i) i j = g i j := by unfold gerS; rw [if_neg (by omega)]
theorem gerS_step {g : Nat → Nat → Nat} {a : Nat} {xs ys : Nat → Nat} {r i j : Nat} (hi : i < r) (i' j' : Nat) (hi' : i' < r) : updG (gerS g a xs ys r (j * r + i)) i j (gerG g a xs ys i j) i' j' = gerS g a xs ys r (j * r + i + 1) i' j' := by
  unfold updG gerS
  by_cases h : i' = i ∧ j' = j
  · obtain ⟨rfl, rfl⟩ := h
    rw [if_pos ⟨rfl, rfl⟩, if_pos (by omega)]
  · rw [if_neg h]
    by_cases h2 : j' * r + i' < j * r + i
    · rw [if_pos h2, if_pos (by omega)]
    · rw [if_neg h2, if_neg]
      intro h3
      have h4 : j' * r + i' = j * r + i := by omega
      apply h
      have h5 := ix_mod (c := r) (i := j') hi'
      have h6 := ix_mod (c := r) (i := j) hi
      have h7 := ix_div (c := r) (i := j') hi'
      have h8 := ix_div (c := r) (i := j) hi
      rw [h4] at h5 h7
      exact ⟨by omega, by omega⟩
end Go.Sx

set_option linter.unusedVariables false
set_option linter.unusedSimpArgs false
namespace Go.Sx
/-! ### a square in a list of its own, column by column -/
theorem cm_good (g : Nat → Nat → Nat) (n : Nat) : GoodP (cmA g n n).length 0 (n : Int) (n : Int) ((max n 1 : Nat) : Int) := by
  have := dense_good n n []
  rw [denseL_len] at this
  simpa using this
theorem cm_MI {g : Nat → Nat → Nat} {n : Nat} (hn : n ≤ 64) : MI (cmA g n n).length 0 (n : Int) (n : Int) ((max n 1 : Nat) : Int) := by
  have := dense_MI n n hn hn []
  rw [denseL_len] at this
  simpa using this
theorem cmA_congr {g g' : Nat → Nat → Nat} {r c : Nat} (h : ∀ i j, i < r → j < c → g i j = g' i j) : cmA g r c = cmA g' r c := by
  unfold cmA
  refine rml_congr fun k hk => ?_
  have hr : 0 < r := by rcases Nat.eq_zero_or_pos r with h0 | h0; · subst h0; simp at hk
                        · exact h0
  exact h _ _ (Nat.mod_lt _ hr) (Nat.div_lt_of_lt_mul hk)
theorem pos_cm {n i j : Nat} (hn : 0 < n) : pos 0 ((max n 1 : Nat) : Int) i j = i + j * n := by
  unfold pos
  rw [show max n 1 = n by omega, ← Int.natCast_mul]
  omega
theorem cm_idx {n i j : Nat} (hi : i < n) (hj : j < n) : i + j * n < n * n := by
  have := ix_lt hj hi; omega
theorem cmA_get {g : Nat → Nat → Nat} {n i j : Nat} (hi : i < n) (hj : j < n) : (cmA g n n).getD (i + j * n) 0 = g i j := by
  rw [cmA, rml_get (cm_idx hi hj), Nat.add_comm, ix_mod hi, ix_div hi]
theorem mel_cm {g : Nat → Nat → Nat} {n i j : Nat} (hi : i < n) (hj : j < n) : mel (cmA g n n) 0 ((max n 1 : Nat) : Int) i j = g i j := by
  rw [mel_pos, pos_cm (by omega), cmA_get hi hj]
theorem setM_cm {g g' : Nat → Nat → Nat} {n : Nat} : setM (cmA g n n) 0 ((max n 1 : Nat) : Int) n n g' = cmA g' n n := by
  unfold setM cmA
  rw [rml_len]
  refine rml_congr fun p hp => ?_
  have hn : 0 < n := by rcases Nat.eq_zero_or_pos n with h0 | h0; · subst h0; simp at hp
                        · exact h0
  have e : p = pos 0 ((max n 1 : Nat) : Int) (p % n) (p / n) := by
    rw [pos_cm hn]; have := Nat.div_add_mod p n; rw [Nat.mul_comm] at this; omega
  have hl := loc_pos (cm_good g n) (i := p % n) (j := p / n) (Nat.mod_lt _ hn) (Nat.div_lt_of_lt_mul hp)
  rw [← e] at hl
  rw [hl]
theorem colK_congr {g g' : Nat → Nat → Nat} {k n : Nat} (h : ∀ i j, i < n → j < n → g i j = g' i j) (hk : k < n) : colK g k n = colK g' k n := by
  unfold colK
  exact rml_congr fun i hi => h _ _ (by omega) hk
theorem pvK_congr {g g' : Nat → Nat → Nat} {k n : Nat} (h : ∀ i j, i < n → j < n → g i j = g' i j) (hk : k < n) : pvK g k n = pvK g' k n := by
  unfold pvK; rw [colK_congr h hk]
theorem swK_congr {g g' : Nat → Nat → Nat} {k n : Nat} (h : ∀ i j, i < n → j < n → g i j = g' i j) (hk : k < n) (i j : Nat) (hi : i < n) (hj : j < n) : swK g k n i j = swK g' k n i j := by
  unfold swK
  rw [pvK_congr h hk]
  have := pvK_lt (g := g') hk
  unfold swpG
  split
  · exact h _ _ this hj
  · split
    · exact h _ _ hk hj
    · exact h _ _ hi hj
theorem divG_congr {g g' : Nat → Nat → Nat} {k n : Nat} (h : ∀ i j, i < n → j < n → g i j = g' i j) (hk : k < n) (i j : Nat) (hi : i < n) (hj : j < n) : divG g k i j = divG g' k i j := by
  unfold divG
  rw [h _ _ hi hk, h _ _ hk hk, h _ _ hi hj]
theorem ger_part {h : Nat → Nat → Nat} {k n : Nat} {off : Int} (ho : off = 0 + (((k + 1 : Nat) : Int) + ((k + 1 : Nat) : Int) * ((max n 1 : Nat) : Int))) (i j : Nat) (hi : i < n) (hj : j < n) (hk : k < n) :
    partG (mel (cmA h n n) 0 ((max n 1 : Nat) : Int)) (gerG (mel (cmA h n n) off ((max n 1 : Nat) : Int)) negOne (fun i => h (k + 1 + i) k) (fun j => h k (k + 1 + j))) (k + 1) (k + 1) (n - (k + 1)) (n - (k + 1)) i j = subG h k i j := by
  subst ho
  unfold partG subG
  by_cases hc : k < i ∧ k < j
  · rw [if_pos (by omega), if_pos hc]
    simp only [gerG]
    rw [mel_part, mel_cm (by omega) (by omega), show k + 1 + (i - (k + 1)) = i by omega, show k + 1 + (j - (k + 1)) = j by omega]
    exact ger_step
  · rw [if_neg (by omega), if_neg hc, mel_cm hi hj]
theorem part_good {m : Nat} {off ld : Int} {r c i0 j0 r' c' : Nat} (hG : GoodP m off r c ld) (hi : i0 + r' ≤ r) (hj : j0 + c' ≤ c) (hr : 0 < r') (hc : 0 < c') : GoodP m (off + ((i0 : Int) + (j0 : Int) * ld)) r' c' ld := by
  have h1 := good_place hG (i := ((i0 + (r' - 1) : Nat) : Int)) (j := ((j0 + (c' - 1) : Nat) : Int)) (by omega) (by omega) (by omega) (by omega)
  have h2 := good_place hG (i := (i0 : Int)) (j := (j0 : Int)) (by omega) (by omega) (by omega) (by omega)
  obtain ⟨g1, g2, g3, g4, g5, g6⟩ := hG
  have e : ((j0 + (c' - 1) : Nat) : Int) * ld = (j0 : Int) * ld + ((c' : Int) - 1) * ld := by
    rw [← Int.add_mul]; congr 1; omega
  have h3 : 0 ≤ ((c' : Int) - 1) * ld := Int.mul_nonneg (by omega) (by omega)
  refine ⟨by omega, by omega, by omega, g4, by omega, .inr (.inr ⟨by omega, by omega, by omega⟩)⟩
theorem part_MI {m : Nat} {off ld : Int} {r c i0 j0 r' c' : Nat} (hI : MI m off r c ld) (hG : GoodP m off r c ld) (hi : i0 + r' ≤ r) (hj : j0 + c' ≤ c) (hr : 0 < r') (hc : 0 < c') : MI m (off + ((i0 : Int) + (j0 : Int) * ld)) r' c' ld := by
  have h2 := good_place hG (i := (i0 : Int)) (j := (j0 : Int)) (by omega) (by omega) (by omega) (by omega)
  obtain ⟨h1, ho1, ho2, hr1, hr2, hc1, hc2, hl1, hl2⟩ := hI
  refine ⟨h1, by omega, by omega, by omega, by omega, by omega, by omega, hl1, hl2⟩
/-! ### what the loop leaves behind -/
def lcK (g : Nat → Nat → Nat) (k n : Nat) : List Nat := rml (fun i => g (k + 1 + i) k) (n - (k + 1))
def urK (g : Nat → Nat → Nat) (k t : Nat) : List Nat := rml (fun j => g k (k + 1 + j)) t
def gbK (g : Nat → Nat → Nat) (n : Nat) : Nat → List (List AV)
  | 0 => []
  | k + 1 => gbK g n k ++ [fl (lcK (divG (swK (stG g n k) k n) k) k n), fl (urK (divG (swK (stG g n k) k n) k) k (n - (k + 1)))]
theorem gbK_len (g : Nat → Nat → Nat) (n k : Nat) : (gbK g n k).length = 2 * k := by
  induction k with
  | zero => rfl
  | succ k ih => simp [gbK, ih]; omega
@[simp] theorem lcK_len (g : Nat → Nat → Nat) (k n : Nat) : (lcK g k n).length = n - (k + 1) := by simp [lcK]
@[simp] theorem urK_len (g : Nat → Nat → Nat) (k t : Nat) : (urK g k t).length = t := by simp [urK]
theorem il_ne {l : List Int} (h : l ≠ []) : il l ≠ [] := by simpa [il] using h
theorem gN_pv (g : Nat → Nat → Nat) (n k : Nat) : gN (il (pvL g n (k + 1))) = [il (pvL g n (k + 1))] := gN_ne (il_ne (by rw [pvL_succ]; simp))
theorem b_growG {P : Program} {cfg : Cfg} {e : List (Nat × EV)} {L : List (Nat × List AV)} {K : St → Prop} {ty : TypeId} {pos : String} {aft : Array Edge} {gd : Option (Nat × Bool)} {dd : Nat}
    {t tx : TypeId} {s x : Operand} {n i k by_ el' z' : Nat} {z v : AV} {l l' : List AV} {A N₀ G : List (List AV)} [ei : EI P t 1 by_ [z]] [si : SlI P tx el' z'] (hs : St.ev ⟨e, L, A ++ (N₀ ++ (gN l ++ G))⟩ s = .val (gV n i k)) (hx : St.ev ⟨e, L, A ++ (N₀ ++ (gN l ++ G))⟩ x = .val (.sl none 1 [v]))
    (hA : A.length = n) (hi : N₀.length = i) (hk : l.length = k) (hG : k = 0 → G = []) (hm : k + 1 ≤ 2 ^ 32) (hn : cfg.n0 = n) (hz : (decide (by_ ≤ 2 ^ 10) && decide (0 < by_)) = true) (hl : l ++ [v] = l')
    (h : K ⟨(dd, .val (gV n i (k + 1))) :: e, L, A ++ (N₀ ++ (gN l' ++ G))⟩) :
    opX P cfg ⟨some dd, .call { callee := .builtin .append, args := #[s, x], argTypes := #[t, tx] }, ty, pos, aft, gd⟩ K ⟨e, L, A ++ (N₀ ++ (gN l ++ G))⟩ := by
  cases l with
  | nil =>
    simp only [List.length_nil] at hk; subst hk
    have hG' := hG rfl
    subst hG'
    simp only [List.append_nil] at hs hx h ⊢
    exact b_grow hs hx hA hi rfl hm hn hz hl h
  | cons a l =>
    subst hl
    have e1 : gV n i (k + 1) = .slm (n + i) (k + 1) 0 (k + 1) 1 := by simp [gV]
    have e2 : gN (a :: l ++ [v]) = [a :: l ++ [v]] := by simp [gN]
    rw [e1, e2] at h
    have hk0 : k ≠ 0 := by simp at hk; omega
    have e3 : gV n i k = .slm (n + i) k 0 k 1 := by simp [gV, hk0]
    have e4 : gN (a :: l) = [a :: l] := by simp [gN]
    rw [e3] at hs
    rw [e4] at hs hx ⊢
    subst hi
    exact b_appN (cs := a :: l) (xs := [v]) (m := 1) hs hx hA (by simp) (src_fz rfl) hk rfl hm (.inl (by omega)) hz rfl (by simp) (by simp at hk ⊢; omega) rfl h
theorem gV_frG {n i k : Nat} {l : List AV} {A N₀ G : List (List AV)} (hA : A.length = n) (hi : N₀.length = i) (hk : l.length = k) (hm : mxL l ≤ n) : Fr n [] (A ++ (N₀ ++ (gN l ++ G))) (gV n i k) (.sl none k l) := by
  cases l with
  | nil =>
    simp only [List.length_nil] at hk; subst hk
    simp only [gV, if_true]; exact Fr.nil
  | cons a l =>
    have hk0 : k ≠ 0 := by simp at hk; omega
    simp only [gV, if_neg hk0]
    have : (A ++ (N₀ ++ (gN (a :: l) ++ G)))[n + i]? = some (a :: l) := by
      refine hg_new hA ?_
      subst hi; simp [gN]
    exact Fr.fz (by omega) (by simp) this hk (gc_all _ (by rw [hk]; omega)) (Frs.old hm)
theorem col_slice {h : Nat → Nat → Nat} {k n : Nat} (hk : k < n) : ((cmA h n n).drop (k * n + (k + 1))).take (n - (k + 1)) = lcK h k n := by
  have hkn : k * n + n ≤ n * n := by
    have := Nat.mul_le_mul_right n (show k + 1 ≤ n by omega)
    rw [Nat.add_mul] at this; omega
  apply List.ext_getElem
  · simp; omega
  · intro i h1 h2
    have hi : i < n - (k + 1) := by simpa using h2
    have e := cmA_get (g := h) (i := k + 1 + i) (j := k) (n := n) (by omega) hk
    have hl : k * n + (k + 1) + i < (cmA h n n).length := by simp; omega
    rw [show k + 1 + i + k * n = k * n + (k + 1) + i by omega, List.getD_eq_getElem?_getD, List.getElem?_eq_getElem hl] at e
    simp only [List.getElem_take, List.getElem_drop, lcK, rml, List.getElem_map, List.getElem_range]
    simpa using e
theorem slc_slm {id g q lo hi m : Nat} (hm : 0 < m) (h : hi = lo + m) : slcV 1 lo hi (.slm id g 0 q 1) = some (.slm id g lo m 1) := by
  subst h
  simp only [slcV, if_true]
  rw [if_pos (by omega)]
  simp
end Go.Sx

set_option linter.unusedVariables false
set_option linter.unusedSimpArgs false
namespace Go.Sx
/-! ### pivots -/
def pivP (p : List Int) : Prop := ∀ k, k < p.length → ((k : Int) ≤ p.getD k 0 ∧ p.getD k 0 < p.length)
instance (p : List Int) : Decidable (pivP p) := by unfold pivP; infer_instance
theorem first_bad (q : Nat → Prop) [DecidablePred q] : ∀ n, ∃ N, N ≤ n ∧ (∀ k, k < N → q k) ∧ (N < n → ¬ q N)
  | 0 => ⟨0, Nat.le_refl _, fun k hk => by omega, fun h => by omega⟩
  | n + 1 => by
    obtain ⟨N, h1, h2, h3⟩ := first_bad q n
    by_cases h : N < n
    · exact ⟨N, by omega, h2, fun _ => h3 h⟩
    · have : N = n := by omega
      subst this
      by_cases hq : q N
      · exact ⟨N + 1, Nat.le_refl _, fun k hk => by rcases Nat.lt_succ_iff_lt_or_eq.1 hk with h | h; exact h2 k h; exact h ▸ hq, fun h => by omega⟩
      · exact ⟨N, by omega, h2, fun _ => hq⟩
theorem eq_of_getI {la lb : List Int} (hl : la.length = lb.length) (h : ∀ k, k < la.length → la.getD k 0 = lb.getD k 0) : la = lb := by
  apply List.ext_getElem hl
  intro i h1 h2
  have := h i h1
  simpa [List.getD, h1, h2] using this
theorem pvL_get {g : Nat → Nat → Nat} {n m k : Nat} (hk : k < m) : (pvL g n m).getD k 0 = (pvK (stG g n k) k n : Int) := by
  simp [pvL, List.getD, hk]
theorem pvL_piv (g : Nat → Nat → Nat) (n : Nat) : pivP (pvL g n n) := by
  intro k hk
  simp only [pvL_len] at hk ⊢
  rw [pvL_get hk]
  have h1 := pvK_lt (g := stG g n k) hk
  have h2 := pvK_ge (g := stG g n k) (k := k) (n := n)
  omega
theorem of_cm {g : Nat → Nat → Nat} {n : Nat} : rmA (mel (cmA g n n) 0 ((max n 1 : Nat) : Int)) n n = rmA g n n := rmA_congr fun i j hi hj => mel_cm hi hj
end Go.Sx

set_option linter.unusedVariables false
set_option linter.unusedSimpArgs false
namespace Go.Sx
/-- have two stretches a place in common? -/
def SpansP (a b c d : Int) : Prop := a ≤ b ∧ c ≤ d ∧ a ≤ d ∧ c ≤ b
instance (a b c d : Int) : Decidable (SpansP a b c d) := by unfold SpansP; infer_instance
end Go.Sx

set_option linter.unusedVariables false
set_option linter.unusedSimpArgs false
namespace Go.Sx
/-! ### numbers that are cut -/
/-- the cuts, as they are gathered -/
def cI (n m k : Nat) : List Int := (n : Int) :: (List.range k).map fun i => ((i * m : Nat) : Int)
def okB (n : Nat) (x : Int) : Bool := decide (0 ≤ x ∧ x ≤ n)
def cM (n m K : Nat) (more : List Int) (j : Nat) : List Int := cI n m K ++ (more.take j).filter (okB n)
end Go.Sx
namespace Go.Sx
/-! ### facts that the walks want -/
@[simp] theorem cI_len (n m k : Nat) : (cI n m k).length = k + 1 := by simp [cI]
end Go.Sx
namespace Go.Sx
end Go.Sx

set_option linter.unusedVariables false
set_option linter.unusedSimpArgs false
/-! ### the document's exact numbers: digits of 16 bits at their places -/
namespace Go.Sx
structure DV where
  neg : Bool
  l : List Int
  e : Int
/-- what a list of digits is worth, the first one least -/
def valL : List Int → Int
  | [] => 0
  | d :: l => d + 65536 * valL l
def Digs (l : List Int) : Prop := ∀ d ∈ l, 0 ≤ d ∧ d < 65536
theorem valL_app (l m : List Int) : valL (l ++ m) = valL l + 65536 ^ l.length * valL m := by
  induction l with
  | nil => simp [valL]
  | cons d l ih => simp only [List.cons_append, valL, ih, List.length_cons, Int.pow_succ]; rw [Int.mul_add, ← Int.mul_assoc, Int.mul_comm 65536 (65536 ^ l.length)]; omega
theorem valL_nonneg {l : List Int} (h : Digs l) : 0 ≤ valL l := by
  induction l with
  | nil => simp [valL]
  | cons d l ih =>
    have h1 := h d (by simp)
    have h2 := ih fun x hx => h x (by simp [hx])
    simp only [valL]; omega
theorem valL_zero {l : List Int} (h : Digs l) : valL l = 0 ↔ ∀ d ∈ l, d = 0 := by
  induction l with
  | nil => simp [valL]
  | cons d l ih =>
    have h1 := h d (by simp)
    have hd : Digs l := fun x hx => h x (by simp [hx])
    have h2 := valL_nonneg hd
    have h3 := ih hd
    simp only [valL, List.mem_cons, forall_eq_or_imp]
    constructor
    · intro hz; exact ⟨by omega, h3.1 (by omega)⟩
    · rintro ⟨rfl, hz⟩; rw [h3.2 hz]; rfl
theorem valL_lt {l : List Int} (h : Digs l) : valL l < 65536 ^ l.length := by
  induction l with
  | nil => simp [valL]
  | cons d l ih =>
    have h1 := h d (by simp)
    have h2 := ih fun x hx => h x (by simp [hx])
    simp only [valL, List.length_cons, Int.pow_succ]; omega
def cutL (l : List Int) (a b : Nat) : List Int := (l.drop a).take (l.length - a - b)
@[simp] theorem cutL_len (l : List Int) (a b : Nat) : (cutL l a b).length = l.length - a - b := by simp only [cutL, List.length_take, List.length_drop]; omega
theorem all_zero {l : List Int} (h : ∀ k, k < l.length → l.getD k 0 = 0) : ∀ d ∈ l, d = 0 := by
  intro d hd
  obtain ⟨j, hj, rfl⟩ := List.mem_iff_getElem.1 hd
  have := h j hj
  simpa [List.getD, hj] using this
theorem valL_all0 {l : List Int} (h : ∀ d ∈ l, d = 0) : valL l = 0 := by
  induction l with
  | nil => rfl
  | cons d l ih => simp only [valL]; rw [h d (by simp), ih fun x hx => h x (by simp [hx])]; rfl
theorem valL_cut {l : List Int} {a b : Nat} (hab : a + b ≤ l.length) (ha : ∀ k, k < a → l.getD k 0 = 0) (hb : ∀ k, k < b → l.getD (l.length - 1 - k) 0 = 0) : valL l = 65536 ^ a * valL (cutL l a b) := by
  have e1 : l = l.take a ++ (cutL l a b ++ (l.drop a).drop (l.length - a - b)) := by
    unfold cutL; rw [List.take_append_drop, List.take_append_drop]
  have z1 : valL (l.take a) = 0 := valL_all0 (all_zero fun k hk => by
    have : k < a := by simp at hk; omega
    have h0 := ha k this
    simpa [List.getD, List.getElem?_take, this] using h0)
  have z2 : valL ((l.drop a).drop (l.length - a - b)) = 0 := valL_all0 (all_zero fun k hk => by
    simp only [List.length_drop] at hk
    have h1 := hb (l.length - 1 - (a + (l.length - a - b) + k)) (by omega)
    rw [← h1]
    simp only [List.getD, List.getElem?_drop]
    congr 2; omega)
  have hl : (l.take a).length = a := by simp; omega
  conv => lhs; rw [e1]
  rw [valL_app, valL_app, z1, z2, hl]
  simp
/-- without noughts at both ends -/
structure Strip (l : List Int) (a b : Nat) : Prop where
  lt : a + b < l.length
  fst : ∀ k, k < a → l.getD k 0 = 0
  fne : l.getD a 0 ≠ 0
  lst : ∀ k, k < b → l.getD (l.length - 1 - k) 0 = 0
  lne : l.getD (l.length - 1 - b) 0 ≠ 0
end Go.Sx

set_option linter.unusedVariables false
set_option linter.unusedSimpArgs false
/-! ### what 'Made' hands back -/
namespace Go.Sx
def lead : List Int → Nat
  | [] => 0
  | d :: l => if d = 0 then lead l + 1 else 0
theorem lead_le (l : List Int) : lead l ≤ l.length := by
  induction l with
  | nil => simp [lead]
  | cons d l ih => simp only [lead, List.length_cons]; split <;> omega
theorem lead_z (l : List Int) : ∀ k, k < lead l → l.getD k 0 = 0 := by
  induction l with
  | nil => intro k h; simp [lead] at h
  | cons d l ih =>
    intro k h
    simp only [lead] at h
    split at h
    · rename_i hd
      cases k with
      | zero => simpa using hd
      | succ k => simpa using ih k (by omega)
    · omega
theorem lead_nz (l : List Int) (h : lead l ≠ l.length) : l.getD (lead l) 0 ≠ 0 := by
  induction l with
  | nil => simp [lead] at h
  | cons d l ih =>
    simp only [lead, List.length_cons] at h ⊢
    split
    · rename_i hd
      rw [if_pos hd] at h
      simpa using ih (by omega)
    · simpa using ‹¬ d = 0›
theorem getD_rev (l : List Int) {k : Nat} (h : k < l.length) : l.reverse.getD k 0 = l.getD (l.length - 1 - k) 0 := by
  simp only [List.getD]; rw [List.getElem?_reverse h]
theorem lead_strip {l : List Int} (h : lead l ≠ l.length) : Strip l (lead l) (lead l.reverse) := by
  have h0 := lead_le l
  have h1 := lead_nz l h
  have h2 := lead_le l.reverse
  rw [List.length_reverse] at h2
  have hr : lead l.reverse ≤ l.length - 1 - lead l := Nat.le_of_not_lt fun hh => by
    have := lead_z l.reverse (l.length - 1 - lead l) hh
    rw [getD_rev _ (by omega), show l.length - 1 - (l.length - 1 - lead l) = lead l by omega] at this
    exact h1 this
  have hne : lead l.reverse ≠ l.reverse.length := by rw [List.length_reverse]; omega
  refine ⟨by omega, lead_z l, h1, fun k hk => ?_, ?_⟩
  · rw [← getD_rev _ (by omega)]; exact lead_z _ k hk
  · rw [← getD_rev _ (by omega)]; exact lead_nz _ hne
def mk (l : List Int) : List Int := cutL l (lead l) (lead l.reverse)
def mn (neg : Bool) (l : List Int) : Bool := if lead l = l.length then false else neg
def me (e : Int) (l : List Int) : Int := if lead l = l.length then 0 else e + lead l
def mD (neg : Bool) (l : List Int) (e : Int) : DV := ⟨mn neg l, mk l, me e l⟩
def msl (n i : Nat) (l : List Int) : AV := if lead l = l.length then .slnil else .slm (n + i) l.length (lead l) (l.length - lead l - lead l.reverse) 1
def mR (neg : Bool) (n i : Nat) (l : List Int) (e : Int) : AV := .agg [.bool (mn neg l), msl n i l, .int .i64 (me e l)]
def dV (d : DV) : AV := .agg [.bool d.neg, .sl none d.l.length (il d.l), .int .i64 d.e]
theorem mk_nil {l : List Int} (h : lead l = l.length) : mk l = [] := by
  unfold mk cutL; rw [h]; simp
theorem il_take (l : List Int) (k : Nat) : (il l).take k = il (l.take k) := by simp [il, List.map_take]
theorem il_drop (l : List Int) (k : Nat) : (il l).drop k = il (l.drop k) := by simp [il, List.map_drop]
theorem msl_fr {n i : Nat} {l : List Int} {A N : List (List AV)} (hA : A.length = n) (hj : l ≠ [] → N[i]? = some (il l)) : Fr n [] (A ++ N) (msl n i l) (.sl none (mk l).length (il (mk l))) := by
  unfold msl
  split
  · rename_i h
    rw [mk_nil h]; exact Fr.nil
  · rename_i h
    have hs := lead_strip h
    have hlt := hs.lt
    have hne : l ≠ [] := by rintro rfl; exact absurd hs.lt (by simp)
    have hm : (mk l).length = l.length - lead l - lead l.reverse := by simp [mk]
    rw [hm]
    refine Fr.fz (cs := il l) (by omega) (by simp) (hg_new hA (hj hne)) (by simp) ?_ (Frs.old (by rw [mxL_il]; exact Nat.zero_le _))
    have : il (mk l) = ((il l).drop (lead l)).take (l.length - lead l - lead l.reverse) := by unfold mk cutL; rw [il_drop, il_take]
    rw [this]
    rw [Nat.mul_one]; exact gc_take _ _ _ (by simp; omega)
theorem mR_fr {neg : Bool} {n i : Nat} {l : List Int} {e : Int} {A N : List (List AV)} (hA : A.length = n) (hj : l ≠ [] → N[i]? = some (il l)) : Fr n [] (A ++ N) (mR neg n i l e) (dV (mD neg l e)) :=
  Fr.agg (Frs.cons (Fr.old (by simp [mx])) (Frs.cons (msl_fr hA hj) (Frs.old (by simp [mxL, mx]))))
end Go.Sx

set_option linter.unusedVariables false
set_option linter.unusedSimpArgs false
/-! ### sums of digits -/
namespace Go.Sx
def vS (f : Nat → Int) : Nat → Int
  | 0 => 0
  | n + 1 => vS f n + 65536 ^ n * f n
def mL (f : Nat → Int) (n : Nat) : List Int := (List.range n).map f
@[simp] theorem mL_len (f : Nat → Int) (n : Nat) : (mL f n).length = n := by simp [mL]
theorem mL_succ (f : Nat → Int) (n : Nat) : mL f (n + 1) = mL f n ++ [f n] := by simp [mL, List.range_succ]
theorem mL_getD (f : Nat → Int) {n k : Nat} (h : k < n) : (mL f n).getD k 0 = f k := by simp [mL, List.getD, h]
theorem mL_congr {f g : Nat → Int} {n : Nat} (h : ∀ j, j < n → f j = g j) : mL f n = mL g n := by
  unfold mL; exact List.map_congr_left fun j hj => h j (List.mem_range.1 hj)
theorem mL_set (f : Nat → Int) (n k : Nat) (x : Int) : (mL f n).set k x = mL (fun j => if j = k then x else f j) n := by
  apply List.ext_getElem
  · simp
  · intro i h1 h2
    simp only [mL, List.getElem_set, List.getElem_map, List.getElem_range]
    by_cases h : k = i
    · subst h; simp
    · rw [if_neg h, if_neg (fun hh => h hh.symm)]
theorem valL_mL (f : Nat → Int) (n : Nat) : valL (mL f n) = vS f n := by
  induction n with
  | zero => rfl
  | succ n ih => rw [mL_succ, valL_app, ih, mL_len]; simp [vS, valL]
theorem mL_of (l : List Int) : mL (fun j => l.getD j 0) l.length = l := by
  apply List.ext_getElem
  · simp
  · intro i h1 h2
    simp [mL, List.getD, h2]
theorem vS_val (l : List Int) : vS (fun j => l.getD j 0) l.length = valL l := by rw [← valL_mL, mL_of]
theorem vS_congr {f g : Nat → Int} {n : Nat} (h : ∀ j, j < n → f j = g j) : vS f n = vS g n := by
  induction n with
  | zero => rfl
  | succ n ih => simp only [vS]; rw [ih fun j hj => h j (by omega), h n (by omega)]
theorem vS_add (f g : Nat → Int) (n : Nat) : vS (fun j => f j + g j) n = vS f n + vS g n := by
  induction n with
  | zero => rfl
  | succ n ih => simp only [vS, ih]; grind
theorem vS_sub (f g : Nat → Int) (n : Nat) : vS (fun j => f j - g j) n = vS f n - vS g n := by
  induction n with
  | zero => rfl
  | succ n ih => simp only [vS, ih]; grind
theorem vS_mul (c : Int) (f : Nat → Int) (n : Nat) : vS (fun j => c * f j) n = c * vS f n := by
  induction n with
  | zero => simp [vS]
  | succ n ih => simp only [vS, ih]; grind
theorem vS_nonneg {f : Nat → Int} {n : Nat} (h : ∀ j, j < n → 0 ≤ f j) : 0 ≤ vS f n := by
  induction n with
  | zero => simp [vS]
  | succ n ih =>
    simp only [vS]
    have h1 := ih fun j hj => h j (by omega)
    have h2 : (0 : Int) ≤ 65536 ^ n := Int.pow_nonneg (by omega)
    have := Int.mul_nonneg h2 (h n (by omega))
    omega
theorem vS_lt {f : Nat → Int} {n : Nat} (h : ∀ j, j < n → f j < 65536) : vS f n < 65536 ^ n := by
  induction n with
  | zero => simp [vS]
  | succ n ih =>
    simp only [vS, Int.pow_succ]
    have h1 := ih fun j hj => h j (by omega)
    have h2 : (0 : Int) ≤ 65536 ^ n := Int.pow_nonneg (by omega)
    have := Int.mul_le_mul_of_nonneg_left (show f n ≤ 65535 by have := h n (by omega); omega) h2
    omega
/-- what is carried -/
theorem vS_carry {f x c : Nat → Int} {n : Nat} (h : ∀ j, j < n → f j + 65536 * c (j + 1) = x j + c j) : vS f n + 65536 ^ n * c n = vS x n + c 0 := by
  induction n with
  | zero => simp [vS]
  | succ n ih =>
    have h1 := ih fun j hj => h j (by omega)
    have h2 := h n (by omega)
    simp only [vS, Int.pow_succ]
    have h3 : 65536 ^ n * (f n + 65536 * c (n + 1)) = 65536 ^ n * (x n + c n) := by rw [h2]
    grind
theorem vS_zero {f : Nat → Int} {n : Nat} (h : ∀ j, j < n → f j = 0) : vS f n = 0 := by
  induction n with
  | zero => rfl
  | succ n ih => simp only [vS]; rw [ih fun j hj => h j (by omega), h n (by omega)]; simp
/-- digits behind others -/
theorem vS_app (f : Nat → Int) (a n : Nat) : vS f (a + n) = vS f a + 65536 ^ a * vS (fun j => f (a + j)) n := by
  induction n with
  | zero => simp [vS]
  | succ n ih =>
    rw [← Nat.add_assoc]
    simp only [vS, ih, Int.pow_add]
    grind
/-! the digits of a number at its places -/
def dg (d : DV) (p : Int) : Int := if p < d.e ∨ d.e + d.l.length ≤ p then 0 else d.l.getD (p - d.e).toNat 0
theorem dg_vS {d : DV} {F : Int} {N : Nat} (h1 : d.l ≠ [] → F ≤ d.e) (h2 : d.l ≠ [] → d.e + d.l.length ≤ F + N) (hne : d.l ≠ []) : vS (fun j => dg d (F + j)) N = 65536 ^ (d.e - F).toNat * valL d.l := by
  have h1 := h1 hne
  have h2 := h2 hne
  obtain ⟨a, ha⟩ : ∃ a : Nat, (d.e - F) = a := ⟨(d.e - F).toNat, by omega⟩
  obtain ⟨t, ht⟩ : ∃ t : Nat, N = a + (d.l.length + t) := ⟨N - a - d.l.length, by omega⟩
  subst ht
  rw [vS_app, vS_app, ← vS_val, vS_zero (n := a), vS_zero (n := t), ha, Int.toNat_natCast]
  · rw [Int.mul_zero, Int.add_zero, Int.zero_add]
    congr 1
    refine vS_congr fun j hj => ?_
    unfold dg
    rw [if_neg (by omega)]
    congr 1; omega
  · intro j hj; unfold dg; rw [if_pos (by omega)]
  · intro j hj; unfold dg; rw [if_pos (by omega)]
theorem dg_vS0 {d : DV} {F : Int} {N : Nat} (h : d.l = []) : vS (fun j => dg d (F + j)) N = 0 := by
  refine vS_zero fun j hj => ?_
  unfold dg; rw [h]; simp
theorem dg_range {d : DV} (h : Digs d.l) (p : Int) : 0 ≤ dg d p ∧ dg d p < 65536 := by
  unfold dg
  split
  · omega
  · have hk : (p - d.e).toNat < d.l.length := by omega
    have := h (d.l.getD (p - d.e).toNat 0) (by simp [List.getD, hk])
    exact this
/-! 'Whole' -/
def wN (m : Nat) : Nat := if m = 0 then 0 else if m < 65536 then 1 else if m < 65536 ^ 2 then 2 else if m < 65536 ^ 3 then 3 else 4
def wF (m : Nat) (j : Nat) : Int := ((m / 65536 ^ j % 65536 : Nat) : Int)
theorem wN_T {m : Nat} (hm : m < 65536 ^ 4) : m / 65536 ^ wN m = 0 := by
  rw [Nat.div_eq_zero_iff]
  refine .inr ?_
  unfold wN
  repeat' split
  all_goals omega
theorem wN_F {m k : Nat} (h : k < wN m) : 0 < m / 65536 ^ k := by
  refine Nat.div_pos ?_ (Nat.pow_pos (by omega))
  unfold wN at h
  have hk : k = 0 ∨ k = 1 ∨ k = 2 ∨ k = 3 := by repeat' split at h
                                                all_goals omega
  rcases hk with rfl | rfl | rfl | rfl <;> (repeat' split at h) <;> omega
theorem wN_le (m : Nat) : wN m ≤ 4 := by unfold wN; repeat' split
                                         all_goals omega
theorem w_step (m k : Nat) : m / 65536 ^ k / 65536 = m / 65536 ^ (k + 1) := by rw [Nat.div_div_eq_div_mul, Nat.pow_succ]
theorem w_val {m : Nat} (hm : m < 65536 ^ 4) : valL (mL (wF m) (wN m)) = (m : Int) := by
  rw [valL_mL]
  have : ∀ k, vS (wF m) k + 65536 ^ k * ((m / 65536 ^ k : Nat) : Int) = (m : Int) := fun k => by
    induction k with
    | zero => simp [vS]
    | succ k ih =>
      simp only [vS, wF, Int.pow_succ]
      rw [← w_step]
      have h := Nat.div_add_mod (m / 65536 ^ k) 65536
      generalize m / 65536 ^ k = q at h ih
      have h' : (65536 : Int) * ((q / 65536 : Nat) : Int) + ((q % 65536 : Nat) : Int) = (q : Int) := by omega
      rw [← h'] at ih
      grind
  have h := this (wN m)
  rw [wN_T hm] at h
  simpa using h
theorem w_digs (m n : Nat) : Digs (mL (wF m) n) := by
  intro d hd
  simp only [mL, List.mem_map] at hd
  obtain ⟨j, _, rfl⟩ := hd
  unfold wF; omega
/-! 'Shift' -/
def shD (l : List Int) (p : Int) (k i : Nat) : Int := (if 0 < i ∧ i ≤ k then l.getD (i - 1) 0 * p / 65536 else 0) + (if i < k then l.getD i 0 * p % 65536 else 0)
theorem shD_zero (l : List Int) (p : Int) (i : Nat) : shD l p 0 i = 0 := by unfold shD; rw [if_neg (by omega), if_neg (by omega)]; rfl
theorem shD_step (l : List Int) (p : Int) (n k : Nat) (x : Int) (hx : x = l.getD k 0 * p) : (((mL (shD l p k) n).set k (shD l p k k + x % 65536)).set (k + 1) (x / 65536)) = mL (shD l p (k + 1)) n := by
  subst hx
  rw [mL_set, mL_set]
  refine mL_congr fun j _ => ?_
  by_cases h1 : j = k + 1
  · subst h1; simp [shD]
  · rw [if_neg h1]
    by_cases h2 : j = k
    · subst h2; simp [shD]
    · rw [if_neg h2]; unfold shD
      have e1 : (0 < j ∧ j ≤ k) ↔ (0 < j ∧ j ≤ k + 1) := by omega
      have e2 : j < k ↔ j < k + 1 := by omega
      simp only [e1, e2]
theorem s_val (l : List Int) (p : Int) : valL (mL (shD l p l.length) (l.length + 1)) = p * valL l := by
  rw [valL_mL, ← vS_val, ← vS_mul]
  have h := vS_carry (f := shD l p l.length) (x := fun j => p * l.getD j 0) (c := fun j => if 0 < j then l.getD (j - 1) 0 * p / 65536 else 0) (n := l.length) (fun j hj => by
    unfold shD
    simp only [Nat.succ_pos, if_true, Nat.add_sub_cancel, Nat.zero_lt_succ]
    rw [if_pos hj]
    have : (0 < j ∧ j ≤ l.length) ↔ 0 < j := by omega
    simp only [this]
    have h1 := Int.emod_add_mul_ediv (l.getD j 0 * p) 65536
    rw [Int.mul_comm p]
    omega)
  simp only [vS, Nat.lt_irrefl, if_false, Int.add_zero] at h ⊢
  rw [← h]
  congr 2
  unfold shD
  simp
theorem s_digs {l : List Int} (h : Digs l) {r : Nat} (hr : r < 16) (k n : Nat) (hk : k ≤ l.length) : Digs (mL (shD l ((2 ^ r : Nat) : Int) k) n) := by
  have hd : ∀ j, 0 ≤ l.getD j 0 ∧ l.getD j 0 < 65536 := fun j => by
    by_cases hj : j < l.length
    · exact h _ (by simp [List.getD, hj])
    · simp [List.getD, Nat.not_lt.1 hj]
  obtain ⟨s, hs⟩ : ∃ s : Nat, (2 : Nat) ^ r * s = 65536 ∧ 0 < s := ⟨2 ^ (16 - r), by rw [← Nat.pow_add, show r + (16 - r) = 16 by omega], Nat.two_pow_pos _⟩
  have hp : 0 < 2 ^ r := Nat.two_pow_pos r
  generalize hP : ((2 ^ r : Nat) : Int) = p
  have hp' : 0 < p := by omega
  have hs' : p * (s : Int) = 65536 := by rw [← hP, ← Int.natCast_mul, hs.1]; rfl
  have hi : ∀ d : Int, 0 ≤ d → d < 65536 → 0 ≤ d * p / 65536 ∧ d * p / 65536 < p := fun d h1 h2 => by
    refine ⟨Int.ediv_nonneg (Int.mul_nonneg h1 (by omega)) (by omega), ?_⟩
    rw [Int.ediv_lt_iff_lt_mul (by omega), Int.mul_comm]
    exact Int.mul_lt_mul_of_pos_left h2 hp'
  have lo : ∀ d : Int, 0 ≤ d * p % 65536 ∧ d * p % 65536 ≤ 65536 - p := fun d => by
    have e : d * p % 65536 = p * (d % s) := by rw [← hs', Int.mul_comm d p, Int.mul_emod_mul_of_pos _ _ hp']
    have h1 := Int.emod_nonneg d (show (s : Int) ≠ 0 by omega)
    have h2 := Int.emod_lt_of_pos d (show (0 : Int) < s by omega)
    refine ⟨by omega, ?_⟩
    rw [e, ← hs']
    have := Int.mul_le_mul_of_nonneg_left (show d % s ≤ s - 1 by omega) (Int.le_of_lt hp')
    rw [Int.mul_sub, Int.mul_one] at this
    exact this
  intro d hdd
  simp only [mL, List.mem_map] at hdd
  obtain ⟨j, _, rfl⟩ := hdd
  unfold shD
  have a1 := hd (j - 1)
  have a2 := hi _ a1.1 a1.2
  have a3 := lo (l.getD j 0)
  have : p ≤ 65536 := by have := Int.mul_le_mul_of_nonneg_left (show (1 : Int) ≤ s by omega) (Int.le_of_lt hp'); rw [hs', Int.mul_one] at this; exact this
  split <;> split <;> omega
/-! 'Add' -/
def caC (x : Nat → Int) : Nat → Int
  | 0 => 0
  | j + 1 => (caC x j + x j) / 65536
def caF (x : Nat → Int) (j : Nat) : Int := (caC x j + x j) % 65536
theorem caC_range {x : Nat → Int} (h : ∀ j, 0 ≤ x j ∧ x j < 131072) : ∀ j, 0 ≤ caC x j ∧ caC x j ≤ 2
  | 0 => by simp [caC]
  | j + 1 => by have := caC_range h j; have := h j; simp only [caC]; omega
theorem caF_val (x : Nat → Int) (n : Nat) : valL (mL (caF x) n ++ [caC x n]) = vS x n := by
  rw [valL_app, valL_mL, mL_len]
  have := vS_carry (f := caF x) (x := x) (c := caC x) (n := n) (fun j _ => by
    simp only [caF, caC]; have := Int.emod_add_mul_ediv (caC x j + x j) 65536; omega)
  simp only [valL, Int.mul_zero, Int.add_zero]
  rw [this]; simp [caC]
theorem caF_digs {x : Nat → Int} (h : ∀ j, 0 ≤ x j ∧ x j < 131072) (n : Nat) : Digs (mL (caF x) n ++ [caC x n]) := by
  intro d hd
  rw [List.mem_append] at hd
  rcases hd with hd | hd
  · simp only [mL, List.mem_map] at hd
    obtain ⟨j, _, rfl⟩ := hd
    unfold caF; omega
  · have := caC_range h n
    simp only [List.mem_singleton] at hd; subst hd; omega
def boC (x : Nat → Int) : Nat → Int
  | 0 => 0
  | j + 1 => if x j - boC x j < 0 then 1 else 0
def boF (x : Nat → Int) (j : Nat) : Int := if x j - boC x j < 0 then x j - boC x j + 65536 else x j - boC x j
theorem boC_range (x : Nat → Int) : ∀ j, 0 ≤ boC x j ∧ boC x j ≤ 1
  | 0 => by simp [boC]
  | j + 1 => by simp only [boC]; split <;> omega
theorem boF_digs {x : Nat → Int} (h : ∀ j, -65536 < x j ∧ x j < 65536) (n : Nat) : Digs (mL (boF x) n) := by
  intro d hd
  simp only [mL, List.mem_map] at hd
  obtain ⟨j, _, rfl⟩ := hd
  have := boC_range x j; have := h j
  unfold boF; split <;> omega
theorem boF_val {x : Nat → Int} (h : ∀ j, -65536 < x j ∧ x j < 65536) {n : Nat} (hn : 0 ≤ vS x n) : valL (mL (boF x) n) = vS x n := by
  have hv := vS_carry (f := boF x) (x := x) (c := fun j => - boC x j) (n := n) (fun j _ => by
    simp only [boF, boC]; split <;> omega)
  have h1 := valL_lt (boF_digs h n)
  have h2 := valL_nonneg (boF_digs h n)
  rw [valL_mL, mL_len] at h1
  rw [valL_mL] at h2 ⊢
  have hc := boC_range x n
  simp only [boC, Int.neg_zero, Int.add_zero] at hv
  have hc' : boC x n = 0 ∨ boC x n = 1 := by omega
  rcases hc' with hc' | hc'
  · rw [hc'] at hv; simpa using hv
  · rw [hc'] at hv; omega
/-! 'size': from the top down to where they differ -/
theorem size_eq {f g : Nat → Int} {n : Nat} (h : ∀ k, k < n → f (n - 1 - k) = g (n - 1 - k)) : vS f n = vS g n :=
  vS_congr fun j hj => by have := h (n - 1 - j) (by omega); rwa [show n - 1 - (n - 1 - j) = j by omega] at this
theorem size_lt {f g : Nat → Int} {n t : Nat} (hf : ∀ j, 0 ≤ f j ∧ f j < 65536) (hg : ∀ j, 0 ≤ g j ∧ g j < 65536) (ht : t < n) (h : ∀ k, k < t → f (n - 1 - k) = g (n - 1 - k)) (hlt : f (n - 1 - t) < g (n - 1 - t)) : vS f n < vS g n := by
  obtain ⟨m, hm⟩ : ∃ m, n = (m + 1) + t := ⟨n - 1 - t, by omega⟩
  subst hm
  rw [vS_app f, vS_app g]
  have e : vS (fun j => f (m + 1 + j)) t = vS (fun j => g (m + 1 + j)) t := vS_congr fun j hj => by
    have := h (t - 1 - j) (by omega)
    rwa [show m + 1 + t - 1 - (t - 1 - j) = m + 1 + j by omega] at this
  rw [e]
  have hm' : m + 1 + t - 1 - t = m := by omega
  rw [hm'] at hlt
  simp only [vS]
  have h1 := vS_lt (f := f) (n := m) fun j _ => (hf j).2
  have h2 := vS_nonneg (f := g) (n := m) fun j _ => (hg j).1
  have h3 := Int.mul_le_mul_of_nonneg_left (show f m + 1 ≤ g m by omega) (show (0 : Int) ≤ 65536 ^ m from Int.pow_nonneg (by omega))
  rw [Int.mul_add, Int.mul_one] at h3
  omega
end Go.Sx

set_option linter.unusedVariables false
set_option linter.unusedSimpArgs false
/-! ### what a number is worth -/
namespace Go.Sx
def p2 (k : Int) : Rat := (2 : Rat) ^ k
theorem p2_add (a b : Int) : p2 (a + b) = p2 a * p2 b := Rat.zpow_add (by decide) a b
theorem p2_pos (k : Int) : 0 < p2 k := Rat.zpow_pos (by decide)
theorem p2_zero : p2 0 = 1 := Rat.zpow_zero 2
theorem p2_nat (n : Nat) : p2 n = (((2 : Int) ^ n : Int) : Rat) := by unfold p2; rw [Rat.zpow_natCast, Rat.intCast_pow]; rfl
def pw (e : Int) : Rat := p2 (16 * e)
theorem pw_add (a b : Int) : pw (a + b) = pw a * pw b := by unfold pw; rw [Int.mul_add, p2_add]
theorem pw_pos (e : Int) : 0 < pw e := p2_pos _
theorem pw_nat (n : Nat) : pw n = (((65536 : Int) ^ n : Int) : Rat) := by
  unfold pw
  rw [show (16 : Int) * (n : Int) = ((16 * n : Nat) : Int) by omega, p2_nat, Int.pow_mul]; rfl
def mag (d : DV) : Rat := ((valL d.l : Int) : Rat) * pw d.e
def sgn (b : Bool) (x : Rat) : Rat := if b then -x else x
def V (d : DV) : Rat := sgn d.neg (mag d)
structure In (d : DV) (B : Int) : Prop where
  dig : Digs d.l
  nil : d.l = [] → d.neg = false ∧ d.e = 0
  ne : d.l ≠ [] → d.l.getD 0 0 ≠ 0 ∧ d.l.getD (d.l.length - 1) 0 ≠ 0
  lo : d.l ≠ [] → -B ≤ d.e
  hi : d.l ≠ [] → d.e + d.l.length ≤ B
theorem In.mono {d : DV} {B C : Int} (h : In d B) (hBC : B ≤ C) : In d C :=
  ⟨h.dig, h.nil, h.ne, fun hl => by have := h.lo hl; omega, fun hl => by have := h.hi hl; omega⟩
theorem In.len {d : DV} {B : Int} (h : In d B) (h0 : 0 ≤ B) (hB : B ≤ 2 ^ 19) : d.l.length ≤ 2 ^ 20 := by
  by_cases hl : d.l = []
  · rw [hl]; simp
  · have := h.lo hl; have := h.hi hl; omega
theorem In.exp {d : DV} {B : Int} (h : In d B) (h0 : 0 ≤ B) (hB : B ≤ 2 ^ 19) : -1099511627776 ≤ 16 * d.e ∧ 16 * d.e ≤ 1099511627776 := by
  by_cases hl : d.l = []
  · have := (h.nil hl).2; omega
  · have := h.lo hl; have := h.hi hl; omega
theorem Digs.drop {l : List Int} (h : Digs l) (k : Nat) : Digs (l.drop k) := fun d hd => h d (List.mem_of_mem_drop hd)
theorem Digs.take {l : List Int} (h : Digs l) (k : Nat) : Digs (l.take k) := fun d hd => h d (List.mem_of_mem_take hd)
theorem mk_getD {l : List Int} (h : lead l ≠ l.length) {k : Nat} (hk : k < (mk l).length) : (mk l).getD k 0 = l.getD (lead l + k) 0 := by
  have hm : (mk l).length = l.length - lead l - lead l.reverse := by simp [mk]
  have hs := (lead_strip h).lt
  unfold mk cutL
  simp only [List.getD, List.getElem?_take, List.getElem?_drop]
  rw [if_pos (by omega)]
theorem mD_V (neg : Bool) {l : List Int} (hd : Digs l) (e : Int) : V (mD neg l e) = sgn neg (((valL l : Int) : Rat) * pw e) := by
  unfold V mag mD mn me
  by_cases h : lead l = l.length
  · simp only [if_pos h, mk_nil h]
    have : valL l = 0 := valL_all0 (all_zero fun k hk => lead_z l k (by omega))
    rw [this]
    simp [sgn, valL]
  · simp only [if_neg h]
    have hs := lead_strip h
    have hv := valL_cut (l := l) (a := lead l) (b := lead l.reverse) (Nat.le_of_lt hs.lt) hs.fst hs.lst
    rw [hv, pw_add, pw_nat, Rat.intCast_mul]
    congr 1
    show ((valL (mk l) : Int) : Rat) * _ = _
    unfold mk
    grind
theorem mD_In (neg : Bool) {l : List Int} (hd : Digs l) {e B : Int} (h1 : -B ≤ e) (h2 : e + l.length ≤ B) : In (mD neg l e) B := by
  by_cases h : lead l = l.length
  · have e1 : mD neg l e = ⟨false, [], 0⟩ := by unfold mD mn me; rw [if_pos h, if_pos h, mk_nil h]
    rw [e1]
    exact ⟨by intro d hd; simp at hd, fun _ => ⟨rfl, rfl⟩, fun h => absurd rfl h, fun h => absurd rfl h, fun h => absurd rfl h⟩
  · have hs := lead_strip h
    have hlt := hs.lt
    have hm : (mk l).length = l.length - lead l - lead l.reverse := by simp [mk]
    have hne : mk l ≠ [] := by intro hh; rw [hh] at hm; simp at hm; omega
    have e1 : mD neg l e = ⟨neg, mk l, e + lead l⟩ := by unfold mD mn me; rw [if_neg h, if_neg h]
    rw [e1]
    refine ⟨(hd.drop _).take _, fun hh => absurd hh hne, fun _ => ⟨?_, ?_⟩, fun _ => by simp only; omega, fun _ => by simp only; omega⟩
    · show (mk l).getD 0 0 ≠ 0
      rw [mk_getD h (by omega), Nat.add_zero]; exact hs.fne
    · show (mk l).getD ((mk l).length - 1) 0 ≠ 0
      rw [mk_getD h (by omega), hm, show lead l + (l.length - lead l - lead l.reverse - 1) = l.length - 1 - lead l.reverse by omega]; exact hs.lne
theorem mag_pos {d : DV} {B : Int} (h : In d B) (hl : d.l ≠ []) : 0 < mag d := by
  unfold mag
  refine Rat.mul_pos ?_ (pw_pos _)
  rw [Rat.intCast_pos]
  have h0 := valL_nonneg h.dig
  have : valL d.l ≠ 0 := fun hz => by
    have hlt : 0 < d.l.length := List.length_pos_iff.2 hl
    have := (valL_zero h.dig).1 hz (d.l.getD 0 0) (by simp [List.getD, hlt])
    exact (h.ne hl).1 this
  omega
theorem mag_nil {d : DV} (hl : d.l = []) : mag d = 0 := by unfold mag; rw [hl]; simp [valL]
theorem mag_nonneg {d : DV} {B : Int} (h : In d B) : 0 ≤ mag d := by
  by_cases hl : d.l = []
  · rw [mag_nil hl]; exact Rat.le_refl
  · exact Rat.le_of_lt (mag_pos h hl)
theorem mag_vS {d : DV} {F : Int} {n : Nat} (h1 : d.l ≠ [] → F ≤ d.e) (h2 : d.l ≠ [] → d.e + d.l.length ≤ F + n) : mag d = ((vS (fun j => dg d (F + j)) n : Int) : Rat) * pw F := by
  by_cases hl : d.l = []
  · rw [mag_nil hl, dg_vS0 hl]; simp
  · rw [dg_vS h1 h2 hl, Rat.intCast_mul, ← pw_nat]
    have : pw d.e = pw F * pw (((d.e - F).toNat : Nat) : Int) := by rw [← pw_add]; congr 1; have := h1 hl; omega
    unfold mag; rw [this]; grind
/-! 'Mul' -/
def mC (a b : Nat → Int) (f : Nat → Int) (i : Nat) : Nat → Int
  | 0 => 0
  | k + 1 => (mC a b f i k + a i * b k + f (i + k)) / 65536
def mF (a b : Nat → Int) (f : Nat → Int) (i k j : Nat) : Int := if i ≤ j ∧ j < i + k then (mC a b f i (j - i) + a i * b (j - i) + f j) % 65536 else f j
def rowF (a b : Nat → Int) (lb : Nat) (f : Nat → Int) (i t j : Nat) : Int := if t ≠ 0 ∧ j = i + lb then mC a b f i lb else mF a b f i lb j
def mulF (a b : Nat → Int) (lb : Nat) : Nat → Nat → Int
  | 0, _ => 0
  | i + 1, j => if j = i + lb then mC a b (mulF a b lb i) i lb else mF a b (mulF a b lb i) i lb j
def mN (c : Int) : Nat := min 1 c.toNat
def mT (c : Int) (t : Nat) : Int := if t = 0 then c else 0
theorem mT_pos {c : Int} {t : Nat} (h : t < mN c) : t = 0 ∧ 0 < mT c t ∧ mT c t = c ∧ mT c (t + 1) = 0 := by
  unfold mN at h; unfold mT; have : t = 0 := by omega
  subst this; simp; omega
theorem mT_end (c : Int) : mT c (mN c) ≤ 0 := by
  unfold mT mN; split <;> omega
theorem mF_zero (a b f : Nat → Int) (i : Nat) : mF a b f i 0 = f := by funext j; unfold mF; rw [if_neg (by omega)]
theorem mF_step (a b f : Nat → Int) (i k n : Nat) : (mL (mF a b f i k) n).set (i + k) ((mC a b f i k + a i * b k + f (i + k)) % 65536) = mL (mF a b f i (k + 1)) n := by
  rw [mL_set]
  refine mL_congr fun j _ => ?_
  by_cases h : j = i + k
  · subst h; rw [if_pos rfl]; unfold mF; rw [if_pos (by omega), show i + k - i = k by omega]
  · rw [if_neg h]; unfold mF
    have : (i ≤ j ∧ j < i + k) ↔ (i ≤ j ∧ j < i + (k + 1)) := by omega
    simp only [this]
theorem mF_at (a b f : Nat → Int) (i k : Nat) : mF a b f i k (i + k) = f (i + k) := by unfold mF; rw [if_neg (by omega)]
section
variable {a b : Nat → Int} (ha : ∀ j, 0 ≤ a j ∧ a j < 65536) (hb : ∀ j, 0 ≤ b j ∧ b j < 65536)
include ha hb in
theorem ab_rng (i k : Nat) : 0 ≤ a i * b k ∧ a i * b k ≤ 4294836225 := by
  refine ⟨Int.mul_nonneg (ha i).1 (hb k).1, ?_⟩
  have := Int.mul_le_mul (show a i ≤ 65535 by have := ha i; omega) (show b k ≤ 65535 by have := hb k; omega) (hb k).1 (by omega)
  omega
include ha hb in
theorem mC_rng {f : Nat → Int} (hf : ∀ j, 0 ≤ f j ∧ f j < 65536) (i : Nat) : ∀ k, 0 ≤ mC a b f i k ∧ mC a b f i k < 65536
  | 0 => by simp [mC]
  | k + 1 => by have := mC_rng hf i k; have := ab_rng ha hb i k; have := hf (i + k); simp only [mC]; omega
theorem mF_rng {f : Nat → Int} (hf : ∀ j, 0 ≤ f j ∧ f j < 65536) (i k j : Nat) : 0 ≤ mF a b f i k j ∧ mF a b f i k j < 65536 := by
  unfold mF; split
  · omega
  · exact hf j
include ha hb in
theorem mulF_inv (lb : Nat) : ∀ i, (∀ j, 0 ≤ mulF a b lb i j ∧ mulF a b lb i j < 65536) ∧ (∀ j, i + lb ≤ j → mulF a b lb i j = 0) ∧ (∀ n, i + lb ≤ n → vS (mulF a b lb i) n = vS a i * vS b lb)
  | 0 => ⟨fun j => by simp [mulF], fun j _ => by simp [mulF], fun n _ => by rw [vS_zero (fun j _ => by simp [mulF])]; simp [vS]⟩
  | i + 1 => by
    obtain ⟨h1, h2, h3⟩ := mulF_inv lb i
    generalize hf : mulF a b lb i = f at h1 h2 h3
    have hg : ∀ j, mulF a b lb (i + 1) j = if j = i + lb then mC a b f i lb else mF a b f i lb j := fun j => by simp only [mulF, hf]
    have z : ∀ j, i + 1 + lb ≤ j → mulF a b lb (i + 1) j = 0 := fun j hj => by
      rw [hg, if_neg (by omega)]; unfold mF; rw [if_neg (by omega)]; exact h2 j (by omega)
    refine ⟨fun j => ?_, z, ?_⟩
    · rw [hg]; split
      · exact mC_rng ha hb h1 i lb
      · exact mF_rng h1 i lb j
    · have main : vS (mulF a b lb (i + 1)) (i + (lb + 1)) = vS a (i + 1) * vS b lb := by
        have e0 := h3 (i + (lb + 1)) (by omega)
        rw [vS_app] at e0 ⊢
        have e1 : vS (mulF a b lb (i + 1)) i = vS f i := vS_congr fun j hj => by rw [hg, if_neg (by omega)]; unfold mF; rw [if_neg (by omega)]
        have hc := vS_carry (f := fun j => mulF a b lb (i + 1) (i + j)) (x := fun j => a i * b j + f (i + j)) (c := mC a b f i) (n := lb) (fun j hj => by
          simp only [hg]
          rw [if_neg (by omega)]; unfold mF; rw [if_pos (by omega), show i + j - i = j by omega]
          simp only [mC]
          have := Int.emod_add_mul_ediv (mC a b f i j + a i * b j + f (i + j)) 65536
          omega)
        rw [vS_add, vS_mul] at hc
        simp only [vS, mC, Int.add_zero] at hc e0 ⊢
        rw [e1, hg (i + lb), if_pos rfl]
        rw [h2 (i + lb) (Nat.le_refl _)] at e0
        grind
      intro n hn
      obtain ⟨t, rfl⟩ : ∃ t, n = (i + (lb + 1)) + t := ⟨n - (i + (lb + 1)), by omega⟩
      rw [vS_app, main, vS_zero (n := t) (fun j _ => z _ (by omega))]
      omega
end
theorem gD_rng {l : List Int} (h : Digs l) (j : Nat) : 0 ≤ l.getD j 0 ∧ l.getD j 0 < 65536 := by
  by_cases hj : j < l.length
  · exact h _ (by simp [List.getD, hj])
  · simp [List.getD, Nat.not_lt.1 hj]
theorem mT_zero (c : Int) : mT c 0 = c := rfl
theorem rowF_zero (a b : Nat → Int) (lb : Nat) (f : Nat → Int) (i : Nat) : rowF a b lb f i 0 = mF a b f i lb := by funext j; unfold rowF; rw [if_neg (by omega)]
section
variable {a b : Nat → Int} {lb k u : Nat} {f : Nat → Int}
theorem row_sum (hf0 : f (k + lb) = 0) (hu : u < mN (mC a b f k lb)) : mT (mC a b f k lb) u + rowF a b lb f k u (k + lb + u) = mC a b f k lb := by
  obtain ⟨h0, h1, h2, h3⟩ := mT_pos hu
  subst h0
  rw [h2, rowF_zero, Nat.add_zero, mF_at, hf0, Int.add_zero]
theorem row_step (hC : 0 ≤ mC a b f k lb ∧ mC a b f k lb < 65536) (hu : u < mN (mC a b f k lb)) (M : Nat) : (mL (rowF a b lb f k u) M).set (k + lb + u) (mC a b f k lb % 65536) = mL (rowF a b lb f k (u + 1)) M := by
  obtain ⟨h0, h1, h2, h3⟩ := mT_pos hu
  subst h0
  rw [mL_set]
  refine mL_congr fun j _ => ?_
  have : mC a b f k lb % 65536 = mC a b f k lb := by omega
  rw [this]
  by_cases h : j = k + lb
  · subst h; rw [if_pos (by omega)]; unfold rowF; rw [if_pos ⟨by omega, rfl⟩]
  · rw [if_neg (by omega)]; unfold rowF; rw [if_neg (by omega), if_neg (by omega)]
theorem row_car (hC : 0 ≤ mC a b f k lb ∧ mC a b f k lb < 65536) (hu : u < mN (mC a b f k lb)) : mT (mC a b f k lb) (u + 1) = mC a b f k lb / 65536 := by
  obtain ⟨h0, h1, h2, h3⟩ := mT_pos hu
  rw [h3]; omega
end
theorem row_end {a b : Nat → Int} {lb k M : Nat} (hC : 0 ≤ mC a b (mulF a b lb k) k lb ∧ mC a b (mulF a b lb k) k lb < 65536) (hf0 : mulF a b lb k (k + lb) = 0) : mL (rowF a b lb (mulF a b lb k) k (mN (mC a b (mulF a b lb k) k lb))) M = mL (mulF a b lb (k + 1)) M := by
  refine mL_congr fun j _ => ?_
  unfold rowF mulF
  by_cases h : j = k + lb
  · subst h
    rw [if_pos rfl]
    by_cases hn : mN (mC a b (mulF a b lb k) k lb) = 0
    · rw [if_neg (by omega), mF_at, hf0]; unfold mN at hn; omega
    · rw [if_pos ⟨hn, rfl⟩]
  · rw [if_neg (by omega), if_neg h]
end Go.Sx

set_option linter.unusedVariables false
set_option linter.unusedSimpArgs false
/-! ### what a float is worth -/
namespace Go.Sx
def pNeg (b : Nat) : Bool := decide ((b : Int) / 9223372036854775808 = 1)
def pE₀ (b : Nat) : Int := (b : Int) / 4503599627370496 % 2048
def pM₀ (b : Nat) : Int := (b : Int) % 4503599627370496
def pM (b : Nat) : Int := if pE₀ b = 2047 then 0 else if pE₀ b = 0 then pM₀ b else pM₀ b + 4503599627370496
def pE (b : Nat) : Int := if pE₀ b = 2047 then 0 else if pE₀ b = 0 then -1074 else pE₀ b - 1075
def pK (b : Nat) : Int := if pE₀ b = 2047 ∧ pM₀ b = 0 then 1 else if pE₀ b = 2047 then 2 else 0
def sNeg (b : Nat) : Bool := b / 9223372036854775808 % 2 == 1
theorem sNeg_p {b : Nat} (h : b < 2 ^ 64) : pNeg b = sNeg b := by
  unfold pNeg sNeg
  by_cases h1 : b / 9223372036854775808 = 1
  · rw [h1]; simp; omega
  · have : b / 9223372036854775808 = 0 := by omega
    rw [this]; simp; omega
/-- what a finite float is worth -/
def fv (x : Nat) : Rat := sgn (sNeg x) (((pM x : Int) : Rat) * p2 (pE x))
theorem cn_fin {x b : Nat} (hx : pK x = 0) (hb : cn b = x) : b = x := by
  unfold cn at hb
  split at hb
  · subst hb; exact absurd hx (by decide)
  · exact hb
theorem pM_rng {x : Nat} : 0 ≤ pM x ∧ pM x < 9007199254740992 := by
  unfold pM pM₀; repeat' split
  all_goals omega
theorem pE_rng {x : Nat} : -1074 ≤ pE x ∧ pE x ≤ 971 := by
  unfold pE pE₀; repeat' split
  all_goals omega
end Go.Sx

set_option linter.unusedVariables false
set_option linter.unusedSimpArgs false
set_option maxRecDepth 20000
namespace Go.Sx
open Go.Proofs

/-! ### a float's bits -/
theorem bits_run (b : Nat) (w : World) : (callFunc 96 #[.float .f64 b]).run Try.prog w = .ok (.value (.int .u64 b)) w := by
  rw [run_callFunc_extern (fn := Try.f96) Try.func96 (by kernel_rfl) (by kernel_rfl) (by kernel_rfl) (e := Extern.MathFloatBits.float64bits) (by kernel_rfl)]
  rfl
theorem frombits_run (n : Int) (w : World) : (callFunc 108 #[.int .u64 n]).run Try.prog w = .ok (.value (.float .f64 n.toNat)) w := by
  rw [run_callFunc_extern (fn := Try.f108) Try.func108 (by kernel_rfl) (by kernel_rfl) (by kernel_rfl) (e := Extern.MathFloatBits.float64frombits) (by kernel_rfl)]
  rfl
theorem bits_c (H : List (List AV)) (b : Nat) : CSpec Try.prog 96 [.fraw b] H (.int .u64 b) H := by
  refine .inr ⟨rfl, fun w g cargs h => ?_⟩
  simp only [LRep] at h
  obtain ⟨v, r, hv, h1, rfl⟩ := h
  simp only [VRep] at h1
  obtain ⟨rfl, _⟩ := h1
  have : cargs = #[.float .f64 b] := Array.ext' hv
  subst this
  exact ⟨_, bits_run b w, by simp [VRep]⟩
theorem frombits_c (H : List (List AV)) (n : Int) (hn : 0 ≤ n ∧ n ≤ 18446744073709551615) : CSpec Try.prog 108 [.int .u64 n] H (.fraw n.toNat) H := by
  refine .inr ⟨rfl, fun w g cargs h => ?_⟩
  simp only [LRep] at h
  obtain ⟨v, r, hv, h1, rfl⟩ := h
  simp only [VRep] at h1
  subst h1
  have : cargs = #[.int .u64 n] := Array.ext' hv
  subst this
  exact ⟨_, frombits_run n w, by simp only [VRep]; exact ⟨trivial, by omega⟩⟩
attribute [local irreducible] Ex exOps exD opX opE thenX blkX RetQ Spec CSpec Fr condK guardK guardD ckK valK pickK loadK faK callK argK gK fK rK RetV lpX prK
set_option maxHeartbeats 4000000 in
theorem parts_c (H : List (List AV)) (b : Nat) (hb : b < 2 ^ 64) :
    CSpec Try.prog 95 [.fraw b] H (.tup [.bool (pNeg b), .int .u64 (pM b), .int .i64 (pE b), .int .i64 (pK b)]) H := by
  refine .mk (fun args w => Try.call95 args w) (Spec.intro' (fn := Try.f95) Try.func95 rfl (by kernel_rfl) (by simp) false [] (draw := drawX Try.prog ⟨false, _, []⟩) dOk ?_)
  simp only [argE, Nat.reduceAdd]
  repeat' (first
    | (refine gateE ?_; (first | refine b_c0 ?_ | refine b_nil ?_ | refine b_gT (by exact rfl) (by exact rfl) ?_ | refine b_gF (by exact rfl) (by exact rfl) (by exact rfl) ?_ | refine b_gU (by exact rfl) (by exact rfl) (by constructor <;> simp) (by exact rfl) (by exact rfl) ?_ | (refine b_g0 (by exact rfl) (by exact rfl) (by (conv => {lhs; whnf}); done) ?_; (first | refine g_TT ?_ | refine g_FF ?_ | refine g_TF ?_ | refine g_FT ?_ | refine g_PT ?_ ?_ | refine g_PF ?_ ?_ | refine g_BT ?_ ?_ | refine g_BF ?_ ?_ | fail)) | (refine b_g1 (by exact rfl) (by exact rfl) (by exact rfl) (by (conv => {lhs; whnf}); done) ?_; (first | refine g_TT ?_ | refine g_FF ?_ | refine g_TF ?_ | refine g_FT ?_ | refine g_PT ?_ ?_ | refine g_PF ?_ ?_ | refine g_BT ?_ ?_ | refine g_BF ?_ ?_ | fail)) | refine b_c1 (by exact rfl) ?_ | fail))
    | (refine gateO ?_; (first | refine b_move (by (conv => {lhs; whnf}); done) ?_ | (refine b_binB (by first | (conv => {lhs; whnf}; done) | exact (by exact rfl) | fail) (by first | (conv => {lhs; whnf}; done) | exact (by exact rfl) | fail) ?_; (first | refine v_bbT (by exact rfl) ?_ | refine v_k ?_ | fail)) | (refine b_bin (by (conv => {lhs; whnf}); done) (by (conv => {lhs; whnf}); done) (by (conv => {lhs; whnf}); done) ?_; (first | refine v_eT (by omega) ?_ | refine v_eF (by omega) ?_ | refine v_eP ?_ | refine v_w (by omega) ?_ | refine v_wu (by omega) ?_ | refine v_shr (by omega) (by decide) (by (conv => {lhs; simp [IntKind.bits]}); done) ?_ | refine v_mod (by omega) (by omega) ?_ | refine v_k ?_ | refine v_c (by omega) ?_ | fail)) | (refine b_pick (by (conv => {lhs; whnf}); done) ?_; (first | refine p_T (by (conv => {lhs; whnf}); done) ?_ | refine p_F (by (conv => {lhs; whnf}); done) ?_ | fail)) | refine b_assignF (by kernel_rfl) ?_ | refine b_assignI ?_ | refine b_assignN ?_ | refine b_assign (by (conv => {lhs; whnf}); done) ?_ | refine b_callB ?_ | (refine b_cnvI (by first | (conv => {lhs; whnf}; done) | exact (by exact rfl) | fail) ?_; (first | refine v_eT (by omega) ?_ | refine v_eF (by omega) ?_ | refine v_eP ?_ | refine v_w (by omega) ?_ | refine v_wu (by omega) ?_ | refine v_shr (by omega) (by decide) (by (conv => {lhs; simp [IntKind.bits]}); done) ?_ | refine v_mod (by omega) (by omega) ?_ | refine v_k ?_ | refine v_c (by omega) ?_ | fail)) | refine b_cnvF (by (conv => {lhs; whnf}); done) (by exact rfl) ?_ | refine b_cnvIF (by (conv => {lhs; whnf}); done) ?_ | fail))
    | (refine gateT ?_; (first | refine b_thn ?_ | refine b_thr ?_ | refine b_the ?_ | fail))
    | (refine gateX ?_; (first | refine b_seq ?_ | refine b_region ?_ | (refine b_cond (by (conv => {lhs; whnf}); done) ?_; (first | refine c_T ?_ | refine c_F ?_ | refine c_P ?_ ?_ | refine c_B ?_ ?_ | fail)) | refine b_ret ?_ | refine b_skip ?_ | refine b_block ?_ | refine b_exit ?_ | fail))
    | refine a_cons (by (conv => {lhs; whnf}); done) ?_
    | refine a_nil ?_
    | (refine gateK ?_; (first | refine c_call (bits_c _ _) (OldOk.refl _ _) ?_ | fail))
    | (refine gateQ ?_; refine b_retK (by simp) (by (conv => {lhs; whnf}); done) ?_)
    | (refine gateR ?_; (first | refine rk_tmp (by (conv => {lhs; whnf}); done) ?_ | refine rk_cellA (by (conv => {lhs; whnf}); done) (by exact rfl) (by exact rfl) ?_ | refine rk_cell1 (by (conv => {lhs; whnf}); done) (by exact rfl) (by exact rfl) ?_ | refine rk_nil ?_ | fail))
    | intro _)
  all_goals first | refine rv_old rfl (by simp [mx, mxL, aOf, aOf1, resOne]) ?_ | (trace_state; fail)
  all_goals (simp only [resOne, List.nil_append, List.cons_append, aOf, aOf1, pM, pE, pK, pNeg, pE₀, pM₀] at *; simp_all)


end Go.Sx

set_option linter.unusedVariables false
set_option linter.unusedSimpArgs false
set_option maxRecDepth 20000
namespace Go.Sx
open Go.Proofs

theorem isNaN_iff (b : Nat) : isNaN b = true ↔ 9218868437227405312 < b % 9223372036854775808 := by
  have e1 : Ieee.double.signWeight = 9223372036854775808 := by decide
  have e2 : Ieee.double.binade = 4503599627370496 := by decide
  have e3 : Ieee.double.infRung = 9218868437227405312 := by decide
  unfold isNaN Ieee.Format.read
  simp only [e1, e2, e3]
  split
  · simp [Ieee.Datum.isNaN]; omega
  · split
    · simp [Ieee.Datum.isNaN]; omega
    · split
      · simp [Ieee.Datum.isNaN]; omega
      · simp [Ieee.Datum.isNaN]; omega
theorem pK_two (b : Nat) : pK b = 2 ↔ isNaN b = true := by
  rw [isNaN_iff]
  unfold pK pE₀ pM₀
  split
  · omega
  · split <;> omega
theorem isNaN_qn : isNaN qn = true := by rw [isNaN_iff]; decide
theorem same_iff (b c : Nat) : ((b : Int) = c ∨ (pK b = 2 ∧ pK c = 2)) ↔ cn b = cn c := by
  rw [pK_two, pK_two]
  rcases cn_cases b with ⟨h1, h2⟩ | ⟨h1, h2⟩ <;> rcases cn_cases c with ⟨h3, h4⟩ | ⟨h3, h4⟩
  · simp [h1, h2, h3, h4]
  · rw [h2, h4, h1, h3]
    simp only [Bool.false_eq_true, and_false, or_false]
    constructor
    · intro h; have : b = c := by omega
      subst this; rw [h1] at h3; cases h3
    · intro h; rw [← h, isNaN_qn] at h3; cases h3
  · rw [h2, h4, h1, h3]
    simp only [Bool.false_eq_true, false_and, or_false]
    constructor
    · intro h; have : b = c := by omega
      subst this; rw [h1] at h3; cases h3
    · intro h; rw [h, isNaN_qn] at h1; cases h1
  · rw [h2, h4, h1, h3]
    simp only [Bool.false_eq_true, and_false, or_false]
    omega
attribute [local irreducible] Ex exOps exD opX opE thenX blkX RetQ Spec CSpec Fr condK guardK guardD ckK valK pickK loadK faK callK argK gK fK rK RetV lpX prK
set_option maxHeartbeats 4000000 in
theorem same_c (H : List (List AV)) (x y : Nat) :
    CSpec Try.prog 28 [.flt x, .flt y] H (.bool (decide (x = y))) H := by
  refine .mk (fun args w => Try.call28 args w) (Spec.raw2 (fun b c hb hbx hc hcy => Spec.intro' (fn := Try.f28) Try.func28 rfl (by kernel_rfl) (by simp) false [] (draw := drawX Try.prog ⟨false, _, []⟩) dOk ?_))
  simp only [argE, Nat.reduceAdd]
  repeat' (first
    | (refine gateE ?_; (first | refine b_c0 ?_ | refine b_nil ?_ | refine b_gT (by exact rfl) (by exact rfl) ?_ | refine b_gF (by exact rfl) (by exact rfl) (by exact rfl) ?_ | refine b_gU (by exact rfl) (by exact rfl) (by constructor <;> simp) (by exact rfl) (by exact rfl) ?_ | (refine b_g0 (by exact rfl) (by exact rfl) (by (conv => {lhs; whnf}); done) ?_; (first | refine g_TT ?_ | refine g_FF ?_ | refine g_TF ?_ | refine g_FT ?_ | refine g_PT ?_ ?_ | refine g_PF ?_ ?_ | refine g_BT ?_ ?_ | refine g_BF ?_ ?_ | fail)) | (refine b_g1 (by exact rfl) (by exact rfl) (by exact rfl) (by (conv => {lhs; whnf}); done) ?_; (first | refine g_TT ?_ | refine g_FF ?_ | refine g_TF ?_ | refine g_FT ?_ | refine g_PT ?_ ?_ | refine g_PF ?_ ?_ | refine g_BT ?_ ?_ | refine g_BF ?_ ?_ | fail)) | refine b_c1 (by exact rfl) ?_ | fail))
    | (refine gateO ?_; (first | refine b_move (by (conv => {lhs; whnf}); done) ?_ | (refine b_binB (by first | (conv => {lhs; whnf}; done) | exact (by exact rfl) | fail) (by first | (conv => {lhs; whnf}; done) | exact (by exact rfl) | fail) ?_; (first | refine v_bbT (by exact rfl) ?_ | refine v_k ?_ | fail)) | (refine b_bin (by (conv => {lhs; whnf}); done) (by (conv => {lhs; whnf}); done) (by (conv => {lhs; whnf}); done) ?_; (first | refine v_eT (by omega) ?_ | refine v_eF (by omega) ?_ | refine v_eP ?_ | refine v_w (by omega) ?_ | refine v_wu (by omega) ?_ | refine v_k ?_ | refine v_c (by omega) ?_ | fail)) | (refine b_pick (by (conv => {lhs; whnf}); done) ?_; (first | refine p_T (by (conv => {lhs; whnf}); done) ?_ | refine p_F (by (conv => {lhs; whnf}); done) ?_ | fail)) | refine b_assignF (by kernel_rfl) ?_ | refine b_assignI ?_ | refine b_assignN ?_ | refine b_assign (by (conv => {lhs; whnf}); done) ?_ | refine b_callB ?_ | refine b_ext (by (conv => {lhs; whnf}); done) (by exact rfl) ?_ | fail))
    | (refine gateT ?_; (first | refine b_thn ?_ | refine b_thr ?_ | refine b_the ?_ | fail))
    | (refine gateX ?_; (first | refine b_seq ?_ | refine b_region ?_ | (refine b_cond (by (conv => {lhs; whnf}); done) ?_; (first | refine c_T ?_ | refine c_F ?_ | refine c_P ?_ ?_ | refine c_B ?_ ?_ | fail)) | refine b_ret ?_ | refine b_skip ?_ | refine b_block ?_ | refine b_exit ?_ | fail))
    | refine a_cons (by (conv => {lhs; whnf}); done) ?_
    | refine a_nil ?_
    | (refine gateK ?_; (first | refine c_call (bits_c _ _) (OldOk.refl _ _) ?_ | refine c_call (parts_c _ _ (by assumption)) (OldOk.refl _ _) ?_ | fail))
    | (refine gateQ ?_; refine b_retK (by simp) (by (conv => {lhs; whnf}); done) ?_)
    | (refine gateR ?_; (first | refine rk_tmp (by (conv => {lhs; whnf}); done) ?_ | refine rk_cellA (by (conv => {lhs; whnf}); done) (by exact rfl) (by exact rfl) ?_ | refine rk_cell1 (by (conv => {lhs; whnf}); done) (by exact rfl) (by exact rfl) ?_ | refine rk_nil ?_ | fail))
    | intro _)
  all_goals first | refine rv_old rfl (by simp [mx, mxL, aOf, aOf1, resOne]) ?_ | (trace_state; fail)
  all_goals (subst hbx hcy; have hs := same_iff b c)
  all_goals (simp only [resOne, List.nil_append, List.cons_append, aOf, aOf1] at *)
  all_goals first
    | (refine rvF ?_; first | (simp_all; done) | (simp_all; omega))
    | (refine rvT ?_; first | (simp_all; done) | (simp_all; omega))
    | (refine rvP ?_; first | (simp_all; done) | (simp_all; omega))
    | trace_state


end Go.Sx

set_option linter.unusedVariables false
set_option linter.unusedSimpArgs false
set_option maxRecDepth 20000
namespace Go.Sx
open Go.Proofs
attribute [local irreducible] Ex exOps exD opX opE thenX blkX RetQ Spec CSpec Fr condK guardK guardD ckK valK pickK loadK faK callK argK gK fK rK RetV lpX prK
set_option maxHeartbeats 4000000 in
theorem all_c (H : List (List AV)) (Da : AV) (la : List Nat) (hFa : FL H Da la) (hBa : la.length ≤ 2 ^ 48) (Db : AV) (lb : List Nat) (hFb : FL H Db lb) (hBb : lb.length ≤ 2 ^ 48) :
    CSpec Try.prog 21 [Da, Db] H (.bool (decide (la = lb))) H := by
  obtain ⟨N, hN1, hN2, hN3⟩ := first_diff la lb
  refine .mk (fun args w => Try.call21 args w) (Spec.intro' (fn := Try.f21) Try.func21 rfl (by kernel_rfl) (by simp) false [] (draw := drawX Try.prog ⟨false, _, []⟩) dOk ?_)
  simp only [argE, Nat.reduceAdd]
  repeat' (first
    | (refine gateE ?_; (first | refine b_c0 ?_ | refine b_nil ?_ | fail))
    | (refine gateO ?_; (first | refine b_move (by (conv => {lhs; whnf}); done) ?_ | (refine b_load (by (conv => {lhs; whnf}); done) ?_; (first | refine l_loc1 (by exact rfl) (by exact rfl) ?_ | refine l_locA (by exact rfl) (by exact rfl) ?_ | refine l_FL (FL.app hFa _) (by omega) ?_ | refine l_FL (FL.app hFb _) (by omega) ?_ | fail)) | refine b_iaN (by (conv => {lhs; whnf}); done) (by (conv => {lhs; whnf}); done) (by exact hFa.len) (by omega) ?_ | refine b_iaN (by (conv => {lhs; whnf}); done) (by (conv => {lhs; whnf}); done) (by exact hFb.len) (by omega) ?_ | refine b_lenA (by (conv => {lhs; whnf}); done) (by exact hFa.len) ?_ | refine b_lenA (by (conv => {lhs; whnf}); done) (by exact hFb.len) ?_ | (refine b_bin (by (conv => {lhs; whnf}); done) (by (conv => {lhs; whnf}); done) (by (conv => {lhs; whnf}); done) ?_; (first | refine v_neT (by omega) ?_ | refine v_neF (by omega) ?_ | refine v_neP ?_ | refine v_T (by omega) ?_ | refine v_F (by omega) ?_ | refine v_w (by omega) ?_ | refine v_wu (by omega) ?_ | refine v_nT ?_ | refine v_nF ?_ | refine v_nP ?_ | refine v_k ?_ | refine v_c (by omega) ?_ | fail)) | refine b_assignF (by kernel_rfl) ?_ | refine b_assignI ?_ | refine b_assignN ?_ | refine b_assign (by (conv => {lhs; whnf}); done) ?_ | (refine b_un (by (conv => {lhs; whnf}); done) (by (conv => {lhs; whnf}); done) ?_; (first | refine v_neT (by omega) ?_ | refine v_neF (by omega) ?_ | refine v_neP ?_ | refine v_T (by omega) ?_ | refine v_F (by omega) ?_ | refine v_w (by omega) ?_ | refine v_wu (by omega) ?_ | refine v_nT ?_ | refine v_nF ?_ | refine v_nP ?_ | refine v_k ?_ | refine v_c (by omega) ?_ | fail)) | refine b_callB ?_ | refine b_lenA (by (conv => {lhs; whnf}); done) (by first | rfl | assumption) ?_ | fail))
    | (refine gateD ?_; (first | refine d_c0 (by exact rfl) ?_ | refine d_nil ?_ | fail))
    | (refine gateC ?_; (first | refine k_lt ?_ | refine k_ld (by (conv => {lhs; whnf}); done) (by exact rfl) ?_ | refine k_ldT (by (conv => {lhs; whnf}); done) ?_ | refine k_bin (by (conv => {lhs; whnf}); done) (by exact rfl) ?_ | refine k_mn ?_ | refine k_mnB (by exact rfl) ?_ | refine k_mnF ?_ | fail))
    | (refine gateT ?_; (first | refine b_thn ?_ | refine b_thr ?_ | refine b_the ?_ | fail))
    | (refine gateX ?_; (first | refine b_seq ?_ | refine b_region ?_ | (refine b_cond (by (conv => {lhs; whnf}); done) ?_; (first | refine c_T ?_ | refine c_F ?_ | refine c_P ?_ ?_ | refine c_B ?_ ?_ | fail)) | refine b_ret ?_ | refine b_skip ?_ | refine b_block ?_ | refine b_exit ?_ | refine b_draw [] [] [(0, .lt), (1, .lt), (2, .lt), (3, .ld true), (4, .lt), (5, .lt), (6, .lt), (7, .ld true), (8, .mn true), (9, .lt)] (by kernel_rfl) ?_ | (refine b_loop [5, 0, 1] N (fun k => ⟨[(5, .val (.int .i64 (k : Int))), (0, .val Da), (1, .val Db)], [], H ++ []⟩) (by exact rfl) ?_ ?_ <;> (first | intro k hk K hK | intro K) <;> (try dsimp only at *) <;> (try simp only [Int.natCast_add, Int.natCast_one] at *)) | fail))
    | refine a_cons (by (conv => {lhs; whnf}); done) ?_
    | refine a_nil ?_
    | (refine gateK ?_; (first | refine c_call (same_c _ _ _) (OldOk.refl _ _) ?_ | fail))
    | (refine gateB ?_; (first | refine b_bln ?_ | refine b_blr ?_ | refine b_ble ?_ | refine b_blo (by exact rfl) ?_ | fail))
    | (refine gateL ?_; (first | refine lp_n ?_ | refine lp_r ?_ | refine lp_e ?_ | fail))
    | (refine pr_k (by exact rfl) ?_; first | exact hK | (exfalso; first | omega | (simp_all; done) | (simp_all; omega)))
    | (refine gateQ ?_; refine b_retK (by simp) (by (conv => {lhs; whnf}); done) ?_)
    | (refine gateR ?_; (first | refine rk_tmp (by (conv => {lhs; whnf}); done) ?_ | refine rk_cellA (by (conv => {lhs; whnf}); done) (by exact rfl) (by exact rfl) ?_ | refine rk_cell1 (by (conv => {lhs; whnf}); done) (by exact rfl) (by exact rfl) ?_ | refine rk_nil ?_ | fail))
    | intro _)
  all_goals first | refine rv_old rfl (by simp [mx, mxL, aOf, aOf1, resOne]) ?_ | (trace_state; fail)
  all_goals first
    | (refine rtF (fun h => ?_); subst h; first | contradiction | omega | (simp_all; done))
    | (refine rtT (eq_of_getD (by omega) (fun k hk => hN2 k (by omega))))


end Go.Sx
