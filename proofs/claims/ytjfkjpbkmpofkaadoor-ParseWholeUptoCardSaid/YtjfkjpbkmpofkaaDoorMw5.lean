/- Own work: texts FwTy, SpecLabel, Spec, SpecLex, one behind the other. -/
import Derived.Test.YtjfkjpbkmpofkaaDoorMw4
import Derived.Test.YtjfkjpbkmpofkaaDoorProg
import Derived.KernelRfl
section
namespace Go.Proofs.YtjfkjpbkmpofkaaDoor
open Go Go.Fw
instance : Mixed Tryd.prog := ⟨by kernel_rfl⟩
instance : TyOne Tryd.prog 1 := .of (by kernel_rfl)
instance : TyInt Tryd.prog 2 .i64 := ⟨by kernel_rfl⟩
instance : TyOne Tryd.prog 2 := .of (by kernel_rfl)
instance : Elem Tryd.prog 2 1 8 := .of (by kernel_rfl)
instance : TyInt Tryd.prog 3 .i64 := ⟨by kernel_rfl⟩
instance : TyOne Tryd.prog 3 := .of (by kernel_rfl)
instance : Elem Tryd.prog 3 1 8 := .of (by kernel_rfl)
instance : TyBool Tryd.prog 4 := ⟨by kernel_rfl⟩
instance : TyOne Tryd.prog 4 := .of (by kernel_rfl)
instance : Elem Tryd.prog 4 1 1 := .of (by kernel_rfl)
instance : TyInt Tryd.prog 5 .u8 := ⟨by kernel_rfl⟩
instance : TyOne Tryd.prog 5 := .of (by kernel_rfl)
instance : Elem Tryd.prog 5 1 1 := .of (by kernel_rfl)
instance : TyInt Tryd.prog 6 .u8 := ⟨by kernel_rfl⟩
instance : TyOne Tryd.prog 6 := .of (by kernel_rfl)
instance : Elem Tryd.prog 6 1 1 := .of (by kernel_rfl)
instance : TyAgg Tryd.prog 7 4 := .of (by kernel_rfl)
instance : Elem Tryd.prog 7 4 24 := .of (by kernel_rfl)
instance : StructT Tryd.prog 7 [(0, 1), (1, 1), (2, 1), (3, 1)] [.int .i64 0, .int .i64 0, .bool false, .int .u8 0] := .of (by kernel_rfl) (by kernel_rfl)
instance : Fld Tryd.prog 7 0 0 := .of (by kernel_rfl)
instance : Fld1 Tryd.prog 7 0 0 := .of (by kernel_rfl)
instance : Fld Tryd.prog 7 1 1 := .of (by kernel_rfl)
instance : Fld1 Tryd.prog 7 1 1 := .of (by kernel_rfl)
instance : Fld Tryd.prog 7 2 2 := .of (by kernel_rfl)
instance : Fld1 Tryd.prog 7 2 2 := .of (by kernel_rfl)
instance : Fld Tryd.prog 7 3 3 := .of (by kernel_rfl)
instance : Fld1 Tryd.prog 7 3 3 := .of (by kernel_rfl)
instance : TyAgg Tryd.prog 8 4 := .of (by kernel_rfl)
instance : Elem Tryd.prog 8 4 24 := .of (by kernel_rfl)
instance : StructT Tryd.prog 8 [(0, 1), (1, 1), (2, 1), (3, 1)] [.int .i64 0, .int .i64 0, .bool false, .int .u8 0] := .of (by kernel_rfl) (by kernel_rfl)
instance : Fld Tryd.prog 8 0 0 := .of (by kernel_rfl)
instance : Fld1 Tryd.prog 8 0 0 := .of (by kernel_rfl)
instance : Fld Tryd.prog 8 1 1 := .of (by kernel_rfl)
instance : Fld1 Tryd.prog 8 1 1 := .of (by kernel_rfl)
instance : Fld Tryd.prog 8 2 2 := .of (by kernel_rfl)
instance : Fld1 Tryd.prog 8 2 2 := .of (by kernel_rfl)
instance : Fld Tryd.prog 8 3 3 := .of (by kernel_rfl)
instance : Fld1 Tryd.prog 8 3 3 := .of (by kernel_rfl)
instance : TyStr Tryd.prog 9 := ⟨by kernel_rfl⟩
instance : TyOne Tryd.prog 9 := .of (by kernel_rfl)
instance : Elem Tryd.prog 9 1 16 := .of (by kernel_rfl)
instance : TyStr Tryd.prog 10 := ⟨by kernel_rfl⟩
instance : TyOne Tryd.prog 10 := .of (by kernel_rfl)
instance : Elem Tryd.prog 10 1 16 := .of (by kernel_rfl)
instance : TyStr Tryd.prog 11 := ⟨by kernel_rfl⟩
instance : TyOne Tryd.prog 11 := .of (by kernel_rfl)
instance : Elem Tryd.prog 11 1 16 := .of (by kernel_rfl)
instance : TyInt Tryd.prog 12 .u64 := ⟨by kernel_rfl⟩
instance : TyOne Tryd.prog 12 := .of (by kernel_rfl)
instance : Elem Tryd.prog 12 1 8 := .of (by kernel_rfl)
instance : TyAgg Tryd.prog 13 2 := .of (by kernel_rfl)
instance : Elem Tryd.prog 13 2 24 := .of (by kernel_rfl)
instance : StructT Tryd.prog 13 [(0, 1), (1, 1)] [str [], .int .u64 0] := .of (by kernel_rfl) (by kernel_rfl)
instance : Fld Tryd.prog 13 0 0 := .of (by kernel_rfl)
instance : Fld1 Tryd.prog 13 0 0 := .of (by kernel_rfl)
instance : Fld Tryd.prog 13 1 1 := .of (by kernel_rfl)
instance : Fld1 Tryd.prog 13 1 1 := .of (by kernel_rfl)
instance : TyAgg Tryd.prog 14 2 := .of (by kernel_rfl)
instance : Elem Tryd.prog 14 2 24 := .of (by kernel_rfl)
instance : StructT Tryd.prog 14 [(0, 1), (1, 1)] [str [], .int .u64 0] := .of (by kernel_rfl) (by kernel_rfl)
instance : Fld Tryd.prog 14 0 0 := .of (by kernel_rfl)
instance : Fld1 Tryd.prog 14 0 0 := .of (by kernel_rfl)
instance : Fld Tryd.prog 14 1 1 := .of (by kernel_rfl)
instance : Fld1 Tryd.prog 14 1 1 := .of (by kernel_rfl)
instance : TyOne Tryd.prog 15 := .of (by kernel_rfl)
instance : Elem Tryd.prog 15 1 8 := .of (by kernel_rfl)
instance : TyOne Tryd.prog 16 := .of (by kernel_rfl)
instance : Elem Tryd.prog 16 1 8 := .of (by kernel_rfl)
instance : TyOne Tryd.prog 17 := .of (by kernel_rfl)
instance : Elem Tryd.prog 17 1 8 := .of (by kernel_rfl)
instance : TyAgg Tryd.prog 18 1 := .of (by kernel_rfl)
instance : Elem Tryd.prog 18 1 8 := .of (by kernel_rfl)
instance : StructT Tryd.prog 18 [(0, 1)] [.pointer none] := .of (by kernel_rfl) (by kernel_rfl)
instance : Fld Tryd.prog 18 0 0 := .of (by kernel_rfl)
instance : Fld1 Tryd.prog 18 0 0 := .of (by kernel_rfl)
instance : TyAgg Tryd.prog 19 1 := .of (by kernel_rfl)
instance : Elem Tryd.prog 19 1 8 := .of (by kernel_rfl)
instance : StructT Tryd.prog 19 [(0, 1)] [.pointer none] := .of (by kernel_rfl) (by kernel_rfl)
instance : Fld Tryd.prog 19 0 0 := .of (by kernel_rfl)
instance : Fld1 Tryd.prog 19 0 0 := .of (by kernel_rfl)
instance : TyOne Tryd.prog 20 := .of (by kernel_rfl)
instance : TyInt Tryd.prog 21 .i32 := ⟨by kernel_rfl⟩
instance : TyOne Tryd.prog 21 := .of (by kernel_rfl)
instance : Elem Tryd.prog 21 1 4 := .of (by kernel_rfl)
instance : TyAgg Tryd.prog 22 3 := .of (by kernel_rfl)
instance : Elem Tryd.prog 22 3 32 := .of (by kernel_rfl)
instance : StructT Tryd.prog 22 [(0, 1), (1, 1), (2, 1)] [.int .i64 0, .int .i64 0, str []] := .of (by kernel_rfl) (by kernel_rfl)
instance : Fld Tryd.prog 22 0 0 := .of (by kernel_rfl)
instance : Fld1 Tryd.prog 22 0 0 := .of (by kernel_rfl)
instance : Fld Tryd.prog 22 1 1 := .of (by kernel_rfl)
instance : Fld1 Tryd.prog 22 1 1 := .of (by kernel_rfl)
instance : Fld Tryd.prog 22 2 2 := .of (by kernel_rfl)
instance : Fld1 Tryd.prog 22 2 2 := .of (by kernel_rfl)
instance : TyAgg Tryd.prog 23 3 := .of (by kernel_rfl)
instance : Elem Tryd.prog 23 3 32 := .of (by kernel_rfl)
instance : StructT Tryd.prog 23 [(0, 1), (1, 1), (2, 1)] [.int .i64 0, .int .i64 0, str []] := .of (by kernel_rfl) (by kernel_rfl)
instance : FlatT Tryd.prog 23 [.int .i64, .int .i64, .str] := .of (by kernel_rfl)
instance : Fld Tryd.prog 23 0 0 := .of (by kernel_rfl)
instance : Fld1 Tryd.prog 23 0 0 := .of (by kernel_rfl)
instance : Fld Tryd.prog 23 1 1 := .of (by kernel_rfl)
instance : Fld1 Tryd.prog 23 1 1 := .of (by kernel_rfl)
instance : Fld Tryd.prog 23 2 2 := .of (by kernel_rfl)
instance : Fld1 Tryd.prog 23 2 2 := .of (by kernel_rfl)
instance : TyOne Tryd.prog 24 := .of (by kernel_rfl)
instance : TySlice Tryd.prog 25 42 := ⟨by kernel_rfl⟩
instance : TyOne Tryd.prog 25 := .of (by kernel_rfl)
instance : Elem Tryd.prog 25 1 24 := .of (by kernel_rfl)
instance : TyAgg Tryd.prog 26 1 := .of (by kernel_rfl)
instance : Elem Tryd.prog 26 1 24 := .of (by kernel_rfl)
instance : StructT Tryd.prog 26 [(0, 1)] [.slice none 0 0] := .of (by kernel_rfl) (by kernel_rfl)
instance : Fld Tryd.prog 26 0 0 := .of (by kernel_rfl)
instance : Fld1 Tryd.prog 26 0 0 := .of (by kernel_rfl)
instance : TyAgg Tryd.prog 27 1 := .of (by kernel_rfl)
instance : Elem Tryd.prog 27 1 24 := .of (by kernel_rfl)
instance : StructT Tryd.prog 27 [(0, 1)] [.slice none 0 0] := .of (by kernel_rfl) (by kernel_rfl)
instance : Fld Tryd.prog 27 0 0 := .of (by kernel_rfl)
instance : Fld1 Tryd.prog 27 0 0 := .of (by kernel_rfl)
instance : TyInt Tryd.prog 28 .i64 := ⟨by kernel_rfl⟩
instance : TyOne Tryd.prog 28 := .of (by kernel_rfl)
instance : Elem Tryd.prog 28 1 8 := .of (by kernel_rfl)
instance : TyOne Tryd.prog 30 := .of (by kernel_rfl)
instance : TyOne Tryd.prog 32 := .of (by kernel_rfl)
instance : TyOne Tryd.prog 34 := .of (by kernel_rfl)
instance : TyOne Tryd.prog 35 := .of (by kernel_rfl)
instance : TyOne Tryd.prog 36 := .of (by kernel_rfl)
instance : TySlice Tryd.prog 37 53 := ⟨by kernel_rfl⟩
instance : TyOne Tryd.prog 37 := .of (by kernel_rfl)
instance : Elem Tryd.prog 37 1 24 := .of (by kernel_rfl)
instance : TySlice Tryd.prog 38 72 := ⟨by kernel_rfl⟩
instance : TyOne Tryd.prog 38 := .of (by kernel_rfl)
instance : Elem Tryd.prog 38 1 24 := .of (by kernel_rfl)
instance : TySlice Tryd.prog 39 85 := ⟨by kernel_rfl⟩
instance : TyOne Tryd.prog 39 := .of (by kernel_rfl)
instance : Elem Tryd.prog 39 1 24 := .of (by kernel_rfl)
instance : TySlice Tryd.prog 40 44 := ⟨by kernel_rfl⟩
instance : TyOne Tryd.prog 40 := .of (by kernel_rfl)
instance : Elem Tryd.prog 40 1 24 := .of (by kernel_rfl)
instance : TyAgg Tryd.prog 41 10 := .of (by kernel_rfl)
instance : Elem Tryd.prog 41 10 152 := .of (by kernel_rfl)
instance : StructT Tryd.prog 41 [(0, 1), (1, 1), (2, 1), (3, 1), (4, 1), (5, 1), (6, 1), (7, 1), (8, 1), (9, 1)] [.int .i64 0, str [], .int .i64 0, .slice none 0 0, .slice none 0 0, .slice none 0 0, .int .i64 0, .int .i64 0, .int .i64 0, .slice none 0 0] := .of (by kernel_rfl) (by kernel_rfl)
instance : Fld Tryd.prog 41 0 0 := .of (by kernel_rfl)
instance : Fld1 Tryd.prog 41 0 0 := .of (by kernel_rfl)
instance : Fld Tryd.prog 41 1 1 := .of (by kernel_rfl)
instance : Fld1 Tryd.prog 41 1 1 := .of (by kernel_rfl)
instance : Fld Tryd.prog 41 2 2 := .of (by kernel_rfl)
instance : Fld1 Tryd.prog 41 2 2 := .of (by kernel_rfl)
instance : Fld Tryd.prog 41 3 3 := .of (by kernel_rfl)
instance : Fld1 Tryd.prog 41 3 3 := .of (by kernel_rfl)
instance : Fld Tryd.prog 41 4 4 := .of (by kernel_rfl)
instance : Fld1 Tryd.prog 41 4 4 := .of (by kernel_rfl)
instance : Fld Tryd.prog 41 5 5 := .of (by kernel_rfl)
instance : Fld1 Tryd.prog 41 5 5 := .of (by kernel_rfl)
instance : Fld Tryd.prog 41 6 6 := .of (by kernel_rfl)
instance : Fld1 Tryd.prog 41 6 6 := .of (by kernel_rfl)
instance : Fld Tryd.prog 41 7 7 := .of (by kernel_rfl)
instance : Fld1 Tryd.prog 41 7 7 := .of (by kernel_rfl)
instance : Fld Tryd.prog 41 8 8 := .of (by kernel_rfl)
instance : Fld1 Tryd.prog 41 8 8 := .of (by kernel_rfl)
instance : Fld Tryd.prog 41 9 9 := .of (by kernel_rfl)
instance : Fld1 Tryd.prog 41 9 9 := .of (by kernel_rfl)
instance : TyAgg Tryd.prog 42 10 := .of (by kernel_rfl)
instance : Elem Tryd.prog 42 10 152 := .of (by kernel_rfl)
instance : StructT Tryd.prog 42 [(0, 1), (1, 1), (2, 1), (3, 1), (4, 1), (5, 1), (6, 1), (7, 1), (8, 1), (9, 1)] [.int .i64 0, str [], .int .i64 0, .slice none 0 0, .slice none 0 0, .slice none 0 0, .int .i64 0, .int .i64 0, .int .i64 0, .slice none 0 0] := .of (by kernel_rfl) (by kernel_rfl)
instance : Fld Tryd.prog 42 0 0 := .of (by kernel_rfl)
instance : Fld1 Tryd.prog 42 0 0 := .of (by kernel_rfl)
instance : Fld Tryd.prog 42 1 1 := .of (by kernel_rfl)
instance : Fld1 Tryd.prog 42 1 1 := .of (by kernel_rfl)
instance : Fld Tryd.prog 42 2 2 := .of (by kernel_rfl)
instance : Fld1 Tryd.prog 42 2 2 := .of (by kernel_rfl)
instance : Fld Tryd.prog 42 3 3 := .of (by kernel_rfl)
instance : Fld1 Tryd.prog 42 3 3 := .of (by kernel_rfl)
instance : Fld Tryd.prog 42 4 4 := .of (by kernel_rfl)
instance : Fld1 Tryd.prog 42 4 4 := .of (by kernel_rfl)
instance : Fld Tryd.prog 42 5 5 := .of (by kernel_rfl)
instance : Fld1 Tryd.prog 42 5 5 := .of (by kernel_rfl)
instance : Fld Tryd.prog 42 6 6 := .of (by kernel_rfl)
instance : Fld1 Tryd.prog 42 6 6 := .of (by kernel_rfl)
instance : Fld Tryd.prog 42 7 7 := .of (by kernel_rfl)
instance : Fld1 Tryd.prog 42 7 7 := .of (by kernel_rfl)
instance : Fld Tryd.prog 42 8 8 := .of (by kernel_rfl)
instance : Fld1 Tryd.prog 42 8 8 := .of (by kernel_rfl)
instance : Fld Tryd.prog 42 9 9 := .of (by kernel_rfl)
instance : Fld1 Tryd.prog 42 9 9 := .of (by kernel_rfl)
instance : TyAgg Tryd.prog 43 4 := .of (by kernel_rfl)
instance : Elem Tryd.prog 43 4 40 := .of (by kernel_rfl)
instance : StructT Tryd.prog 43 [(0, 1), (1, 1), (2, 1), (3, 1)] [.int .i64 0, .int .i64 0, .int .i64 0, str []] := .of (by kernel_rfl) (by kernel_rfl)
instance : Fld Tryd.prog 43 0 0 := .of (by kernel_rfl)
instance : Fld1 Tryd.prog 43 0 0 := .of (by kernel_rfl)
instance : Fld Tryd.prog 43 1 1 := .of (by kernel_rfl)
instance : Fld1 Tryd.prog 43 1 1 := .of (by kernel_rfl)
instance : Fld Tryd.prog 43 2 2 := .of (by kernel_rfl)
instance : Fld1 Tryd.prog 43 2 2 := .of (by kernel_rfl)
instance : Fld Tryd.prog 43 3 3 := .of (by kernel_rfl)
instance : Fld1 Tryd.prog 43 3 3 := .of (by kernel_rfl)
instance : TyAgg Tryd.prog 44 4 := .of (by kernel_rfl)
instance : Elem Tryd.prog 44 4 40 := .of (by kernel_rfl)
instance : StructT Tryd.prog 44 [(0, 1), (1, 1), (2, 1), (3, 1)] [.int .i64 0, .int .i64 0, .int .i64 0, str []] := .of (by kernel_rfl) (by kernel_rfl)
instance : FlatT Tryd.prog 44 [.int .i64, .int .i64, .int .i64, .str] := .of (by kernel_rfl)
instance : Fld Tryd.prog 44 0 0 := .of (by kernel_rfl)
instance : Fld1 Tryd.prog 44 0 0 := .of (by kernel_rfl)
instance : Fld Tryd.prog 44 1 1 := .of (by kernel_rfl)
instance : Fld1 Tryd.prog 44 1 1 := .of (by kernel_rfl)
instance : Fld Tryd.prog 44 2 2 := .of (by kernel_rfl)
instance : Fld1 Tryd.prog 44 2 2 := .of (by kernel_rfl)
instance : Fld Tryd.prog 44 3 3 := .of (by kernel_rfl)
instance : Fld1 Tryd.prog 44 3 3 := .of (by kernel_rfl)
instance : TySlice Tryd.prog 45 50 := ⟨by kernel_rfl⟩
instance : TyOne Tryd.prog 45 := .of (by kernel_rfl)
instance : Elem Tryd.prog 45 1 24 := .of (by kernel_rfl)
instance : TyOne Tryd.prog 46 := .of (by kernel_rfl)
instance : TyOne Tryd.prog 47 := .of (by kernel_rfl)
instance : TyOne Tryd.prog 48 := .of (by kernel_rfl)
instance : TyAgg Tryd.prog 49 3 := .of (by kernel_rfl)
instance : Elem Tryd.prog 49 3 32 := .of (by kernel_rfl)
instance : StructT Tryd.prog 49 [(0, 1), (1, 1), (2, 1)] [.int .i64 0, str [], .int .i64 0] := .of (by kernel_rfl) (by kernel_rfl)
instance : Fld Tryd.prog 49 0 0 := .of (by kernel_rfl)
instance : Fld1 Tryd.prog 49 0 0 := .of (by kernel_rfl)
instance : Fld Tryd.prog 49 1 1 := .of (by kernel_rfl)
instance : Fld1 Tryd.prog 49 1 1 := .of (by kernel_rfl)
instance : Fld Tryd.prog 49 2 2 := .of (by kernel_rfl)
instance : Fld1 Tryd.prog 49 2 2 := .of (by kernel_rfl)
instance : TyAgg Tryd.prog 50 3 := .of (by kernel_rfl)
instance : Elem Tryd.prog 50 3 32 := .of (by kernel_rfl)
instance : StructT Tryd.prog 50 [(0, 1), (1, 1), (2, 1)] [.int .i64 0, str [], .int .i64 0] := .of (by kernel_rfl) (by kernel_rfl)
instance : FlatT Tryd.prog 50 [.int .i64, .str, .int .i64] := .of (by kernel_rfl)
instance : Fld Tryd.prog 50 0 0 := .of (by kernel_rfl)
instance : Fld1 Tryd.prog 50 0 0 := .of (by kernel_rfl)
instance : Fld Tryd.prog 50 1 1 := .of (by kernel_rfl)
instance : Fld1 Tryd.prog 50 1 1 := .of (by kernel_rfl)
instance : Fld Tryd.prog 50 2 2 := .of (by kernel_rfl)
instance : Fld1 Tryd.prog 50 2 2 := .of (by kernel_rfl)
instance : TyOne Tryd.prog 51 := .of (by kernel_rfl)
instance : TyAgg Tryd.prog 52 3 := .of (by kernel_rfl)
instance : Elem Tryd.prog 52 3 32 := .of (by kernel_rfl)
instance : StructT Tryd.prog 52 [(0, 1), (1, 1), (2, 1)] [str [], .int .i64 0, .int .i64 0] := .of (by kernel_rfl) (by kernel_rfl)
instance : Fld Tryd.prog 52 0 0 := .of (by kernel_rfl)
instance : Fld1 Tryd.prog 52 0 0 := .of (by kernel_rfl)
instance : Fld Tryd.prog 52 1 1 := .of (by kernel_rfl)
instance : Fld1 Tryd.prog 52 1 1 := .of (by kernel_rfl)
instance : Fld Tryd.prog 52 2 2 := .of (by kernel_rfl)
instance : Fld1 Tryd.prog 52 2 2 := .of (by kernel_rfl)
instance : TyAgg Tryd.prog 53 3 := .of (by kernel_rfl)
instance : Elem Tryd.prog 53 3 32 := .of (by kernel_rfl)
instance : StructT Tryd.prog 53 [(0, 1), (1, 1), (2, 1)] [str [], .int .i64 0, .int .i64 0] := .of (by kernel_rfl) (by kernel_rfl)
instance : FlatT Tryd.prog 53 [.str, .int .i64, .int .i64] := .of (by kernel_rfl)
instance : Fld Tryd.prog 53 0 0 := .of (by kernel_rfl)
instance : Fld1 Tryd.prog 53 0 0 := .of (by kernel_rfl)
instance : Fld Tryd.prog 53 1 1 := .of (by kernel_rfl)
instance : Fld1 Tryd.prog 53 1 1 := .of (by kernel_rfl)
instance : Fld Tryd.prog 53 2 2 := .of (by kernel_rfl)
instance : Fld1 Tryd.prog 53 2 2 := .of (by kernel_rfl)
instance : TyOne Tryd.prog 54 := .of (by kernel_rfl)
instance : Elem Tryd.prog 54 1 8 := .of (by kernel_rfl)
instance : TySlice Tryd.prog 55 3 := ⟨by kernel_rfl⟩
instance : TyOne Tryd.prog 55 := .of (by kernel_rfl)
instance : Elem Tryd.prog 55 1 24 := .of (by kernel_rfl)
instance : TyOne Tryd.prog 56 := .of (by kernel_rfl)
instance : TyOne Tryd.prog 58 := .of (by kernel_rfl)
instance : TyOne Tryd.prog 59 := .of (by kernel_rfl)
instance : TyOne Tryd.prog 60 := .of (by kernel_rfl)
instance : TyOne Tryd.prog 61 := .of (by kernel_rfl)
instance : Elem Tryd.prog 61 1 8 := .of (by kernel_rfl)
instance : TyAgg Tryd.prog 62 5 := .of (by kernel_rfl)
instance : Elem Tryd.prog 62 5 72 := .of (by kernel_rfl)
instance : StructT Tryd.prog 62 [(0, 1), (1, 1), (2, 1), (3, 1), (4, 1)] [.slice none 0 0, .int .i64 0, .int .i64 0, .slice none 0 0, .int .i64 0] := .of (by kernel_rfl) (by kernel_rfl)
instance : Fld Tryd.prog 62 0 0 := .of (by kernel_rfl)
instance : Fld1 Tryd.prog 62 0 0 := .of (by kernel_rfl)
instance : Fld Tryd.prog 62 1 1 := .of (by kernel_rfl)
instance : Fld1 Tryd.prog 62 1 1 := .of (by kernel_rfl)
instance : Fld Tryd.prog 62 2 2 := .of (by kernel_rfl)
instance : Fld1 Tryd.prog 62 2 2 := .of (by kernel_rfl)
instance : Fld Tryd.prog 62 3 3 := .of (by kernel_rfl)
instance : Fld1 Tryd.prog 62 3 3 := .of (by kernel_rfl)
instance : Fld Tryd.prog 62 4 4 := .of (by kernel_rfl)
instance : Fld1 Tryd.prog 62 4 4 := .of (by kernel_rfl)
instance : TyAgg Tryd.prog 63 5 := .of (by kernel_rfl)
instance : Elem Tryd.prog 63 5 72 := .of (by kernel_rfl)
instance : StructT Tryd.prog 63 [(0, 1), (1, 1), (2, 1), (3, 1), (4, 1)] [.slice none 0 0, .int .i64 0, .int .i64 0, .slice none 0 0, .int .i64 0] := .of (by kernel_rfl) (by kernel_rfl)
instance : Fld Tryd.prog 63 0 0 := .of (by kernel_rfl)
instance : Fld1 Tryd.prog 63 0 0 := .of (by kernel_rfl)
instance : Fld Tryd.prog 63 1 1 := .of (by kernel_rfl)
instance : Fld1 Tryd.prog 63 1 1 := .of (by kernel_rfl)
instance : Fld Tryd.prog 63 2 2 := .of (by kernel_rfl)
instance : Fld1 Tryd.prog 63 2 2 := .of (by kernel_rfl)
instance : Fld Tryd.prog 63 3 3 := .of (by kernel_rfl)
instance : Fld1 Tryd.prog 63 3 3 := .of (by kernel_rfl)
instance : Fld Tryd.prog 63 4 4 := .of (by kernel_rfl)
instance : Fld1 Tryd.prog 63 4 4 := .of (by kernel_rfl)
instance : TyOne Tryd.prog 64 := .of (by kernel_rfl)
instance : TyOne Tryd.prog 65 := .of (by kernel_rfl)
instance : Elem Tryd.prog 65 1 8 := .of (by kernel_rfl)
instance : TyOne Tryd.prog 66 := .of (by kernel_rfl)
instance : TyOne Tryd.prog 67 := .of (by kernel_rfl)
instance : TyOne Tryd.prog 68 := .of (by kernel_rfl)
instance : TyOne Tryd.prog 69 := .of (by kernel_rfl)
instance : TyOne Tryd.prog 70 := .of (by kernel_rfl)
instance : TyAgg Tryd.prog 71 2 := .of (by kernel_rfl)
instance : Elem Tryd.prog 71 2 24 := .of (by kernel_rfl)
instance : StructT Tryd.prog 71 [(0, 1), (1, 1)] [str [], .int .i64 0] := .of (by kernel_rfl) (by kernel_rfl)
instance : Fld Tryd.prog 71 0 0 := .of (by kernel_rfl)
instance : Fld1 Tryd.prog 71 0 0 := .of (by kernel_rfl)
instance : Fld Tryd.prog 71 1 1 := .of (by kernel_rfl)
instance : Fld1 Tryd.prog 71 1 1 := .of (by kernel_rfl)
instance : TyAgg Tryd.prog 72 2 := .of (by kernel_rfl)
instance : Elem Tryd.prog 72 2 24 := .of (by kernel_rfl)
instance : StructT Tryd.prog 72 [(0, 1), (1, 1)] [str [], .int .i64 0] := .of (by kernel_rfl) (by kernel_rfl)
instance : FlatT Tryd.prog 72 [.str, .int .i64] := .of (by kernel_rfl)
instance : Fld Tryd.prog 72 0 0 := .of (by kernel_rfl)
instance : Fld1 Tryd.prog 72 0 0 := .of (by kernel_rfl)
instance : Fld Tryd.prog 72 1 1 := .of (by kernel_rfl)
instance : Fld1 Tryd.prog 72 1 1 := .of (by kernel_rfl)
instance : TyOne Tryd.prog 73 := .of (by kernel_rfl)
instance : TyOne Tryd.prog 74 := .of (by kernel_rfl)
instance : TyOne Tryd.prog 75 := .of (by kernel_rfl)
instance : TyOne Tryd.prog 76 := .of (by kernel_rfl)
instance : TyOne Tryd.prog 78 := .of (by kernel_rfl)
instance : TyOne Tryd.prog 79 := .of (by kernel_rfl)
instance : TyOne Tryd.prog 80 := .of (by kernel_rfl)
instance : TySlice Tryd.prog 81 83 := ⟨by kernel_rfl⟩
instance : TyOne Tryd.prog 81 := .of (by kernel_rfl)
instance : Elem Tryd.prog 81 1 24 := .of (by kernel_rfl)
instance : TyAgg Tryd.prog 82 6 := .of (by kernel_rfl)
instance : Elem Tryd.prog 82 6 72 := .of (by kernel_rfl)
instance : StructT Tryd.prog 82 [(0, 1), (1, 1), (2, 1), (3, 1), (4, 1), (5, 1)] [.int .i64 0, str [], .int .i64 0, .slice none 0 0, .int .i64 0, .int .i64 0] := .of (by kernel_rfl) (by kernel_rfl)
instance : Fld Tryd.prog 82 0 0 := .of (by kernel_rfl)
instance : Fld1 Tryd.prog 82 0 0 := .of (by kernel_rfl)
instance : Fld Tryd.prog 82 1 1 := .of (by kernel_rfl)
instance : Fld1 Tryd.prog 82 1 1 := .of (by kernel_rfl)
instance : Fld Tryd.prog 82 2 2 := .of (by kernel_rfl)
instance : Fld1 Tryd.prog 82 2 2 := .of (by kernel_rfl)
instance : Fld Tryd.prog 82 3 3 := .of (by kernel_rfl)
instance : Fld1 Tryd.prog 82 3 3 := .of (by kernel_rfl)
instance : Fld Tryd.prog 82 4 4 := .of (by kernel_rfl)
instance : Fld1 Tryd.prog 82 4 4 := .of (by kernel_rfl)
instance : Fld Tryd.prog 82 5 5 := .of (by kernel_rfl)
instance : Fld1 Tryd.prog 82 5 5 := .of (by kernel_rfl)
instance : TyAgg Tryd.prog 83 6 := .of (by kernel_rfl)
instance : Elem Tryd.prog 83 6 72 := .of (by kernel_rfl)
instance : StructT Tryd.prog 83 [(0, 1), (1, 1), (2, 1), (3, 1), (4, 1), (5, 1)] [.int .i64 0, str [], .int .i64 0, .slice none 0 0, .int .i64 0, .int .i64 0] := .of (by kernel_rfl) (by kernel_rfl)
instance : Fld Tryd.prog 83 0 0 := .of (by kernel_rfl)
instance : Fld1 Tryd.prog 83 0 0 := .of (by kernel_rfl)
instance : Fld Tryd.prog 83 1 1 := .of (by kernel_rfl)
instance : Fld1 Tryd.prog 83 1 1 := .of (by kernel_rfl)
instance : Fld Tryd.prog 83 2 2 := .of (by kernel_rfl)
instance : Fld1 Tryd.prog 83 2 2 := .of (by kernel_rfl)
instance : Fld Tryd.prog 83 3 3 := .of (by kernel_rfl)
instance : Fld1 Tryd.prog 83 3 3 := .of (by kernel_rfl)
instance : Fld Tryd.prog 83 4 4 := .of (by kernel_rfl)
instance : Fld1 Tryd.prog 83 4 4 := .of (by kernel_rfl)
instance : Fld Tryd.prog 83 5 5 := .of (by kernel_rfl)
instance : Fld1 Tryd.prog 83 5 5 := .of (by kernel_rfl)
instance : TyAgg Tryd.prog 84 15 := .of (by kernel_rfl)
instance : Elem Tryd.prog 84 15 184 := .of (by kernel_rfl)
instance : StructT Tryd.prog 84 [(0, 1), (1, 1), (2, 1), (3, 1), (4, 1), (5, 6), (11, 1), (12, 1), (13, 1), (14, 1)] [.int .i64 0, str [], .int .i64 0, .int .i64 0, .bool false, .int .i64 0, str [], .int .i64 0, .slice none 0 0, .int .i64 0, .int .i64 0, .slice none 0 0, .slice none 0 0, .int .i64 0, .int .i64 0] := .of (by kernel_rfl) (by kernel_rfl)
instance : Fld Tryd.prog 84 0 0 := .of (by kernel_rfl)
instance : Fld1 Tryd.prog 84 0 0 := .of (by kernel_rfl)
instance : Fld Tryd.prog 84 1 1 := .of (by kernel_rfl)
instance : Fld1 Tryd.prog 84 1 1 := .of (by kernel_rfl)
instance : Fld Tryd.prog 84 2 2 := .of (by kernel_rfl)
instance : Fld1 Tryd.prog 84 2 2 := .of (by kernel_rfl)
instance : Fld Tryd.prog 84 3 3 := .of (by kernel_rfl)
instance : Fld1 Tryd.prog 84 3 3 := .of (by kernel_rfl)
instance : Fld Tryd.prog 84 4 4 := .of (by kernel_rfl)
instance : Fld1 Tryd.prog 84 4 4 := .of (by kernel_rfl)
instance : Fld Tryd.prog 84 5 5 := .of (by kernel_rfl)
instance : Fld Tryd.prog 84 6 11 := .of (by kernel_rfl)
instance : Fld1 Tryd.prog 84 6 11 := .of (by kernel_rfl)
instance : Fld Tryd.prog 84 7 12 := .of (by kernel_rfl)
instance : Fld1 Tryd.prog 84 7 12 := .of (by kernel_rfl)
instance : Fld Tryd.prog 84 8 13 := .of (by kernel_rfl)
instance : Fld1 Tryd.prog 84 8 13 := .of (by kernel_rfl)
instance : Fld Tryd.prog 84 9 14 := .of (by kernel_rfl)
instance : Fld1 Tryd.prog 84 9 14 := .of (by kernel_rfl)
instance : TyAgg Tryd.prog 85 15 := .of (by kernel_rfl)
instance : Elem Tryd.prog 85 15 184 := .of (by kernel_rfl)
instance : StructT Tryd.prog 85 [(0, 1), (1, 1), (2, 1), (3, 1), (4, 1), (5, 6), (11, 1), (12, 1), (13, 1), (14, 1)] [.int .i64 0, str [], .int .i64 0, .int .i64 0, .bool false, .int .i64 0, str [], .int .i64 0, .slice none 0 0, .int .i64 0, .int .i64 0, .slice none 0 0, .slice none 0 0, .int .i64 0, .int .i64 0] := .of (by kernel_rfl) (by kernel_rfl)
instance : Fld Tryd.prog 85 0 0 := .of (by kernel_rfl)
instance : Fld1 Tryd.prog 85 0 0 := .of (by kernel_rfl)
instance : Fld Tryd.prog 85 1 1 := .of (by kernel_rfl)
instance : Fld1 Tryd.prog 85 1 1 := .of (by kernel_rfl)
instance : Fld Tryd.prog 85 2 2 := .of (by kernel_rfl)
instance : Fld1 Tryd.prog 85 2 2 := .of (by kernel_rfl)
instance : Fld Tryd.prog 85 3 3 := .of (by kernel_rfl)
instance : Fld1 Tryd.prog 85 3 3 := .of (by kernel_rfl)
instance : Fld Tryd.prog 85 4 4 := .of (by kernel_rfl)
instance : Fld1 Tryd.prog 85 4 4 := .of (by kernel_rfl)
instance : Fld Tryd.prog 85 5 5 := .of (by kernel_rfl)
instance : Fld Tryd.prog 85 6 11 := .of (by kernel_rfl)
instance : Fld1 Tryd.prog 85 6 11 := .of (by kernel_rfl)
instance : Fld Tryd.prog 85 7 12 := .of (by kernel_rfl)
instance : Fld1 Tryd.prog 85 7 12 := .of (by kernel_rfl)
instance : Fld Tryd.prog 85 8 13 := .of (by kernel_rfl)
instance : Fld1 Tryd.prog 85 8 13 := .of (by kernel_rfl)
instance : Fld Tryd.prog 85 9 14 := .of (by kernel_rfl)
instance : Fld1 Tryd.prog 85 9 14 := .of (by kernel_rfl)
instance : TyOne Tryd.prog 86 := .of (by kernel_rfl)
instance : TyOne Tryd.prog 87 := .of (by kernel_rfl)
instance : TyOne Tryd.prog 88 := .of (by kernel_rfl)
instance : TyOne Tryd.prog 89 := .of (by kernel_rfl)
instance : TySlice Tryd.prog 90 9 := ⟨by kernel_rfl⟩
instance : TyOne Tryd.prog 90 := .of (by kernel_rfl)
instance : Elem Tryd.prog 90 1 24 := .of (by kernel_rfl)
instance : TyOne Tryd.prog 91 := .of (by kernel_rfl)
instance : TyOne Tryd.prog 92 := .of (by kernel_rfl)
instance : TyOne Tryd.prog 93 := .of (by kernel_rfl)
instance : TyOne Tryd.prog 94 := .of (by kernel_rfl)
instance : TyOne Tryd.prog 95 := .of (by kernel_rfl)
instance : TyOne Tryd.prog 96 := .of (by kernel_rfl)
instance : TyOne Tryd.prog 97 := .of (by kernel_rfl)
instance : TyOne Tryd.prog 99 := .of (by kernel_rfl)
instance : TyOne Tryd.prog 100 := .of (by kernel_rfl)
instance : TyInt Tryd.prog 101 .i64 := ⟨by kernel_rfl⟩
instance : TyOne Tryd.prog 101 := .of (by kernel_rfl)
instance : Elem Tryd.prog 101 1 8 := .of (by kernel_rfl)
instance : TySlice Tryd.prog 102 5 := ⟨by kernel_rfl⟩
instance : TyOne Tryd.prog 102 := .of (by kernel_rfl)
instance : Elem Tryd.prog 102 1 24 := .of (by kernel_rfl)
instance : TyOne Tryd.prog 104 := .of (by kernel_rfl)
instance : TyOne Tryd.prog 105 := .of (by kernel_rfl)
instance : Elem Tryd.prog 105 1 8 := .of (by kernel_rfl)
instance : TyOne Tryd.prog 106 := .of (by kernel_rfl)
instance : TyOne Tryd.prog 107 := .of (by kernel_rfl)
instance : TyInt Tryd.prog 108 .u64 := ⟨by kernel_rfl⟩
instance : TyOne Tryd.prog 108 := .of (by kernel_rfl)
instance : Elem Tryd.prog 108 1 8 := .of (by kernel_rfl)
instance : TyOne Tryd.prog 110 := .of (by kernel_rfl)
instance : TyInt Tryd.prog 111 .u64 := ⟨by kernel_rfl⟩
instance : TyOne Tryd.prog 111 := .of (by kernel_rfl)
instance : Elem Tryd.prog 111 1 8 := .of (by kernel_rfl)
instance : TyOne Tryd.prog 112 := .of (by kernel_rfl)
instance : TyAgg Tryd.prog 113 3 := .of (by kernel_rfl)
instance : Elem Tryd.prog 113 3 48 := .of (by kernel_rfl)
instance : StructT Tryd.prog 113 [(0, 1), (1, 1), (2, 1)] [str [], str [], .nilIface] := .of (by kernel_rfl) (by kernel_rfl)
instance : Fld Tryd.prog 113 0 0 := .of (by kernel_rfl)
instance : Fld1 Tryd.prog 113 0 0 := .of (by kernel_rfl)
instance : Fld Tryd.prog 113 1 1 := .of (by kernel_rfl)
instance : Fld1 Tryd.prog 113 1 1 := .of (by kernel_rfl)
instance : Fld Tryd.prog 113 2 2 := .of (by kernel_rfl)
instance : Fld1 Tryd.prog 113 2 2 := .of (by kernel_rfl)
instance : TyAgg Tryd.prog 114 3 := .of (by kernel_rfl)
instance : Elem Tryd.prog 114 3 48 := .of (by kernel_rfl)
instance : StructT Tryd.prog 114 [(0, 1), (1, 1), (2, 1)] [str [], str [], .nilIface] := .of (by kernel_rfl) (by kernel_rfl)
instance : Fld Tryd.prog 114 0 0 := .of (by kernel_rfl)
instance : Fld1 Tryd.prog 114 0 0 := .of (by kernel_rfl)
instance : Fld Tryd.prog 114 1 1 := .of (by kernel_rfl)
instance : Fld1 Tryd.prog 114 1 1 := .of (by kernel_rfl)
instance : Fld Tryd.prog 114 2 2 := .of (by kernel_rfl)
instance : Fld1 Tryd.prog 114 2 2 := .of (by kernel_rfl)
instance : TyOne Tryd.prog 115 := .of (by kernel_rfl)
instance : TyOne Tryd.prog 116 := .of (by kernel_rfl)
instance : TyOne Tryd.prog 117 := .of (by kernel_rfl)
instance : TyOne Tryd.prog 118 := .of (by kernel_rfl)
instance : Elem Tryd.prog 118 1 8 := .of (by kernel_rfl)
instance : TyOne Tryd.prog 119 := .of (by kernel_rfl)
instance : Elem Tryd.prog 119 1 8 := .of (by kernel_rfl)
instance : TyAgg Tryd.prog 120 1 := .of (by kernel_rfl)
instance : Elem Tryd.prog 120 1 16 := .of (by kernel_rfl)
instance : StructT Tryd.prog 120 [(0, 1)] [str []] := .of (by kernel_rfl) (by kernel_rfl)
instance : Fld Tryd.prog 120 0 0 := .of (by kernel_rfl)
instance : Fld1 Tryd.prog 120 0 0 := .of (by kernel_rfl)
instance : TyAgg Tryd.prog 121 1 := .of (by kernel_rfl)
instance : Elem Tryd.prog 121 1 16 := .of (by kernel_rfl)
instance : StructT Tryd.prog 121 [(0, 1)] [str []] := .of (by kernel_rfl) (by kernel_rfl)
instance : Fld Tryd.prog 121 0 0 := .of (by kernel_rfl)
instance : Fld1 Tryd.prog 121 0 0 := .of (by kernel_rfl)
instance : TyOne Tryd.prog 122 := .of (by kernel_rfl)
instance : TyArr Tryd.prog 123 24 5 := ⟨by kernel_rfl⟩
instance : TyAgg Tryd.prog 123 24 := .of (by kernel_rfl)
instance : Elem Tryd.prog 123 24 24 := .of (by kernel_rfl)
instance : TyOne Tryd.prog 124 := .of (by kernel_rfl)
instance : TyOne Tryd.prog 125 := .of (by kernel_rfl)
instance : TyOne Tryd.prog 127 := .of (by kernel_rfl)
instance : TyOne Tryd.prog 128 := .of (by kernel_rfl)
instance : TyOne Tryd.prog 129 := .of (by kernel_rfl)
instance : TyArr Tryd.prog 130 20 108 := ⟨by kernel_rfl⟩
instance : TyAgg Tryd.prog 130 20 := .of (by kernel_rfl)
instance : Elem Tryd.prog 130 20 160 := .of (by kernel_rfl)
instance : TyInt Tryd.prog 131 .u32 := ⟨by kernel_rfl⟩
instance : TyOne Tryd.prog 131 := .of (by kernel_rfl)
instance : Elem Tryd.prog 131 1 4 := .of (by kernel_rfl)
instance : TyArr Tryd.prog 132 65 5 := ⟨by kernel_rfl⟩
instance : TyAgg Tryd.prog 132 65 := .of (by kernel_rfl)
instance : TyOne Tryd.prog 133 := .of (by kernel_rfl)
instance : TyOne Tryd.prog 134 := .of (by kernel_rfl)
instance : TyOne Tryd.prog 135 := .of (by kernel_rfl)
instance : TyArr Tryd.prog 136 32 5 := ⟨by kernel_rfl⟩
instance : TyAgg Tryd.prog 136 32 := .of (by kernel_rfl)
instance : Elem Tryd.prog 136 32 32 := .of (by kernel_rfl)
instance : TyArr Tryd.prog 137 64 5 := ⟨by kernel_rfl⟩
instance : TyAgg Tryd.prog 137 64 := .of (by kernel_rfl)
instance : Elem Tryd.prog 137 64 64 := .of (by kernel_rfl)
instance : TyAgg Tryd.prog 138 4 := .of (by kernel_rfl)
instance : Elem Tryd.prog 138 4 40 := .of (by kernel_rfl)
instance : StructT Tryd.prog 138 [(0, 1), (1, 1), (2, 1), (3, 1)] [.pointer none, .pointer none, .pointer none, str []] := .of (by kernel_rfl) (by kernel_rfl)
instance : Fld Tryd.prog 138 0 0 := .of (by kernel_rfl)
instance : Fld1 Tryd.prog 138 0 0 := .of (by kernel_rfl)
instance : Fld Tryd.prog 138 1 1 := .of (by kernel_rfl)
instance : Fld1 Tryd.prog 138 1 1 := .of (by kernel_rfl)
instance : Fld Tryd.prog 138 2 2 := .of (by kernel_rfl)
instance : Fld1 Tryd.prog 138 2 2 := .of (by kernel_rfl)
instance : Fld Tryd.prog 138 3 3 := .of (by kernel_rfl)
instance : Fld1 Tryd.prog 138 3 3 := .of (by kernel_rfl)
instance : TyAgg Tryd.prog 139 4 := .of (by kernel_rfl)
instance : Elem Tryd.prog 139 4 40 := .of (by kernel_rfl)
instance : StructT Tryd.prog 139 [(0, 1), (1, 1), (2, 1), (3, 1)] [.pointer none, .pointer none, .pointer none, str []] := .of (by kernel_rfl) (by kernel_rfl)
instance : Fld Tryd.prog 139 0 0 := .of (by kernel_rfl)
instance : Fld1 Tryd.prog 139 0 0 := .of (by kernel_rfl)
instance : Fld Tryd.prog 139 1 1 := .of (by kernel_rfl)
instance : Fld1 Tryd.prog 139 1 1 := .of (by kernel_rfl)
instance : Fld Tryd.prog 139 2 2 := .of (by kernel_rfl)
instance : Fld1 Tryd.prog 139 2 2 := .of (by kernel_rfl)
instance : Fld Tryd.prog 139 3 3 := .of (by kernel_rfl)
instance : Fld1 Tryd.prog 139 3 3 := .of (by kernel_rfl)
instance : TyArr Tryd.prog 140 0 16 := ⟨by kernel_rfl⟩
instance : TyInt Tryd.prog 143 .u8 := ⟨by kernel_rfl⟩
instance : TyOne Tryd.prog 143 := .of (by kernel_rfl)
instance : Elem Tryd.prog 143 1 1 := .of (by kernel_rfl)
instance : TyInt Tryd.prog 144 .u8 := ⟨by kernel_rfl⟩
instance : TyOne Tryd.prog 144 := .of (by kernel_rfl)
instance : Elem Tryd.prog 144 1 1 := .of (by kernel_rfl)
instance : TyOne Tryd.prog 145 := .of (by kernel_rfl)
instance : TyInt Tryd.prog 146 .i32 := ⟨by kernel_rfl⟩
instance : TyOne Tryd.prog 146 := .of (by kernel_rfl)
instance : Elem Tryd.prog 146 1 4 := .of (by kernel_rfl)
instance : TyInt Tryd.prog 147 .i32 := ⟨by kernel_rfl⟩
instance : TyOne Tryd.prog 147 := .of (by kernel_rfl)
instance : Elem Tryd.prog 147 1 4 := .of (by kernel_rfl)
instance : TyAgg Tryd.prog 148 11 := .of (by kernel_rfl)
instance : Elem Tryd.prog 148 11 48 := .of (by kernel_rfl)
instance : StructT Tryd.prog 148 [(0, 1), (1, 1), (2, 1), (3, 1), (4, 1), (5, 1), (6, 1), (7, 1), (8, 1), (9, 1), (10, 1)] [.int .u64 0, .int .u64 0, .int .u32 0, .int .u8 0, .int .u8 0, .int .u8 0, .int .u8 0, .nilFunc, .pointer none, .int .i32 0, .int .i32 0] := .of (by kernel_rfl) (by kernel_rfl)
instance : Fld Tryd.prog 148 0 0 := .of (by kernel_rfl)
instance : Fld1 Tryd.prog 148 0 0 := .of (by kernel_rfl)
instance : Fld Tryd.prog 148 1 1 := .of (by kernel_rfl)
instance : Fld1 Tryd.prog 148 1 1 := .of (by kernel_rfl)
instance : Fld Tryd.prog 148 2 2 := .of (by kernel_rfl)
instance : Fld1 Tryd.prog 148 2 2 := .of (by kernel_rfl)
instance : Fld Tryd.prog 148 3 3 := .of (by kernel_rfl)
instance : Fld1 Tryd.prog 148 3 3 := .of (by kernel_rfl)
instance : Fld Tryd.prog 148 4 4 := .of (by kernel_rfl)
instance : Fld1 Tryd.prog 148 4 4 := .of (by kernel_rfl)
instance : Fld Tryd.prog 148 5 5 := .of (by kernel_rfl)
instance : Fld1 Tryd.prog 148 5 5 := .of (by kernel_rfl)
instance : Fld Tryd.prog 148 6 6 := .of (by kernel_rfl)
instance : Fld1 Tryd.prog 148 6 6 := .of (by kernel_rfl)
instance : Fld Tryd.prog 148 7 7 := .of (by kernel_rfl)
instance : Fld1 Tryd.prog 148 7 7 := .of (by kernel_rfl)
instance : Fld Tryd.prog 148 8 8 := .of (by kernel_rfl)
instance : Fld1 Tryd.prog 148 8 8 := .of (by kernel_rfl)
instance : Fld Tryd.prog 148 9 9 := .of (by kernel_rfl)
instance : Fld1 Tryd.prog 148 9 9 := .of (by kernel_rfl)
instance : Fld Tryd.prog 148 10 10 := .of (by kernel_rfl)
instance : Fld1 Tryd.prog 148 10 10 := .of (by kernel_rfl)
instance : TyAgg Tryd.prog 149 11 := .of (by kernel_rfl)
instance : Elem Tryd.prog 149 11 48 := .of (by kernel_rfl)
instance : StructT Tryd.prog 149 [(0, 1), (1, 1), (2, 1), (3, 1), (4, 1), (5, 1), (6, 1), (7, 1), (8, 1), (9, 1), (10, 1)] [.int .u64 0, .int .u64 0, .int .u32 0, .int .u8 0, .int .u8 0, .int .u8 0, .int .u8 0, .nilFunc, .pointer none, .int .i32 0, .int .i32 0] := .of (by kernel_rfl) (by kernel_rfl)
instance : Fld Tryd.prog 149 0 0 := .of (by kernel_rfl)
instance : Fld1 Tryd.prog 149 0 0 := .of (by kernel_rfl)
instance : Fld Tryd.prog 149 1 1 := .of (by kernel_rfl)
instance : Fld1 Tryd.prog 149 1 1 := .of (by kernel_rfl)
instance : Fld Tryd.prog 149 2 2 := .of (by kernel_rfl)
instance : Fld1 Tryd.prog 149 2 2 := .of (by kernel_rfl)
instance : Fld Tryd.prog 149 3 3 := .of (by kernel_rfl)
instance : Fld1 Tryd.prog 149 3 3 := .of (by kernel_rfl)
instance : Fld Tryd.prog 149 4 4 := .of (by kernel_rfl)
instance : Fld1 Tryd.prog 149 4 4 := .of (by kernel_rfl)
instance : Fld Tryd.prog 149 5 5 := .of (by kernel_rfl)
instance : Fld1 Tryd.prog 149 5 5 := .of (by kernel_rfl)
instance : Fld Tryd.prog 149 6 6 := .of (by kernel_rfl)
instance : Fld1 Tryd.prog 149 6 6 := .of (by kernel_rfl)
instance : Fld Tryd.prog 149 7 7 := .of (by kernel_rfl)
instance : Fld1 Tryd.prog 149 7 7 := .of (by kernel_rfl)
instance : Fld Tryd.prog 149 8 8 := .of (by kernel_rfl)
instance : Fld1 Tryd.prog 149 8 8 := .of (by kernel_rfl)
instance : Fld Tryd.prog 149 9 9 := .of (by kernel_rfl)
instance : Fld1 Tryd.prog 149 9 9 := .of (by kernel_rfl)
instance : Fld Tryd.prog 149 10 10 := .of (by kernel_rfl)
instance : Fld1 Tryd.prog 149 10 10 := .of (by kernel_rfl)
instance : TyOne Tryd.prog 150 := .of (by kernel_rfl)
instance : Own Tryd.prog 3 := .of (by kernel_rfl)
instance : Own Tryd.prog 4 := .of (by kernel_rfl)
instance : Own Tryd.prog 5 := .of (by kernel_rfl)
instance : Own Tryd.prog 6 := .of (by kernel_rfl)
instance : Own Tryd.prog 7 := .of (by kernel_rfl)
instance : Own Tryd.prog 8 := .of (by kernel_rfl)
instance : Own Tryd.prog 9 := .of (by kernel_rfl)
instance : Own Tryd.prog 10 := .of (by kernel_rfl)
instance : Own Tryd.prog 11 := .of (by kernel_rfl)
instance : Own Tryd.prog 12 := .of (by kernel_rfl)
instance : Own Tryd.prog 13 := .of (by kernel_rfl)
instance : Own Tryd.prog 14 := .of (by kernel_rfl)
instance : Own Tryd.prog 15 := .of (by kernel_rfl)
instance : Own Tryd.prog 16 := .of (by kernel_rfl)
instance : Own Tryd.prog 17 := .of (by kernel_rfl)
instance : Own Tryd.prog 18 := .of (by kernel_rfl)
instance : Own Tryd.prog 19 := .of (by kernel_rfl)
instance : Own Tryd.prog 20 := .of (by kernel_rfl)
instance : Own Tryd.prog 21 := .of (by kernel_rfl)
instance : Own Tryd.prog 22 := .of (by kernel_rfl)
instance : Own Tryd.prog 23 := .of (by kernel_rfl)
instance : Own Tryd.prog 24 := .of (by kernel_rfl)
instance : Own Tryd.prog 25 := .of (by kernel_rfl)
instance : Own Tryd.prog 26 := .of (by kernel_rfl)
instance : Own Tryd.prog 27 := .of (by kernel_rfl)
instance : Own Tryd.prog 28 := .of (by kernel_rfl)
instance : Own Tryd.prog 29 := .of (by kernel_rfl)
instance : Own Tryd.prog 30 := .of (by kernel_rfl)
instance : Own Tryd.prog 31 := .of (by kernel_rfl)
instance : Own Tryd.prog 32 := .of (by kernel_rfl)
instance : Own Tryd.prog 33 := .of (by kernel_rfl)
instance : Own Tryd.prog 34 := .of (by kernel_rfl)
instance : Own Tryd.prog 35 := .of (by kernel_rfl)
instance : Own Tryd.prog 36 := .of (by kernel_rfl)
instance : Own Tryd.prog 37 := .of (by kernel_rfl)
instance : Own Tryd.prog 38 := .of (by kernel_rfl)
instance : Own Tryd.prog 39 := .of (by kernel_rfl)
instance : Own Tryd.prog 40 := .of (by kernel_rfl)
instance : Own Tryd.prog 41 := .of (by kernel_rfl)
instance : Own Tryd.prog 42 := .of (by kernel_rfl)
instance : Own Tryd.prog 43 := .of (by kernel_rfl)
instance : Own Tryd.prog 44 := .of (by kernel_rfl)
instance : Own Tryd.prog 45 := .of (by kernel_rfl)
instance : Own Tryd.prog 46 := .of (by kernel_rfl)
instance : Own Tryd.prog 47 := .of (by kernel_rfl)
instance : Own Tryd.prog 48 := .of (by kernel_rfl)
instance : Own Tryd.prog 49 := .of (by kernel_rfl)
instance : Own Tryd.prog 50 := .of (by kernel_rfl)
instance : Own Tryd.prog 51 := .of (by kernel_rfl)
instance : Own Tryd.prog 52 := .of (by kernel_rfl)
instance : Own Tryd.prog 53 := .of (by kernel_rfl)
instance : Own Tryd.prog 54 := .of (by kernel_rfl)
instance : Own Tryd.prog 55 := .of (by kernel_rfl)
instance : Own Tryd.prog 56 := .of (by kernel_rfl)
instance : Own Tryd.prog 57 := .of (by kernel_rfl)
instance : Own Tryd.prog 58 := .of (by kernel_rfl)
instance : Own Tryd.prog 60 := .of (by kernel_rfl)
instance : Own Tryd.prog 62 := .of (by kernel_rfl)
instance : Own Tryd.prog 63 := .of (by kernel_rfl)
instance : Own Tryd.prog 64 := .of (by kernel_rfl)
instance : Own Tryd.prog 65 := .of (by kernel_rfl)
instance : Own Tryd.prog 68 := .of (by kernel_rfl)
instance : Own Tryd.prog 69 := .of (by kernel_rfl)
instance : Own Tryd.prog 79 := .of (by kernel_rfl)
instance : Own Tryd.prog 82 := .of (by kernel_rfl)
instance : Own Tryd.prog 83 := .of (by kernel_rfl)
instance : Own Tryd.prog 84 := .of (by kernel_rfl)
end Go.Proofs.YtjfkjpbkmpofkaaDoor
end
section
namespace Go.Sp
def bit (n k : Nat) : Bool := decide (n / 2 ^ k % 2 = 1)
end Go.Sp
end
section
namespace Go.Sp
def isLetter (c : UInt8) : Bool := (decide (97 ≤ c.toNat) && decide (c.toNat ≤ 122)) || (decide (65 ≤ c.toNat) && decide (c.toNat ≤ 90)) || decide (c.toNat = 95)
def isDigit (c : UInt8) : Bool := decide (48 ≤ c.toNat) && decide (c.toNat ≤ 57)
def isBlank (c : UInt8) : Bool := decide (c.toNat = 32) || decide (c.toNat = 10) || decide (c.toNat = 9)
def signs : List UInt8 := [40, 41, 123, 125, 44, 58, 59, 61, 43, 45, 42, 60]
def isSign (c : UInt8) : Bool := signs.any (fun x => decide (x = c))
def isWord (c : UInt8) : Bool := isLetter c || isDigit c
def noLine (c : UInt8) : Bool := decide (c.toNat ≠ 10)

/-- one, and those behind it for which 'F' holds. -/
def run (F : UInt8 → Bool) (r : List UInt8) : Nat := 1 + (r.takeWhile F).length

def one : List UInt8 → Nat × Nat
  | [] => (4, 1)
  | c :: r =>
    if isBlank c then (0, run isBlank r) else
    if c.toNat = 35 then (0, run noLine r) else
    if isLetter c then (1, run isWord r) else
    if isDigit c then (2, run isDigit r) else
    if isSign c then (3, 1) else (4, 1)

structure Tok where
  kind : Nat
  text : List UInt8
  pos : Nat
  deriving DecidableEq

def toks : Nat → List UInt8 → Nat → List Tok
  | 0, _, _ => []
  | f + 1, s, at_ =>
    if s = [] then [] else
    if (one s).1 > 0 then ⟨(one s).1, s.take (one s).2, at_⟩ :: toks f (s.drop (one s).2) (at_ + (one s).2)
    else toks f (s.drop (one s).2) (at_ + (one s).2)
def tokens (s : List UInt8) : List Tok := toks s.length s 0

theorem takeWhile_len (F : UInt8 → Bool) : ∀ (r : List UInt8) (m : Nat), (∀ j, j < m → F (r.getD j 0) = true) → m ≤ r.length → (m = r.length ∨ F (r.getD m 0) = false) → (r.takeWhile F).length = m
  | [], m, _, h2, _ => by simp at h2; simp [h2]
  | c :: r, 0, _, _, h3 => by
    have : F c = false := by simpa using h3
    simp [this]
  | c :: r, m + 1, h1, h2, h3 => by
    have h0 : F c = true := by simpa using h1 0 (by omega)
    have := takeWhile_len F r m (fun j hj => by simpa using h1 (j + 1) (by omega)) (by simpa using h2) (by simpa using h3)
    simp [h0, this]
theorem run_eq (F : UInt8 → Bool) (s : List UInt8) (k : Nat) (h0 : 1 ≤ k) (h1 : ∀ j, 1 ≤ j → j < k → F (s.getD j 0) = true) (h2 : k ≤ s.length) (h3 : k = s.length ∨ F (s.getD k 0) = false) : run F s.tail = k := by
  cases s with
  | nil => simp at h2; omega
  | cons c r =>
    obtain ⟨m, rfl⟩ : ∃ m, k = m + 1 := ⟨k - 1, by omega⟩
    have := takeWhile_len F r m (fun j hj => by simpa using h1 (j + 1) (by omega) (by omega)) (by simpa using h2) (by simpa using h3)
    simp [run, this]; omega
theorem run_le (F : UInt8 → Bool) (s : List UInt8) (h : s ≠ []) : 1 ≤ run F s.tail ∧ run F s.tail ≤ s.length := by
  cases s with
  | nil => exact absurd rfl h
  | cons c r =>
    have := (List.takeWhile_prefix F (l := r)).length_le
    simp [run]; omega
theorem one_le (s : List UInt8) (h : s ≠ []) : 1 ≤ (one s).2 ∧ (one s).2 ≤ s.length := by
  cases s with
  | nil => exact absurd rfl h
  | cons c r =>
    simp only [one]
    have h1 := fun F => run_le F (c :: r) (by simp)
    simp only [List.tail_cons] at h1
    repeat' split
    all_goals first | exact h1 _ | simp
theorem toks_fuel : ∀ (f g : Nat) (s : List UInt8) (p : Nat), s.length ≤ f → s.length ≤ g → toks f s p = toks g s p
  | 0, 0, _, _, _, _ => rfl
  | 0, g + 1, s, p, h, _ => by
    have : s = [] := List.eq_nil_of_length_eq_zero (by omega)
    simp [toks, this]
  | f + 1, 0, s, p, _, h => by
    have : s = [] := List.eq_nil_of_length_eq_zero (by omega)
    simp [toks, this]
  | f + 1, g + 1, s, p, h1, h2 => by
    by_cases hs : s = []
    · simp [toks, hs]
    · have := one_le s hs
      simp only [toks, hs, if_false]
      rw [toks_fuel f g (s.drop (one s).2) _ (by simp; omega) (by simp; omega)]
/-- the tokens of what stands behind a place. -/
def toksAt (s : List UInt8) (k : Nat) : List Tok := toks (s.length - k) (s.drop k) k
theorem toksAt_end (s : List UInt8) (k : Nat) (h : s.length ≤ k) : toksAt s k = [] := by
  have : s.length - k = 0 := by omega
  simp [toksAt, this, toks]
theorem toksAt_step (s : List UInt8) (k : Nat) (h : k < s.length) :
    toksAt s k = (if (one (s.drop k)).1 > 0 then [⟨(one (s.drop k)).1, (s.drop k).take (one (s.drop k)).2, k⟩] else []) ++ toksAt s (k + (one (s.drop k)).2) := by
  have hne : s.drop k ≠ [] := by simp; omega
  have hl := one_le _ hne
  simp only [List.length_drop] at hl
  obtain ⟨f, hf⟩ : ∃ f, s.length - k = f + 1 := ⟨s.length - k - 1, by omega⟩
  have e : toks f (s.drop (k + (one (s.drop k)).2)) (k + (one (s.drop k)).2) = toksAt s (k + (one (s.drop k)).2) :=
    toks_fuel _ _ _ _ (by simp; omega) (by simp)
  unfold toksAt
  rw [hf]
  simp only [toks, hne, if_false, List.drop_drop]
  rw [e]
  split <;> rfl
theorem tokens_eq (s : List UInt8) : tokens s = toksAt s 0 := by simp [tokens, toksAt]

theorem take_one (s : List UInt8) (k : Nat) (h : k < s.length) : (s.drop k).take 1 = [s.getD k 0] := by
  rw [List.drop_eq_getElem_cons h, List.take_succ_cons, List.take_zero, List.getD_eq_getElem?_getD, List.getElem?_eq_getElem h]
  rfl
/-! the reference's way: state by state -/
def rcls (c : UInt8) : Nat := if isBlank c then 0 else if c.toNat = 35 then 9 else if isLetter c then 1 else if isDigit c then 2 else if isSign c then 3 else 4
def addLast (l : List Tok) (c : UInt8) : List Tok := match l.getLast? with
  | none => []
  | some t => l.dropLast ++ [⟨t.kind, t.text ++ [c], t.pos⟩]
def rstep (c : UInt8) (i : Nat) (x : Nat × List Tok) : Nat × List Tok :=
  if x.1 = 9 ∧ c.toNat ≠ 10 then x else
  if (x.1 = 1 ∧ isWord c = true) ∨ (x.1 = 2 ∧ isDigit c = true) then (x.1, addLast x.2 c) else
  if rcls c = 0 ∨ rcls c = 9 then (rcls c, x.2) else
  if rcls c = 1 ∨ rcls c = 2 then (rcls c, x.2 ++ [⟨rcls c, [c], i⟩]) else (0, x.2 ++ [⟨rcls c, [c], i⟩])
def rtoks (s : List UInt8) : Nat → Nat × List Tok
  | 0 => (0, [])
  | k + 1 => rstep (s.getD k 0) k (rtoks s k)
def rtokens (s : List UInt8) : List Tok := (rtoks s s.length).2

def ownWords : List (List UInt8) := [[102, 110], [99, 104, 97, 110], [108, 101, 116], [105, 102], [101, 108, 115, 101], [119, 104, 105, 108, 101], [115, 101, 110, 100], [114, 101, 116, 117, 114, 110], [115, 101, 110, 100, 115]]
def word (s : List UInt8) : Bool := decide (1 ≤ s.length) && decide (s.length ≤ 12) && isLetter (s.getD 0 0) && s.all isWord
def name (s : List UInt8) : Bool := !(ownWords.any (fun w => decide (s = w))) && word s
theorem all_iff (F : UInt8 → Bool) (s : List UInt8) : s.all F = true ↔ ∀ j, j < s.length → F (s.getD j 0) = true := by
  rw [List.all_eq_true]
  constructor
  · intro h j hj
    rw [List.getD_eq_getElem?_getD, List.getElem?_eq_getElem hj]
    exact h _ (List.getElem_mem hj)
  · intro h x hx
    obtain ⟨j, hj, rfl⟩ := List.mem_iff_getElem.1 hx
    have := h j hj
    rwa [List.getD_eq_getElem?_getD, List.getElem?_eq_getElem hj] at this
end Go.Sp
end
section
namespace Go.Sp

theorem drop_cons (s : List UInt8) (k : Nat) (h : k < s.length) : s.drop k = s.getD k 0 :: s.drop (k + 1) := by
  rw [List.drop_eq_getElem_cons h, List.getD_eq_getElem?_getD, List.getElem?_eq_getElem h]; rfl
/-- how far 'F' goes from a place on. -/
def ext (F : UInt8 → Bool) (s : List UInt8) (k : Nat) : List UInt8 := (s.drop k).takeWhile F
theorem ext_yes {F : UInt8 → Bool} {s : List UInt8} {k : Nat} (h : k < s.length) (hf : F (s.getD k 0) = true) : ext F s k = s.getD k 0 :: ext F s (k + 1) := by
  rw [ext, drop_cons s k h, List.takeWhile_cons, if_pos hf]; rfl
theorem ext_no {F : UInt8 → Bool} {s : List UInt8} {k : Nat} (h : k < s.length) (hf : F (s.getD k 0) = false) : ext F s k = [] := by
  rw [ext, drop_cons s k h, List.takeWhile_cons, if_neg (by rw [hf]; simp)]
theorem ext_end {F : UInt8 → Bool} {s : List UInt8} {k : Nat} (h : s.length ≤ k) : ext F s k = [] := by
  rw [ext, List.drop_eq_nil_of_le h]; rfl
theorem take_ext (F : UInt8 → Bool) (s : List UInt8) (k : Nat) : (s.drop k).take (ext F s k).length = ext F s k := by
  exact (List.prefix_iff_eq_take.1 (List.takeWhile_prefix F)).symm
theorem one_cons (s : List UInt8) (k : Nat) (h : k < s.length) : one (s.drop k) =
    if isBlank (s.getD k 0) then (0, 1 + (ext isBlank s (k + 1)).length) else
    if (s.getD k 0).toNat = 35 then (0, 1 + (ext noLine s (k + 1)).length) else
    if isLetter (s.getD k 0) then (1, 1 + (ext isWord s (k + 1)).length) else
    if isDigit (s.getD k 0) then (2, 1 + (ext isDigit s (k + 1)).length) else
    if isSign (s.getD k 0) then (3, 1) else (4, 1) := by
  rw [drop_cons s k h]; rfl

theorem toksAt_blanks (s : List UInt8) (k : Nat) : toksAt s k = toksAt s (k + (ext isBlank s k).length) := by
  by_cases h : k < s.length
  · cases hb : isBlank (s.getD k 0) with
    | false => rw [ext_no h hb]; rfl
    | true =>
      rw [toksAt_step s k h, one_cons s k h, if_pos hb, ext_yes h hb]
      simp [Nat.add_comm]
  · rw [ext_end (by omega)]; rfl
theorem toksAt_blank (s : List UInt8) (k : Nat) (h : k < s.length) (hb : isBlank (s.getD k 0) = true) : toksAt s k = toksAt s (k + 1) := by
  rw [toksAt_step s k h, one_cons s k h, if_pos hb, toksAt_blanks s (k + 1)]
  simp [Nat.add_assoc]

/-- what is there, in what state, goes on so. -/
def cont (s : List UInt8) (st : Nat) (out : List Tok) (k : Nat) : List Tok :=
  if st = 9 then out ++ toksAt s (k + (ext noLine s k).length) else
  if st = 1 ∨ st = 2 then match out.getLast? with
    | none => []
    | some t => out.dropLast ++ [⟨t.kind, t.text ++ ext (if st = 1 then isWord else isDigit) s k, t.pos⟩] ++ toksAt s (k + (ext (if st = 1 then isWord else isDigit) s k).length)
  else out ++ toksAt s k

theorem cont9 (s : List UInt8) (out : List Tok) (k : Nat) : cont s 9 out k = out ++ toksAt s (k + (ext noLine s k).length) := by simp [cont]
theorem cont0 (s : List UInt8) (out : List Tok) (k : Nat) : cont s 0 out k = out ++ toksAt s k := by simp [cont]
theorem cont1 (s : List UInt8) (l : List Tok) (t : Tok) (k : Nat) : cont s 1 (l ++ [t]) k = l ++ [⟨t.kind, t.text ++ ext isWord s k, t.pos⟩] ++ toksAt s (k + (ext isWord s k).length) := by simp [cont]
theorem cont2 (s : List UInt8) (l : List Tok) (t : Tok) (k : Nat) : cont s 2 (l ++ [t]) k = l ++ [⟨t.kind, t.text ++ ext isDigit s k, t.pos⟩] ++ toksAt s (k + (ext isDigit s k).length) := by simp [cont]
theorem cont_fresh (s : List UInt8) (out : List Tok) (k : Nat) (h : k < s.length) :
    out ++ toksAt s k = (fun x : Nat × List Tok => cont s x.1 x.2 (k + 1)) (if rcls (s.getD k 0) = 0 ∨ rcls (s.getD k 0) = 9 then (rcls (s.getD k 0), out) else
      if rcls (s.getD k 0) = 1 ∨ rcls (s.getD k 0) = 2 then (rcls (s.getD k 0), out ++ [⟨rcls (s.getD k 0), [s.getD k 0], k⟩]) else (0, out ++ [⟨rcls (s.getD k 0), [s.getD k 0], k⟩])) := by
  have h1 := one_cons s k h
  have hst := toksAt_step s k h
  have ht : ∀ F, (s.drop k).take (1 + (ext F s (k + 1)).length) = s.getD k 0 :: ext F s (k + 1) := fun F => by
    rw [drop_cons s k h, Nat.add_comm, List.take_succ_cons, take_ext]
  have ht1 : (s.drop k).take 1 = [s.getD k 0] := take_one s k h
  unfold rcls
  cases hb : isBlank (s.getD k 0) with
  | true =>
    simp only [if_true, true_or]
    rw [cont0, toksAt_blank s k h hb]
  | false =>
    rw [hb] at h1
    simp only [Bool.false_eq_true, if_false] at h1 ⊢
    by_cases h35 : (s.getD k 0).toNat = 35
    · rw [if_pos h35] at h1 ⊢
      rw [h1] at hst
      simp only [or_true, if_true]
      rw [cont9, hst]
      simp [Nat.add_assoc]
    · rw [if_neg h35] at h1 ⊢
      cases hl : isLetter (s.getD k 0) with
      | true =>
        rw [if_pos hl] at h1
        rw [h1] at hst
        simp only [if_true]
        rw [if_neg (by decide), if_pos (by decide), cont1, hst]
        simp [ht, Nat.add_assoc]
      | false =>
        rw [if_neg (by rw [hl]; simp)] at h1
        simp only [Bool.false_eq_true, if_false]
        cases hd : isDigit (s.getD k 0) with
        | true =>
          rw [if_pos hd] at h1
          rw [h1] at hst
          simp only [if_true]
          rw [if_neg (by decide), if_pos (by decide), cont2, hst]
          simp [ht, Nat.add_assoc]
        | false =>
          rw [if_neg (by rw [hd]; simp)] at h1
          simp only [Bool.false_eq_true, if_false]
          cases hs : isSign (s.getD k 0) with
          | true =>
            rw [if_pos hs] at h1
            rw [h1] at hst
            simp only [if_true]
            rw [if_neg (by decide), if_neg (by decide), cont0, hst]
            simp [ht1]
          | false =>
            rw [if_neg (by rw [hs]; simp)] at h1
            rw [h1] at hst
            simp only [Bool.false_eq_true, if_false]
            rw [if_neg (by decide), if_neg (by decide), cont0, hst]
            simp [ht1]

theorem rtoks_cont (s : List UInt8) : ∀ k, k ≤ s.length → cont s (rtoks s k).1 (rtoks s k).2 k = tokens s ∧ ((rtoks s k).1 = 1 ∨ (rtoks s k).1 = 2 → (rtoks s k).2 ≠ [])
  | 0, _ => ⟨by rw [rtoks, cont, if_neg (by decide), if_neg (by decide), tokens_eq]; rfl, by simp [rtoks]⟩
  | k + 1, hk => by
    have h : k < s.length := by omega
    obtain ⟨ih, ihne⟩ := rtoks_cont s k (by omega)
    rw [rtoks]
    generalize rtoks s k = x at ih ihne
    obtain ⟨st, out⟩ := x
    dsimp only at ih ihne
    rw [← ih]
    have hfr := cont_fresh s out k h
    have hne : ∀ (st' : Nat) (o' : List Tok), (if rcls (s.getD k 0) = 0 ∨ rcls (s.getD k 0) = 9 then (rcls (s.getD k 0), out) else
      if rcls (s.getD k 0) = 1 ∨ rcls (s.getD k 0) = 2 then (rcls (s.getD k 0), out ++ [⟨rcls (s.getD k 0), [s.getD k 0], k⟩]) else (0, out ++ [⟨rcls (s.getD k 0), [s.getD k 0], k⟩])) = (st', o') → st' = 1 ∨ st' = 2 → o' ≠ [] := by
      intro st' o' he h12
      split at he
      · rename_i h0
        injection he with e1 e2
        omega
      · split at he <;> (injection he with e1 e2; rw [← e2]; simp)
    unfold rstep
    dsimp only
    by_cases h9 : st = 9 ∧ (s.getD k 0).toNat ≠ 10
    · rw [if_pos h9]
      obtain ⟨rfl, hc⟩ := h9
      refine ⟨?_, fun h => by simp at h⟩
      have hf : noLine (s.getD k 0) = true := by simpa [noLine] using hc
      simp only [cont, if_true]
      rw [ext_yes h hf]
      simp only [List.length_cons]
      rw [show k + 1 + (ext noLine s (k + 1)).length = k + ((ext noLine s (k + 1)).length + 1) by omega]
    · rw [if_neg h9]
      by_cases hc : (st = 1 ∧ isWord (s.getD k 0) = true) ∨ (st = 2 ∧ isDigit (s.getD k 0) = true)
      · rw [if_pos hc]
        have h12 : st = 1 ∨ st = 2 := by omega
        have hn9 : st ≠ 9 := by omega
        have hne := ihne h12
        obtain ⟨l0, t, rfl⟩ : ∃ l0 t, out = l0 ++ [t] := ⟨out.dropLast, out.getLast hne, (List.dropLast_concat_getLast hne).symm⟩
        have hf : (if st = 1 then isWord else isDigit) (s.getD k 0) = true := by
          rcases hc with ⟨h1, h2⟩ | ⟨h1, h2⟩
          · rw [if_pos h1]; exact h2
          · rw [if_neg (by omega)]; exact h2
        have e : addLast (l0 ++ [t]) (s.getD k 0) = l0 ++ [⟨t.kind, t.text ++ [s.getD k 0], t.pos⟩] := by simp [addLast]
        dsimp only
        refine ⟨?_, fun _ => by rw [e]; simp⟩
        rw [e]
        simp only [cont, if_neg hn9, if_pos h12]
        rw [ext_yes h hf]
        simp
        rw [show k + 1 + (ext (if st = 1 then isWord else isDigit) s (k + 1)).length = k + ((ext (if st = 1 then isWord else isDigit) s (k + 1)).length + 1) by omega]
      · rw [if_neg hc]
        refine ⟨?_, fun h12 => hne _ _ rfl h12⟩
        refine Eq.trans hfr.symm ?_
        by_cases hs9 : st = 9
        · subst hs9
          have h10 : (s.getD k 0).toNat = 10 := by omega
          simp only [cont, if_true]
          rw [ext_no h (by simpa [noLine] using h10)]
          rfl
        · by_cases h12 : st = 1 ∨ st = 2
          · have hne := ihne h12
            obtain ⟨l0, t, rfl⟩ : ∃ l0 t, out = l0 ++ [t] := ⟨out.dropLast, out.getLast hne, (List.dropLast_concat_getLast hne).symm⟩
            have hf : (if st = 1 then isWord else isDigit) (s.getD k 0) = false := by
              rcases h12 with h1 | h1
              · rw [if_pos h1, Bool.eq_false_iff]; exact fun h2 => hc (.inl ⟨h1, h2⟩)
              · rw [if_neg (by omega), Bool.eq_false_iff]; exact fun h2 => hc (.inr ⟨h1, h2⟩)
            simp only [cont, if_neg hs9, if_pos h12]
            rw [ext_no h hf]
            simp
          · simp only [cont, if_neg hs9, if_neg h12]

theorem rtokens_eq (s : List UInt8) : rtokens s = tokens s := by
  obtain ⟨h1, h2⟩ := rtoks_cont s s.length (Nat.le_refl _)
  rw [← h1, rtokens]
  generalize rtoks s s.length = x at h2
  obtain ⟨st, out⟩ := x
  dsimp only at h2 ⊢
  unfold cont
  split
  · rw [ext_end (Nat.le_refl _), toksAt_end _ _ (by simp)]; simp
  · split
    · rename_i h12
      have hne := h2 h12
      obtain ⟨l0, t, rfl⟩ : ∃ l0 t, out = l0 ++ [t] := ⟨out.dropLast, out.getLast hne, (List.dropLast_concat_getLast hne).symm⟩
      rw [ext_end (Nat.le_refl _), toksAt_end _ _ (by simp)]
      simp
    · rw [toksAt_end _ _ (by simp)]; simp
end Go.Sp
end
