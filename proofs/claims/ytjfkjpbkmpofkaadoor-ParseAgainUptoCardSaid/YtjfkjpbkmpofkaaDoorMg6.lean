/- Own work: texts FwTy, SpecLabel, Spec, SpecLex, SpecCuts, SpecParse, one behind the other. -/
import Derived.Test.YtjfkjpbkmpofkaaDoorMg5
import Derived.Test.YtjfkjpbkmpofkaaDoorProg
import Derived.KernelRfl
section
namespace Go.Proofs.YtjfkjpbkmpofkaaDoor
open Go Go.Fw
instance : Mixed Tryd.prog := ⟨by kernel_rfl⟩
instance : TyOne Tryd.prog 1 := .of (by kernel_rfl)
instance : TyInt Tryd.prog 2 .i64 := ⟨by kernel_rfl⟩
instance : TyOne Tryd.prog 2 := .of (by kernel_rfl)
instance : Elem Tryd.prog 2 1 8 := .of (by kernel_rfl)
instance : TyInt Tryd.prog 3 .i64 := ⟨by kernel_rfl⟩
instance : TyOne Tryd.prog 3 := .of (by kernel_rfl)
instance : Elem Tryd.prog 3 1 8 := .of (by kernel_rfl)
instance : TyBool Tryd.prog 4 := ⟨by kernel_rfl⟩
instance : TyOne Tryd.prog 4 := .of (by kernel_rfl)
instance : Elem Tryd.prog 4 1 1 := .of (by kernel_rfl)
instance : TyInt Tryd.prog 5 .u8 := ⟨by kernel_rfl⟩
instance : TyOne Tryd.prog 5 := .of (by kernel_rfl)
instance : Elem Tryd.prog 5 1 1 := .of (by kernel_rfl)
instance : TyInt Tryd.prog 6 .u8 := ⟨by kernel_rfl⟩
instance : TyOne Tryd.prog 6 := .of (by kernel_rfl)
instance : Elem Tryd.prog 6 1 1 := .of (by kernel_rfl)
instance : TyAgg Tryd.prog 7 4 := .of (by kernel_rfl)
instance : Elem Tryd.prog 7 4 24 := .of (by kernel_rfl)
instance : StructT Tryd.prog 7 [(0, 1), (1, 1), (2, 1), (3, 1)] [.int .i64 0, .int .i64 0, .bool false, .int .u8 0] := .of (by kernel_rfl) (by kernel_rfl)
instance : Fld Tryd.prog 7 0 0 := .of (by kernel_rfl)
instance : Fld1 Tryd.prog 7 0 0 := .of (by kernel_rfl)
instance : Fld Tryd.prog 7 1 1 := .of (by kernel_rfl)
instance : Fld1 Tryd.prog 7 1 1 := .of (by kernel_rfl)
instance : Fld Tryd.prog 7 2 2 := .of (by kernel_rfl)
instance : Fld1 Tryd.prog 7 2 2 := .of (by kernel_rfl)
instance : Fld Tryd.prog 7 3 3 := .of (by kernel_rfl)
instance : Fld1 Tryd.prog 7 3 3 := .of (by kernel_rfl)
instance : TyAgg Tryd.prog 8 4 := .of (by kernel_rfl)
instance : Elem Tryd.prog 8 4 24 := .of (by kernel_rfl)
instance : StructT Tryd.prog 8 [(0, 1), (1, 1), (2, 1), (3, 1)] [.int .i64 0, .int .i64 0, .bool false, .int .u8 0] := .of (by kernel_rfl) (by kernel_rfl)
instance : Fld Tryd.prog 8 0 0 := .of (by kernel_rfl)
instance : Fld1 Tryd.prog 8 0 0 := .of (by kernel_rfl)
instance : Fld Tryd.prog 8 1 1 := .of (by kernel_rfl)
instance : Fld1 Tryd.prog 8 1 1 := .of (by kernel_rfl)
instance : Fld Tryd.prog 8 2 2 := .of (by kernel_rfl)
instance : Fld1 Tryd.prog 8 2 2 := .of (by kernel_rfl)
instance : Fld Tryd.prog 8 3 3 := .of (by kernel_rfl)
instance : Fld1 Tryd.prog 8 3 3 := .of (by kernel_rfl)
instance : TyStr Tryd.prog 9 := ⟨by kernel_rfl⟩
instance : TyOne Tryd.prog 9 := .of (by kernel_rfl)
instance : Elem Tryd.prog 9 1 16 := .of (by kernel_rfl)
instance : TyStr Tryd.prog 10 := ⟨by kernel_rfl⟩
instance : TyOne Tryd.prog 10 := .of (by kernel_rfl)
instance : Elem Tryd.prog 10 1 16 := .of (by kernel_rfl)
instance : TyStr Tryd.prog 11 := ⟨by kernel_rfl⟩
instance : TyOne Tryd.prog 11 := .of (by kernel_rfl)
instance : Elem Tryd.prog 11 1 16 := .of (by kernel_rfl)
instance : TyInt Tryd.prog 12 .u64 := ⟨by kernel_rfl⟩
instance : TyOne Tryd.prog 12 := .of (by kernel_rfl)
instance : Elem Tryd.prog 12 1 8 := .of (by kernel_rfl)
instance : TyAgg Tryd.prog 13 2 := .of (by kernel_rfl)
instance : Elem Tryd.prog 13 2 24 := .of (by kernel_rfl)
instance : StructT Tryd.prog 13 [(0, 1), (1, 1)] [str [], .int .u64 0] := .of (by kernel_rfl) (by kernel_rfl)
instance : Fld Tryd.prog 13 0 0 := .of (by kernel_rfl)
instance : Fld1 Tryd.prog 13 0 0 := .of (by kernel_rfl)
instance : Fld Tryd.prog 13 1 1 := .of (by kernel_rfl)
instance : Fld1 Tryd.prog 13 1 1 := .of (by kernel_rfl)
instance : TyAgg Tryd.prog 14 2 := .of (by kernel_rfl)
instance : Elem Tryd.prog 14 2 24 := .of (by kernel_rfl)
instance : StructT Tryd.prog 14 [(0, 1), (1, 1)] [str [], .int .u64 0] := .of (by kernel_rfl) (by kernel_rfl)
instance : Fld Tryd.prog 14 0 0 := .of (by kernel_rfl)
instance : Fld1 Tryd.prog 14 0 0 := .of (by kernel_rfl)
instance : Fld Tryd.prog 14 1 1 := .of (by kernel_rfl)
instance : Fld1 Tryd.prog 14 1 1 := .of (by kernel_rfl)
instance : TyOne Tryd.prog 15 := .of (by kernel_rfl)
instance : Elem Tryd.prog 15 1 8 := .of (by kernel_rfl)
instance : TyOne Tryd.prog 16 := .of (by kernel_rfl)
instance : Elem Tryd.prog 16 1 8 := .of (by kernel_rfl)
instance : TyOne Tryd.prog 17 := .of (by kernel_rfl)
instance : Elem Tryd.prog 17 1 8 := .of (by kernel_rfl)
instance : TyAgg Tryd.prog 18 1 := .of (by kernel_rfl)
instance : Elem Tryd.prog 18 1 8 := .of (by kernel_rfl)
instance : StructT Tryd.prog 18 [(0, 1)] [.pointer none] := .of (by kernel_rfl) (by kernel_rfl)
instance : Fld Tryd.prog 18 0 0 := .of (by kernel_rfl)
instance : Fld1 Tryd.prog 18 0 0 := .of (by kernel_rfl)
instance : TyAgg Tryd.prog 19 1 := .of (by kernel_rfl)
instance : Elem Tryd.prog 19 1 8 := .of (by kernel_rfl)
instance : StructT Tryd.prog 19 [(0, 1)] [.pointer none] := .of (by kernel_rfl) (by kernel_rfl)
instance : Fld Tryd.prog 19 0 0 := .of (by kernel_rfl)
instance : Fld1 Tryd.prog 19 0 0 := .of (by kernel_rfl)
instance : TyOne Tryd.prog 20 := .of (by kernel_rfl)
instance : TyInt Tryd.prog 21 .i32 := ⟨by kernel_rfl⟩
instance : TyOne Tryd.prog 21 := .of (by kernel_rfl)
instance : Elem Tryd.prog 21 1 4 := .of (by kernel_rfl)
instance : TyAgg Tryd.prog 22 3 := .of (by kernel_rfl)
instance : Elem Tryd.prog 22 3 32 := .of (by kernel_rfl)
instance : StructT Tryd.prog 22 [(0, 1), (1, 1), (2, 1)] [.int .i64 0, .int .i64 0, str []] := .of (by kernel_rfl) (by kernel_rfl)
instance : Fld Tryd.prog 22 0 0 := .of (by kernel_rfl)
instance : Fld1 Tryd.prog 22 0 0 := .of (by kernel_rfl)
instance : Fld Tryd.prog 22 1 1 := .of (by kernel_rfl)
instance : Fld1 Tryd.prog 22 1 1 := .of (by kernel_rfl)
instance : Fld Tryd.prog 22 2 2 := .of (by kernel_rfl)
instance : Fld1 Tryd.prog 22 2 2 := .of (by kernel_rfl)
instance : TyAgg Tryd.prog 23 3 := .of (by kernel_rfl)
instance : Elem Tryd.prog 23 3 32 := .of (by kernel_rfl)
instance : StructT Tryd.prog 23 [(0, 1), (1, 1), (2, 1)] [.int .i64 0, .int .i64 0, str []] := .of (by kernel_rfl) (by kernel_rfl)
instance : FlatT Tryd.prog 23 [.int .i64, .int .i64, .str] := .of (by kernel_rfl)
instance : Fld Tryd.prog 23 0 0 := .of (by kernel_rfl)
instance : Fld1 Tryd.prog 23 0 0 := .of (by kernel_rfl)
instance : Fld Tryd.prog 23 1 1 := .of (by kernel_rfl)
instance : Fld1 Tryd.prog 23 1 1 := .of (by kernel_rfl)
instance : Fld Tryd.prog 23 2 2 := .of (by kernel_rfl)
instance : Fld1 Tryd.prog 23 2 2 := .of (by kernel_rfl)
instance : TyOne Tryd.prog 24 := .of (by kernel_rfl)
instance : TySlice Tryd.prog 25 42 := ⟨by kernel_rfl⟩
instance : TyOne Tryd.prog 25 := .of (by kernel_rfl)
instance : Elem Tryd.prog 25 1 24 := .of (by kernel_rfl)
instance : TyAgg Tryd.prog 26 1 := .of (by kernel_rfl)
instance : Elem Tryd.prog 26 1 24 := .of (by kernel_rfl)
instance : StructT Tryd.prog 26 [(0, 1)] [.slice none 0 0] := .of (by kernel_rfl) (by kernel_rfl)
instance : Fld Tryd.prog 26 0 0 := .of (by kernel_rfl)
instance : Fld1 Tryd.prog 26 0 0 := .of (by kernel_rfl)
instance : TyAgg Tryd.prog 27 1 := .of (by kernel_rfl)
instance : Elem Tryd.prog 27 1 24 := .of (by kernel_rfl)
instance : StructT Tryd.prog 27 [(0, 1)] [.slice none 0 0] := .of (by kernel_rfl) (by kernel_rfl)
instance : Fld Tryd.prog 27 0 0 := .of (by kernel_rfl)
instance : Fld1 Tryd.prog 27 0 0 := .of (by kernel_rfl)
instance : TyInt Tryd.prog 28 .i64 := ⟨by kernel_rfl⟩
instance : TyOne Tryd.prog 28 := .of (by kernel_rfl)
instance : Elem Tryd.prog 28 1 8 := .of (by kernel_rfl)
instance : TyOne Tryd.prog 30 := .of (by kernel_rfl)
instance : TyOne Tryd.prog 32 := .of (by kernel_rfl)
instance : TyOne Tryd.prog 34 := .of (by kernel_rfl)
instance : TyOne Tryd.prog 35 := .of (by kernel_rfl)
instance : TyOne Tryd.prog 36 := .of (by kernel_rfl)
instance : TySlice Tryd.prog 37 53 := ⟨by kernel_rfl⟩
instance : TyOne Tryd.prog 37 := .of (by kernel_rfl)
instance : Elem Tryd.prog 37 1 24 := .of (by kernel_rfl)
instance : TySlice Tryd.prog 38 72 := ⟨by kernel_rfl⟩
instance : TyOne Tryd.prog 38 := .of (by kernel_rfl)
instance : Elem Tryd.prog 38 1 24 := .of (by kernel_rfl)
instance : TySlice Tryd.prog 39 85 := ⟨by kernel_rfl⟩
instance : TyOne Tryd.prog 39 := .of (by kernel_rfl)
instance : Elem Tryd.prog 39 1 24 := .of (by kernel_rfl)
instance : TySlice Tryd.prog 40 44 := ⟨by kernel_rfl⟩
instance : TyOne Tryd.prog 40 := .of (by kernel_rfl)
instance : Elem Tryd.prog 40 1 24 := .of (by kernel_rfl)
instance : TyAgg Tryd.prog 41 10 := .of (by kernel_rfl)
instance : Elem Tryd.prog 41 10 152 := .of (by kernel_rfl)
instance : StructT Tryd.prog 41 [(0, 1), (1, 1), (2, 1), (3, 1), (4, 1), (5, 1), (6, 1), (7, 1), (8, 1), (9, 1)] [.int .i64 0, str [], .int .i64 0, .slice none 0 0, .slice none 0 0, .slice none 0 0, .int .i64 0, .int .i64 0, .int .i64 0, .slice none 0 0] := .of (by kernel_rfl) (by kernel_rfl)
instance : Fld Tryd.prog 41 0 0 := .of (by kernel_rfl)
instance : Fld1 Tryd.prog 41 0 0 := .of (by kernel_rfl)
instance : Fld Tryd.prog 41 1 1 := .of (by kernel_rfl)
instance : Fld1 Tryd.prog 41 1 1 := .of (by kernel_rfl)
instance : Fld Tryd.prog 41 2 2 := .of (by kernel_rfl)
instance : Fld1 Tryd.prog 41 2 2 := .of (by kernel_rfl)
instance : Fld Tryd.prog 41 3 3 := .of (by kernel_rfl)
instance : Fld1 Tryd.prog 41 3 3 := .of (by kernel_rfl)
instance : Fld Tryd.prog 41 4 4 := .of (by kernel_rfl)
instance : Fld1 Tryd.prog 41 4 4 := .of (by kernel_rfl)
instance : Fld Tryd.prog 41 5 5 := .of (by kernel_rfl)
instance : Fld1 Tryd.prog 41 5 5 := .of (by kernel_rfl)
instance : Fld Tryd.prog 41 6 6 := .of (by kernel_rfl)
instance : Fld1 Tryd.prog 41 6 6 := .of (by kernel_rfl)
instance : Fld Tryd.prog 41 7 7 := .of (by kernel_rfl)
instance : Fld1 Tryd.prog 41 7 7 := .of (by kernel_rfl)
instance : Fld Tryd.prog 41 8 8 := .of (by kernel_rfl)
instance : Fld1 Tryd.prog 41 8 8 := .of (by kernel_rfl)
instance : Fld Tryd.prog 41 9 9 := .of (by kernel_rfl)
instance : Fld1 Tryd.prog 41 9 9 := .of (by kernel_rfl)
instance : TyAgg Tryd.prog 42 10 := .of (by kernel_rfl)
instance : Elem Tryd.prog 42 10 152 := .of (by kernel_rfl)
instance : StructT Tryd.prog 42 [(0, 1), (1, 1), (2, 1), (3, 1), (4, 1), (5, 1), (6, 1), (7, 1), (8, 1), (9, 1)] [.int .i64 0, str [], .int .i64 0, .slice none 0 0, .slice none 0 0, .slice none 0 0, .int .i64 0, .int .i64 0, .int .i64 0, .slice none 0 0] := .of (by kernel_rfl) (by kernel_rfl)
instance : Fld Tryd.prog 42 0 0 := .of (by kernel_rfl)
instance : Fld1 Tryd.prog 42 0 0 := .of (by kernel_rfl)
instance : Fld Tryd.prog 42 1 1 := .of (by kernel_rfl)
instance : Fld1 Tryd.prog 42 1 1 := .of (by kernel_rfl)
instance : Fld Tryd.prog 42 2 2 := .of (by kernel_rfl)
instance : Fld1 Tryd.prog 42 2 2 := .of (by kernel_rfl)
instance : Fld Tryd.prog 42 3 3 := .of (by kernel_rfl)
instance : Fld1 Tryd.prog 42 3 3 := .of (by kernel_rfl)
instance : Fld Tryd.prog 42 4 4 := .of (by kernel_rfl)
instance : Fld1 Tryd.prog 42 4 4 := .of (by kernel_rfl)
instance : Fld Tryd.prog 42 5 5 := .of (by kernel_rfl)
instance : Fld1 Tryd.prog 42 5 5 := .of (by kernel_rfl)
instance : Fld Tryd.prog 42 6 6 := .of (by kernel_rfl)
instance : Fld1 Tryd.prog 42 6 6 := .of (by kernel_rfl)
instance : Fld Tryd.prog 42 7 7 := .of (by kernel_rfl)
instance : Fld1 Tryd.prog 42 7 7 := .of (by kernel_rfl)
instance : Fld Tryd.prog 42 8 8 := .of (by kernel_rfl)
instance : Fld1 Tryd.prog 42 8 8 := .of (by kernel_rfl)
instance : Fld Tryd.prog 42 9 9 := .of (by kernel_rfl)
instance : Fld1 Tryd.prog 42 9 9 := .of (by kernel_rfl)
instance : TyAgg Tryd.prog 43 4 := .of (by kernel_rfl)
instance : Elem Tryd.prog 43 4 40 := .of (by kernel_rfl)
instance : StructT Tryd.prog 43 [(0, 1), (1, 1), (2, 1), (3, 1)] [.int .i64 0, .int .i64 0, .int .i64 0, str []] := .of (by kernel_rfl) (by kernel_rfl)
instance : Fld Tryd.prog 43 0 0 := .of (by kernel_rfl)
instance : Fld1 Tryd.prog 43 0 0 := .of (by kernel_rfl)
instance : Fld Tryd.prog 43 1 1 := .of (by kernel_rfl)
instance : Fld1 Tryd.prog 43 1 1 := .of (by kernel_rfl)
instance : Fld Tryd.prog 43 2 2 := .of (by kernel_rfl)
instance : Fld1 Tryd.prog 43 2 2 := .of (by kernel_rfl)
instance : Fld Tryd.prog 43 3 3 := .of (by kernel_rfl)
instance : Fld1 Tryd.prog 43 3 3 := .of (by kernel_rfl)
instance : TyAgg Tryd.prog 44 4 := .of (by kernel_rfl)
instance : Elem Tryd.prog 44 4 40 := .of (by kernel_rfl)
instance : StructT Tryd.prog 44 [(0, 1), (1, 1), (2, 1), (3, 1)] [.int .i64 0, .int .i64 0, .int .i64 0, str []] := .of (by kernel_rfl) (by kernel_rfl)
instance : FlatT Tryd.prog 44 [.int .i64, .int .i64, .int .i64, .str] := .of (by kernel_rfl)
instance : Fld Tryd.prog 44 0 0 := .of (by kernel_rfl)
instance : Fld1 Tryd.prog 44 0 0 := .of (by kernel_rfl)
instance : Fld Tryd.prog 44 1 1 := .of (by kernel_rfl)
instance : Fld1 Tryd.prog 44 1 1 := .of (by kernel_rfl)
instance : Fld Tryd.prog 44 2 2 := .of (by kernel_rfl)
instance : Fld1 Tryd.prog 44 2 2 := .of (by kernel_rfl)
instance : Fld Tryd.prog 44 3 3 := .of (by kernel_rfl)
instance : Fld1 Tryd.prog 44 3 3 := .of (by kernel_rfl)
instance : TySlice Tryd.prog 45 50 := ⟨by kernel_rfl⟩
instance : TyOne Tryd.prog 45 := .of (by kernel_rfl)
instance : Elem Tryd.prog 45 1 24 := .of (by kernel_rfl)
instance : TyOne Tryd.prog 46 := .of (by kernel_rfl)
instance : TyOne Tryd.prog 47 := .of (by kernel_rfl)
instance : TyOne Tryd.prog 48 := .of (by kernel_rfl)
instance : TyAgg Tryd.prog 49 3 := .of (by kernel_rfl)
instance : Elem Tryd.prog 49 3 32 := .of (by kernel_rfl)
instance : StructT Tryd.prog 49 [(0, 1), (1, 1), (2, 1)] [.int .i64 0, str [], .int .i64 0] := .of (by kernel_rfl) (by kernel_rfl)
instance : Fld Tryd.prog 49 0 0 := .of (by kernel_rfl)
instance : Fld1 Tryd.prog 49 0 0 := .of (by kernel_rfl)
instance : Fld Tryd.prog 49 1 1 := .of (by kernel_rfl)
instance : Fld1 Tryd.prog 49 1 1 := .of (by kernel_rfl)
instance : Fld Tryd.prog 49 2 2 := .of (by kernel_rfl)
instance : Fld1 Tryd.prog 49 2 2 := .of (by kernel_rfl)
instance : TyAgg Tryd.prog 50 3 := .of (by kernel_rfl)
instance : Elem Tryd.prog 50 3 32 := .of (by kernel_rfl)
instance : StructT Tryd.prog 50 [(0, 1), (1, 1), (2, 1)] [.int .i64 0, str [], .int .i64 0] := .of (by kernel_rfl) (by kernel_rfl)
instance : FlatT Tryd.prog 50 [.int .i64, .str, .int .i64] := .of (by kernel_rfl)
instance : Fld Tryd.prog 50 0 0 := .of (by kernel_rfl)
instance : Fld1 Tryd.prog 50 0 0 := .of (by kernel_rfl)
instance : Fld Tryd.prog 50 1 1 := .of (by kernel_rfl)
instance : Fld1 Tryd.prog 50 1 1 := .of (by kernel_rfl)
instance : Fld Tryd.prog 50 2 2 := .of (by kernel_rfl)
instance : Fld1 Tryd.prog 50 2 2 := .of (by kernel_rfl)
instance : TyOne Tryd.prog 51 := .of (by kernel_rfl)
instance : TyAgg Tryd.prog 52 3 := .of (by kernel_rfl)
instance : Elem Tryd.prog 52 3 32 := .of (by kernel_rfl)
instance : StructT Tryd.prog 52 [(0, 1), (1, 1), (2, 1)] [str [], .int .i64 0, .int .i64 0] := .of (by kernel_rfl) (by kernel_rfl)
instance : Fld Tryd.prog 52 0 0 := .of (by kernel_rfl)
instance : Fld1 Tryd.prog 52 0 0 := .of (by kernel_rfl)
instance : Fld Tryd.prog 52 1 1 := .of (by kernel_rfl)
instance : Fld1 Tryd.prog 52 1 1 := .of (by kernel_rfl)
instance : Fld Tryd.prog 52 2 2 := .of (by kernel_rfl)
instance : Fld1 Tryd.prog 52 2 2 := .of (by kernel_rfl)
instance : TyAgg Tryd.prog 53 3 := .of (by kernel_rfl)
instance : Elem Tryd.prog 53 3 32 := .of (by kernel_rfl)
instance : StructT Tryd.prog 53 [(0, 1), (1, 1), (2, 1)] [str [], .int .i64 0, .int .i64 0] := .of (by kernel_rfl) (by kernel_rfl)
instance : FlatT Tryd.prog 53 [.str, .int .i64, .int .i64] := .of (by kernel_rfl)
instance : Fld Tryd.prog 53 0 0 := .of (by kernel_rfl)
instance : Fld1 Tryd.prog 53 0 0 := .of (by kernel_rfl)
instance : Fld Tryd.prog 53 1 1 := .of (by kernel_rfl)
instance : Fld1 Tryd.prog 53 1 1 := .of (by kernel_rfl)
instance : Fld Tryd.prog 53 2 2 := .of (by kernel_rfl)
instance : Fld1 Tryd.prog 53 2 2 := .of (by kernel_rfl)
instance : TyOne Tryd.prog 54 := .of (by kernel_rfl)
instance : Elem Tryd.prog 54 1 8 := .of (by kernel_rfl)
instance : TySlice Tryd.prog 55 3 := ⟨by kernel_rfl⟩
instance : TyOne Tryd.prog 55 := .of (by kernel_rfl)
instance : Elem Tryd.prog 55 1 24 := .of (by kernel_rfl)
instance : TyOne Tryd.prog 56 := .of (by kernel_rfl)
instance : TyOne Tryd.prog 58 := .of (by kernel_rfl)
instance : TyOne Tryd.prog 59 := .of (by kernel_rfl)
instance : TyOne Tryd.prog 60 := .of (by kernel_rfl)
instance : TyOne Tryd.prog 61 := .of (by kernel_rfl)
instance : Elem Tryd.prog 61 1 8 := .of (by kernel_rfl)
instance : TyAgg Tryd.prog 62 5 := .of (by kernel_rfl)
instance : Elem Tryd.prog 62 5 72 := .of (by kernel_rfl)
instance : StructT Tryd.prog 62 [(0, 1), (1, 1), (2, 1), (3, 1), (4, 1)] [.slice none 0 0, .int .i64 0, .int .i64 0, .slice none 0 0, .int .i64 0] := .of (by kernel_rfl) (by kernel_rfl)
instance : Fld Tryd.prog 62 0 0 := .of (by kernel_rfl)
instance : Fld1 Tryd.prog 62 0 0 := .of (by kernel_rfl)
instance : Fld Tryd.prog 62 1 1 := .of (by kernel_rfl)
instance : Fld1 Tryd.prog 62 1 1 := .of (by kernel_rfl)
instance : Fld Tryd.prog 62 2 2 := .of (by kernel_rfl)
instance : Fld1 Tryd.prog 62 2 2 := .of (by kernel_rfl)
instance : Fld Tryd.prog 62 3 3 := .of (by kernel_rfl)
instance : Fld1 Tryd.prog 62 3 3 := .of (by kernel_rfl)
instance : Fld Tryd.prog 62 4 4 := .of (by kernel_rfl)
instance : Fld1 Tryd.prog 62 4 4 := .of (by kernel_rfl)
instance : TyAgg Tryd.prog 63 5 := .of (by kernel_rfl)
instance : Elem Tryd.prog 63 5 72 := .of (by kernel_rfl)
instance : StructT Tryd.prog 63 [(0, 1), (1, 1), (2, 1), (3, 1), (4, 1)] [.slice none 0 0, .int .i64 0, .int .i64 0, .slice none 0 0, .int .i64 0] := .of (by kernel_rfl) (by kernel_rfl)
instance : Fld Tryd.prog 63 0 0 := .of (by kernel_rfl)
instance : Fld1 Tryd.prog 63 0 0 := .of (by kernel_rfl)
instance : Fld Tryd.prog 63 1 1 := .of (by kernel_rfl)
instance : Fld1 Tryd.prog 63 1 1 := .of (by kernel_rfl)
instance : Fld Tryd.prog 63 2 2 := .of (by kernel_rfl)
instance : Fld1 Tryd.prog 63 2 2 := .of (by kernel_rfl)
instance : Fld Tryd.prog 63 3 3 := .of (by kernel_rfl)
instance : Fld1 Tryd.prog 63 3 3 := .of (by kernel_rfl)
instance : Fld Tryd.prog 63 4 4 := .of (by kernel_rfl)
instance : Fld1 Tryd.prog 63 4 4 := .of (by kernel_rfl)
instance : TyOne Tryd.prog 64 := .of (by kernel_rfl)
instance : TyOne Tryd.prog 65 := .of (by kernel_rfl)
instance : Elem Tryd.prog 65 1 8 := .of (by kernel_rfl)
instance : TyOne Tryd.prog 66 := .of (by kernel_rfl)
instance : TyOne Tryd.prog 67 := .of (by kernel_rfl)
instance : TyOne Tryd.prog 68 := .of (by kernel_rfl)
instance : TyOne Tryd.prog 69 := .of (by kernel_rfl)
instance : TyOne Tryd.prog 70 := .of (by kernel_rfl)
instance : TyAgg Tryd.prog 71 2 := .of (by kernel_rfl)
instance : Elem Tryd.prog 71 2 24 := .of (by kernel_rfl)
instance : StructT Tryd.prog 71 [(0, 1), (1, 1)] [str [], .int .i64 0] := .of (by kernel_rfl) (by kernel_rfl)
instance : Fld Tryd.prog 71 0 0 := .of (by kernel_rfl)
instance : Fld1 Tryd.prog 71 0 0 := .of (by kernel_rfl)
instance : Fld Tryd.prog 71 1 1 := .of (by kernel_rfl)
instance : Fld1 Tryd.prog 71 1 1 := .of (by kernel_rfl)
instance : TyAgg Tryd.prog 72 2 := .of (by kernel_rfl)
instance : Elem Tryd.prog 72 2 24 := .of (by kernel_rfl)
instance : StructT Tryd.prog 72 [(0, 1), (1, 1)] [str [], .int .i64 0] := .of (by kernel_rfl) (by kernel_rfl)
instance : FlatT Tryd.prog 72 [.str, .int .i64] := .of (by kernel_rfl)
instance : Fld Tryd.prog 72 0 0 := .of (by kernel_rfl)
instance : Fld1 Tryd.prog 72 0 0 := .of (by kernel_rfl)
instance : Fld Tryd.prog 72 1 1 := .of (by kernel_rfl)
instance : Fld1 Tryd.prog 72 1 1 := .of (by kernel_rfl)
instance : TyOne Tryd.prog 73 := .of (by kernel_rfl)
instance : TyOne Tryd.prog 74 := .of (by kernel_rfl)
instance : TyOne Tryd.prog 75 := .of (by kernel_rfl)
instance : TyOne Tryd.prog 76 := .of (by kernel_rfl)
instance : TyOne Tryd.prog 78 := .of (by kernel_rfl)
instance : TyOne Tryd.prog 79 := .of (by kernel_rfl)
instance : TyOne Tryd.prog 80 := .of (by kernel_rfl)
instance : TySlice Tryd.prog 81 83 := ⟨by kernel_rfl⟩
instance : TyOne Tryd.prog 81 := .of (by kernel_rfl)
instance : Elem Tryd.prog 81 1 24 := .of (by kernel_rfl)
instance : TyAgg Tryd.prog 82 6 := .of (by kernel_rfl)
instance : Elem Tryd.prog 82 6 72 := .of (by kernel_rfl)
instance : StructT Tryd.prog 82 [(0, 1), (1, 1), (2, 1), (3, 1), (4, 1), (5, 1)] [.int .i64 0, str [], .int .i64 0, .slice none 0 0, .int .i64 0, .int .i64 0] := .of (by kernel_rfl) (by kernel_rfl)
instance : Fld Tryd.prog 82 0 0 := .of (by kernel_rfl)
instance : Fld1 Tryd.prog 82 0 0 := .of (by kernel_rfl)
instance : Fld Tryd.prog 82 1 1 := .of (by kernel_rfl)
instance : Fld1 Tryd.prog 82 1 1 := .of (by kernel_rfl)
instance : Fld Tryd.prog 82 2 2 := .of (by kernel_rfl)
instance : Fld1 Tryd.prog 82 2 2 := .of (by kernel_rfl)
instance : Fld Tryd.prog 82 3 3 := .of (by kernel_rfl)
instance : Fld1 Tryd.prog 82 3 3 := .of (by kernel_rfl)
instance : Fld Tryd.prog 82 4 4 := .of (by kernel_rfl)
instance : Fld1 Tryd.prog 82 4 4 := .of (by kernel_rfl)
instance : Fld Tryd.prog 82 5 5 := .of (by kernel_rfl)
instance : Fld1 Tryd.prog 82 5 5 := .of (by kernel_rfl)
instance : TyAgg Tryd.prog 83 6 := .of (by kernel_rfl)
instance : Elem Tryd.prog 83 6 72 := .of (by kernel_rfl)
instance : StructT Tryd.prog 83 [(0, 1), (1, 1), (2, 1), (3, 1), (4, 1), (5, 1)] [.int .i64 0, str [], .int .i64 0, .slice none 0 0, .int .i64 0, .int .i64 0] := .of (by kernel_rfl) (by kernel_rfl)
instance : Fld Tryd.prog 83 0 0 := .of (by kernel_rfl)
instance : Fld1 Tryd.prog 83 0 0 := .of (by kernel_rfl)
instance : Fld Tryd.prog 83 1 1 := .of (by kernel_rfl)
instance : Fld1 Tryd.prog 83 1 1 := .of (by kernel_rfl)
instance : Fld Tryd.prog 83 2 2 := .of (by kernel_rfl)
instance : Fld1 Tryd.prog 83 2 2 := .of (by kernel_rfl)
instance : Fld Tryd.prog 83 3 3 := .of (by kernel_rfl)
instance : Fld1 Tryd.prog 83 3 3 := .of (by kernel_rfl)
instance : Fld Tryd.prog 83 4 4 := .of (by kernel_rfl)
instance : Fld1 Tryd.prog 83 4 4 := .of (by kernel_rfl)
instance : Fld Tryd.prog 83 5 5 := .of (by kernel_rfl)
instance : Fld1 Tryd.prog 83 5 5 := .of (by kernel_rfl)
instance : TyAgg Tryd.prog 84 15 := .of (by kernel_rfl)
instance : Elem Tryd.prog 84 15 184 := .of (by kernel_rfl)
instance : StructT Tryd.prog 84 [(0, 1), (1, 1), (2, 1), (3, 1), (4, 1), (5, 6), (11, 1), (12, 1), (13, 1), (14, 1)] [.int .i64 0, str [], .int .i64 0, .int .i64 0, .bool false, .int .i64 0, str [], .int .i64 0, .slice none 0 0, .int .i64 0, .int .i64 0, .slice none 0 0, .slice none 0 0, .int .i64 0, .int .i64 0] := .of (by kernel_rfl) (by kernel_rfl)
instance : Fld Tryd.prog 84 0 0 := .of (by kernel_rfl)
instance : Fld1 Tryd.prog 84 0 0 := .of (by kernel_rfl)
instance : Fld Tryd.prog 84 1 1 := .of (by kernel_rfl)
instance : Fld1 Tryd.prog 84 1 1 := .of (by kernel_rfl)
instance : Fld Tryd.prog 84 2 2 := .of (by kernel_rfl)
instance : Fld1 Tryd.prog 84 2 2 := .of (by kernel_rfl)
instance : Fld Tryd.prog 84 3 3 := .of (by kernel_rfl)
instance : Fld1 Tryd.prog 84 3 3 := .of (by kernel_rfl)
instance : Fld Tryd.prog 84 4 4 := .of (by kernel_rfl)
instance : Fld1 Tryd.prog 84 4 4 := .of (by kernel_rfl)
instance : Fld Tryd.prog 84 5 5 := .of (by kernel_rfl)
instance : Fld Tryd.prog 84 6 11 := .of (by kernel_rfl)
instance : Fld1 Tryd.prog 84 6 11 := .of (by kernel_rfl)
instance : Fld Tryd.prog 84 7 12 := .of (by kernel_rfl)
instance : Fld1 Tryd.prog 84 7 12 := .of (by kernel_rfl)
instance : Fld Tryd.prog 84 8 13 := .of (by kernel_rfl)
instance : Fld1 Tryd.prog 84 8 13 := .of (by kernel_rfl)
instance : Fld Tryd.prog 84 9 14 := .of (by kernel_rfl)
instance : Fld1 Tryd.prog 84 9 14 := .of (by kernel_rfl)
instance : TyAgg Tryd.prog 85 15 := .of (by kernel_rfl)
instance : Elem Tryd.prog 85 15 184 := .of (by kernel_rfl)
instance : StructT Tryd.prog 85 [(0, 1), (1, 1), (2, 1), (3, 1), (4, 1), (5, 6), (11, 1), (12, 1), (13, 1), (14, 1)] [.int .i64 0, str [], .int .i64 0, .int .i64 0, .bool false, .int .i64 0, str [], .int .i64 0, .slice none 0 0, .int .i64 0, .int .i64 0, .slice none 0 0, .slice none 0 0, .int .i64 0, .int .i64 0] := .of (by kernel_rfl) (by kernel_rfl)
instance : Fld Tryd.prog 85 0 0 := .of (by kernel_rfl)
instance : Fld1 Tryd.prog 85 0 0 := .of (by kernel_rfl)
instance : Fld Tryd.prog 85 1 1 := .of (by kernel_rfl)
instance : Fld1 Tryd.prog 85 1 1 := .of (by kernel_rfl)
instance : Fld Tryd.prog 85 2 2 := .of (by kernel_rfl)
instance : Fld1 Tryd.prog 85 2 2 := .of (by kernel_rfl)
instance : Fld Tryd.prog 85 3 3 := .of (by kernel_rfl)
instance : Fld1 Tryd.prog 85 3 3 := .of (by kernel_rfl)
instance : Fld Tryd.prog 85 4 4 := .of (by kernel_rfl)
instance : Fld1 Tryd.prog 85 4 4 := .of (by kernel_rfl)
instance : Fld Tryd.prog 85 5 5 := .of (by kernel_rfl)
instance : Fld Tryd.prog 85 6 11 := .of (by kernel_rfl)
instance : Fld1 Tryd.prog 85 6 11 := .of (by kernel_rfl)
instance : Fld Tryd.prog 85 7 12 := .of (by kernel_rfl)
instance : Fld1 Tryd.prog 85 7 12 := .of (by kernel_rfl)
instance : Fld Tryd.prog 85 8 13 := .of (by kernel_rfl)
instance : Fld1 Tryd.prog 85 8 13 := .of (by kernel_rfl)
instance : Fld Tryd.prog 85 9 14 := .of (by kernel_rfl)
instance : Fld1 Tryd.prog 85 9 14 := .of (by kernel_rfl)
instance : TyOne Tryd.prog 86 := .of (by kernel_rfl)
instance : TyOne Tryd.prog 87 := .of (by kernel_rfl)
instance : TyOne Tryd.prog 88 := .of (by kernel_rfl)
instance : TyOne Tryd.prog 89 := .of (by kernel_rfl)
instance : TySlice Tryd.prog 90 9 := ⟨by kernel_rfl⟩
instance : TyOne Tryd.prog 90 := .of (by kernel_rfl)
instance : Elem Tryd.prog 90 1 24 := .of (by kernel_rfl)
instance : TyOne Tryd.prog 91 := .of (by kernel_rfl)
instance : TyOne Tryd.prog 92 := .of (by kernel_rfl)
instance : TyOne Tryd.prog 93 := .of (by kernel_rfl)
instance : TyOne Tryd.prog 94 := .of (by kernel_rfl)
instance : TyOne Tryd.prog 95 := .of (by kernel_rfl)
instance : TyOne Tryd.prog 96 := .of (by kernel_rfl)
instance : TyOne Tryd.prog 97 := .of (by kernel_rfl)
instance : TyOne Tryd.prog 99 := .of (by kernel_rfl)
instance : TyOne Tryd.prog 100 := .of (by kernel_rfl)
instance : TyInt Tryd.prog 101 .i64 := ⟨by kernel_rfl⟩
instance : TyOne Tryd.prog 101 := .of (by kernel_rfl)
instance : Elem Tryd.prog 101 1 8 := .of (by kernel_rfl)
instance : TySlice Tryd.prog 102 5 := ⟨by kernel_rfl⟩
instance : TyOne Tryd.prog 102 := .of (by kernel_rfl)
instance : Elem Tryd.prog 102 1 24 := .of (by kernel_rfl)
instance : TyOne Tryd.prog 104 := .of (by kernel_rfl)
instance : TyOne Tryd.prog 105 := .of (by kernel_rfl)
instance : Elem Tryd.prog 105 1 8 := .of (by kernel_rfl)
instance : TyOne Tryd.prog 106 := .of (by kernel_rfl)
instance : TyOne Tryd.prog 107 := .of (by kernel_rfl)
instance : TyInt Tryd.prog 108 .u64 := ⟨by kernel_rfl⟩
instance : TyOne Tryd.prog 108 := .of (by kernel_rfl)
instance : Elem Tryd.prog 108 1 8 := .of (by kernel_rfl)
instance : TyOne Tryd.prog 110 := .of (by kernel_rfl)
instance : TyInt Tryd.prog 111 .u64 := ⟨by kernel_rfl⟩
instance : TyOne Tryd.prog 111 := .of (by kernel_rfl)
instance : Elem Tryd.prog 111 1 8 := .of (by kernel_rfl)
instance : TyOne Tryd.prog 112 := .of (by kernel_rfl)
instance : TyAgg Tryd.prog 113 3 := .of (by kernel_rfl)
instance : Elem Tryd.prog 113 3 48 := .of (by kernel_rfl)
instance : StructT Tryd.prog 113 [(0, 1), (1, 1), (2, 1)] [str [], str [], .nilIface] := .of (by kernel_rfl) (by kernel_rfl)
instance : Fld Tryd.prog 113 0 0 := .of (by kernel_rfl)
instance : Fld1 Tryd.prog 113 0 0 := .of (by kernel_rfl)
instance : Fld Tryd.prog 113 1 1 := .of (by kernel_rfl)
instance : Fld1 Tryd.prog 113 1 1 := .of (by kernel_rfl)
instance : Fld Tryd.prog 113 2 2 := .of (by kernel_rfl)
instance : Fld1 Tryd.prog 113 2 2 := .of (by kernel_rfl)
instance : TyAgg Tryd.prog 114 3 := .of (by kernel_rfl)
instance : Elem Tryd.prog 114 3 48 := .of (by kernel_rfl)
instance : StructT Tryd.prog 114 [(0, 1), (1, 1), (2, 1)] [str [], str [], .nilIface] := .of (by kernel_rfl) (by kernel_rfl)
instance : Fld Tryd.prog 114 0 0 := .of (by kernel_rfl)
instance : Fld1 Tryd.prog 114 0 0 := .of (by kernel_rfl)
instance : Fld Tryd.prog 114 1 1 := .of (by kernel_rfl)
instance : Fld1 Tryd.prog 114 1 1 := .of (by kernel_rfl)
instance : Fld Tryd.prog 114 2 2 := .of (by kernel_rfl)
instance : Fld1 Tryd.prog 114 2 2 := .of (by kernel_rfl)
instance : TyOne Tryd.prog 115 := .of (by kernel_rfl)
instance : TyOne Tryd.prog 116 := .of (by kernel_rfl)
instance : TyOne Tryd.prog 117 := .of (by kernel_rfl)
instance : TyOne Tryd.prog 118 := .of (by kernel_rfl)
instance : Elem Tryd.prog 118 1 8 := .of (by kernel_rfl)
instance : TyOne Tryd.prog 119 := .of (by kernel_rfl)
instance : Elem Tryd.prog 119 1 8 := .of (by kernel_rfl)
instance : TyAgg Tryd.prog 120 1 := .of (by kernel_rfl)
instance : Elem Tryd.prog 120 1 16 := .of (by kernel_rfl)
instance : StructT Tryd.prog 120 [(0, 1)] [str []] := .of (by kernel_rfl) (by kernel_rfl)
instance : Fld Tryd.prog 120 0 0 := .of (by kernel_rfl)
instance : Fld1 Tryd.prog 120 0 0 := .of (by kernel_rfl)
instance : TyAgg Tryd.prog 121 1 := .of (by kernel_rfl)
instance : Elem Tryd.prog 121 1 16 := .of (by kernel_rfl)
instance : StructT Tryd.prog 121 [(0, 1)] [str []] := .of (by kernel_rfl) (by kernel_rfl)
instance : Fld Tryd.prog 121 0 0 := .of (by kernel_rfl)
instance : Fld1 Tryd.prog 121 0 0 := .of (by kernel_rfl)
instance : TyOne Tryd.prog 122 := .of (by kernel_rfl)
instance : TyArr Tryd.prog 123 24 5 := ⟨by kernel_rfl⟩
instance : TyAgg Tryd.prog 123 24 := .of (by kernel_rfl)
instance : Elem Tryd.prog 123 24 24 := .of (by kernel_rfl)
instance : TyOne Tryd.prog 124 := .of (by kernel_rfl)
instance : TyOne Tryd.prog 125 := .of (by kernel_rfl)
instance : TyOne Tryd.prog 127 := .of (by kernel_rfl)
instance : TyOne Tryd.prog 128 := .of (by kernel_rfl)
instance : TyOne Tryd.prog 129 := .of (by kernel_rfl)
instance : TyArr Tryd.prog 130 20 108 := ⟨by kernel_rfl⟩
instance : TyAgg Tryd.prog 130 20 := .of (by kernel_rfl)
instance : Elem Tryd.prog 130 20 160 := .of (by kernel_rfl)
instance : TyInt Tryd.prog 131 .u32 := ⟨by kernel_rfl⟩
instance : TyOne Tryd.prog 131 := .of (by kernel_rfl)
instance : Elem Tryd.prog 131 1 4 := .of (by kernel_rfl)
instance : TyArr Tryd.prog 132 65 5 := ⟨by kernel_rfl⟩
instance : TyAgg Tryd.prog 132 65 := .of (by kernel_rfl)
instance : TyOne Tryd.prog 133 := .of (by kernel_rfl)
instance : TyOne Tryd.prog 134 := .of (by kernel_rfl)
instance : TyOne Tryd.prog 135 := .of (by kernel_rfl)
instance : TyArr Tryd.prog 136 32 5 := ⟨by kernel_rfl⟩
instance : TyAgg Tryd.prog 136 32 := .of (by kernel_rfl)
instance : Elem Tryd.prog 136 32 32 := .of (by kernel_rfl)
instance : TyArr Tryd.prog 137 64 5 := ⟨by kernel_rfl⟩
instance : TyAgg Tryd.prog 137 64 := .of (by kernel_rfl)
instance : Elem Tryd.prog 137 64 64 := .of (by kernel_rfl)
instance : TyAgg Tryd.prog 138 4 := .of (by kernel_rfl)
instance : Elem Tryd.prog 138 4 40 := .of (by kernel_rfl)
instance : StructT Tryd.prog 138 [(0, 1), (1, 1), (2, 1), (3, 1)] [.pointer none, .pointer none, .pointer none, str []] := .of (by kernel_rfl) (by kernel_rfl)
instance : Fld Tryd.prog 138 0 0 := .of (by kernel_rfl)
instance : Fld1 Tryd.prog 138 0 0 := .of (by kernel_rfl)
instance : Fld Tryd.prog 138 1 1 := .of (by kernel_rfl)
instance : Fld1 Tryd.prog 138 1 1 := .of (by kernel_rfl)
instance : Fld Tryd.prog 138 2 2 := .of (by kernel_rfl)
instance : Fld1 Tryd.prog 138 2 2 := .of (by kernel_rfl)
instance : Fld Tryd.prog 138 3 3 := .of (by kernel_rfl)
instance : Fld1 Tryd.prog 138 3 3 := .of (by kernel_rfl)
instance : TyAgg Tryd.prog 139 4 := .of (by kernel_rfl)
instance : Elem Tryd.prog 139 4 40 := .of (by kernel_rfl)
instance : StructT Tryd.prog 139 [(0, 1), (1, 1), (2, 1), (3, 1)] [.pointer none, .pointer none, .pointer none, str []] := .of (by kernel_rfl) (by kernel_rfl)
instance : Fld Tryd.prog 139 0 0 := .of (by kernel_rfl)
instance : Fld1 Tryd.prog 139 0 0 := .of (by kernel_rfl)
instance : Fld Tryd.prog 139 1 1 := .of (by kernel_rfl)
instance : Fld1 Tryd.prog 139 1 1 := .of (by kernel_rfl)
instance : Fld Tryd.prog 139 2 2 := .of (by kernel_rfl)
instance : Fld1 Tryd.prog 139 2 2 := .of (by kernel_rfl)
instance : Fld Tryd.prog 139 3 3 := .of (by kernel_rfl)
instance : Fld1 Tryd.prog 139 3 3 := .of (by kernel_rfl)
instance : TyArr Tryd.prog 140 0 16 := ⟨by kernel_rfl⟩
instance : TyInt Tryd.prog 143 .u8 := ⟨by kernel_rfl⟩
instance : TyOne Tryd.prog 143 := .of (by kernel_rfl)
instance : Elem Tryd.prog 143 1 1 := .of (by kernel_rfl)
instance : TyInt Tryd.prog 144 .u8 := ⟨by kernel_rfl⟩
instance : TyOne Tryd.prog 144 := .of (by kernel_rfl)
instance : Elem Tryd.prog 144 1 1 := .of (by kernel_rfl)
instance : TyOne Tryd.prog 145 := .of (by kernel_rfl)
instance : TyInt Tryd.prog 146 .i32 := ⟨by kernel_rfl⟩
instance : TyOne Tryd.prog 146 := .of (by kernel_rfl)
instance : Elem Tryd.prog 146 1 4 := .of (by kernel_rfl)
instance : TyInt Tryd.prog 147 .i32 := ⟨by kernel_rfl⟩
instance : TyOne Tryd.prog 147 := .of (by kernel_rfl)
instance : Elem Tryd.prog 147 1 4 := .of (by kernel_rfl)
instance : TyAgg Tryd.prog 148 11 := .of (by kernel_rfl)
instance : Elem Tryd.prog 148 11 48 := .of (by kernel_rfl)
instance : StructT Tryd.prog 148 [(0, 1), (1, 1), (2, 1), (3, 1), (4, 1), (5, 1), (6, 1), (7, 1), (8, 1), (9, 1), (10, 1)] [.int .u64 0, .int .u64 0, .int .u32 0, .int .u8 0, .int .u8 0, .int .u8 0, .int .u8 0, .nilFunc, .pointer none, .int .i32 0, .int .i32 0] := .of (by kernel_rfl) (by kernel_rfl)
instance : Fld Tryd.prog 148 0 0 := .of (by kernel_rfl)
instance : Fld1 Tryd.prog 148 0 0 := .of (by kernel_rfl)
instance : Fld Tryd.prog 148 1 1 := .of (by kernel_rfl)
instance : Fld1 Tryd.prog 148 1 1 := .of (by kernel_rfl)
instance : Fld Tryd.prog 148 2 2 := .of (by kernel_rfl)
instance : Fld1 Tryd.prog 148 2 2 := .of (by kernel_rfl)
instance : Fld Tryd.prog 148 3 3 := .of (by kernel_rfl)
instance : Fld1 Tryd.prog 148 3 3 := .of (by kernel_rfl)
instance : Fld Tryd.prog 148 4 4 := .of (by kernel_rfl)
instance : Fld1 Tryd.prog 148 4 4 := .of (by kernel_rfl)
instance : Fld Tryd.prog 148 5 5 := .of (by kernel_rfl)
instance : Fld1 Tryd.prog 148 5 5 := .of (by kernel_rfl)
instance : Fld Tryd.prog 148 6 6 := .of (by kernel_rfl)
instance : Fld1 Tryd.prog 148 6 6 := .of (by kernel_rfl)
instance : Fld Tryd.prog 148 7 7 := .of (by kernel_rfl)
instance : Fld1 Tryd.prog 148 7 7 := .of (by kernel_rfl)
instance : Fld Tryd.prog 148 8 8 := .of (by kernel_rfl)
instance : Fld1 Tryd.prog 148 8 8 := .of (by kernel_rfl)
instance : Fld Tryd.prog 148 9 9 := .of (by kernel_rfl)
instance : Fld1 Tryd.prog 148 9 9 := .of (by kernel_rfl)
instance : Fld Tryd.prog 148 10 10 := .of (by kernel_rfl)
instance : Fld1 Tryd.prog 148 10 10 := .of (by kernel_rfl)
instance : TyAgg Tryd.prog 149 11 := .of (by kernel_rfl)
instance : Elem Tryd.prog 149 11 48 := .of (by kernel_rfl)
instance : StructT Tryd.prog 149 [(0, 1), (1, 1), (2, 1), (3, 1), (4, 1), (5, 1), (6, 1), (7, 1), (8, 1), (9, 1), (10, 1)] [.int .u64 0, .int .u64 0, .int .u32 0, .int .u8 0, .int .u8 0, .int .u8 0, .int .u8 0, .nilFunc, .pointer none, .int .i32 0, .int .i32 0] := .of (by kernel_rfl) (by kernel_rfl)
instance : Fld Tryd.prog 149 0 0 := .of (by kernel_rfl)
instance : Fld1 Tryd.prog 149 0 0 := .of (by kernel_rfl)
instance : Fld Tryd.prog 149 1 1 := .of (by kernel_rfl)
instance : Fld1 Tryd.prog 149 1 1 := .of (by kernel_rfl)
instance : Fld Tryd.prog 149 2 2 := .of (by kernel_rfl)
instance : Fld1 Tryd.prog 149 2 2 := .of (by kernel_rfl)
instance : Fld Tryd.prog 149 3 3 := .of (by kernel_rfl)
instance : Fld1 Tryd.prog 149 3 3 := .of (by kernel_rfl)
instance : Fld Tryd.prog 149 4 4 := .of (by kernel_rfl)
instance : Fld1 Tryd.prog 149 4 4 := .of (by kernel_rfl)
instance : Fld Tryd.prog 149 5 5 := .of (by kernel_rfl)
instance : Fld1 Tryd.prog 149 5 5 := .of (by kernel_rfl)
instance : Fld Tryd.prog 149 6 6 := .of (by kernel_rfl)
instance : Fld1 Tryd.prog 149 6 6 := .of (by kernel_rfl)
instance : Fld Tryd.prog 149 7 7 := .of (by kernel_rfl)
instance : Fld1 Tryd.prog 149 7 7 := .of (by kernel_rfl)
instance : Fld Tryd.prog 149 8 8 := .of (by kernel_rfl)
instance : Fld1 Tryd.prog 149 8 8 := .of (by kernel_rfl)
instance : Fld Tryd.prog 149 9 9 := .of (by kernel_rfl)
instance : Fld1 Tryd.prog 149 9 9 := .of (by kernel_rfl)
instance : Fld Tryd.prog 149 10 10 := .of (by kernel_rfl)
instance : Fld1 Tryd.prog 149 10 10 := .of (by kernel_rfl)
instance : TyOne Tryd.prog 150 := .of (by kernel_rfl)
instance : Own Tryd.prog 3 := .of (by kernel_rfl)
instance : Own Tryd.prog 4 := .of (by kernel_rfl)
instance : Own Tryd.prog 5 := .of (by kernel_rfl)
instance : Own Tryd.prog 6 := .of (by kernel_rfl)
instance : Own Tryd.prog 7 := .of (by kernel_rfl)
instance : Own Tryd.prog 8 := .of (by kernel_rfl)
instance : Own Tryd.prog 9 := .of (by kernel_rfl)
instance : Own Tryd.prog 10 := .of (by kernel_rfl)
instance : Own Tryd.prog 11 := .of (by kernel_rfl)
instance : Own Tryd.prog 12 := .of (by kernel_rfl)
instance : Own Tryd.prog 13 := .of (by kernel_rfl)
instance : Own Tryd.prog 14 := .of (by kernel_rfl)
instance : Own Tryd.prog 15 := .of (by kernel_rfl)
instance : Own Tryd.prog 16 := .of (by kernel_rfl)
instance : Own Tryd.prog 17 := .of (by kernel_rfl)
instance : Own Tryd.prog 18 := .of (by kernel_rfl)
instance : Own Tryd.prog 19 := .of (by kernel_rfl)
instance : Own Tryd.prog 20 := .of (by kernel_rfl)
instance : Own Tryd.prog 21 := .of (by kernel_rfl)
instance : Own Tryd.prog 22 := .of (by kernel_rfl)
instance : Own Tryd.prog 23 := .of (by kernel_rfl)
instance : Own Tryd.prog 24 := .of (by kernel_rfl)
instance : Own Tryd.prog 25 := .of (by kernel_rfl)
instance : Own Tryd.prog 26 := .of (by kernel_rfl)
instance : Own Tryd.prog 27 := .of (by kernel_rfl)
instance : Own Tryd.prog 28 := .of (by kernel_rfl)
instance : Own Tryd.prog 29 := .of (by kernel_rfl)
instance : Own Tryd.prog 30 := .of (by kernel_rfl)
instance : Own Tryd.prog 31 := .of (by kernel_rfl)
instance : Own Tryd.prog 32 := .of (by kernel_rfl)
instance : Own Tryd.prog 33 := .of (by kernel_rfl)
instance : Own Tryd.prog 34 := .of (by kernel_rfl)
instance : Own Tryd.prog 35 := .of (by kernel_rfl)
instance : Own Tryd.prog 36 := .of (by kernel_rfl)
instance : Own Tryd.prog 37 := .of (by kernel_rfl)
instance : Own Tryd.prog 38 := .of (by kernel_rfl)
instance : Own Tryd.prog 39 := .of (by kernel_rfl)
instance : Own Tryd.prog 40 := .of (by kernel_rfl)
instance : Own Tryd.prog 41 := .of (by kernel_rfl)
instance : Own Tryd.prog 42 := .of (by kernel_rfl)
instance : Own Tryd.prog 43 := .of (by kernel_rfl)
instance : Own Tryd.prog 44 := .of (by kernel_rfl)
instance : Own Tryd.prog 45 := .of (by kernel_rfl)
instance : Own Tryd.prog 46 := .of (by kernel_rfl)
instance : Own Tryd.prog 47 := .of (by kernel_rfl)
instance : Own Tryd.prog 48 := .of (by kernel_rfl)
instance : Own Tryd.prog 49 := .of (by kernel_rfl)
instance : Own Tryd.prog 50 := .of (by kernel_rfl)
instance : Own Tryd.prog 51 := .of (by kernel_rfl)
instance : Own Tryd.prog 52 := .of (by kernel_rfl)
instance : Own Tryd.prog 53 := .of (by kernel_rfl)
instance : Own Tryd.prog 54 := .of (by kernel_rfl)
instance : Own Tryd.prog 55 := .of (by kernel_rfl)
instance : Own Tryd.prog 56 := .of (by kernel_rfl)
instance : Own Tryd.prog 57 := .of (by kernel_rfl)
instance : Own Tryd.prog 58 := .of (by kernel_rfl)
instance : Own Tryd.prog 60 := .of (by kernel_rfl)
instance : Own Tryd.prog 62 := .of (by kernel_rfl)
instance : Own Tryd.prog 63 := .of (by kernel_rfl)
instance : Own Tryd.prog 64 := .of (by kernel_rfl)
instance : Own Tryd.prog 65 := .of (by kernel_rfl)
instance : Own Tryd.prog 68 := .of (by kernel_rfl)
instance : Own Tryd.prog 69 := .of (by kernel_rfl)
instance : Own Tryd.prog 79 := .of (by kernel_rfl)
instance : Own Tryd.prog 82 := .of (by kernel_rfl)
instance : Own Tryd.prog 83 := .of (by kernel_rfl)
instance : Own Tryd.prog 84 := .of (by kernel_rfl)
end Go.Proofs.YtjfkjpbkmpofkaaDoor
end
section
namespace Go.Sp
def bit (n k : Nat) : Bool := decide (n / 2 ^ k % 2 = 1)
end Go.Sp
end
section
namespace Go.Sp
def isLetter (c : UInt8) : Bool := (decide (97 ≤ c.toNat) && decide (c.toNat ≤ 122)) || (decide (65 ≤ c.toNat) && decide (c.toNat ≤ 90)) || decide (c.toNat = 95)
def isDigit (c : UInt8) : Bool := decide (48 ≤ c.toNat) && decide (c.toNat ≤ 57)
def isBlank (c : UInt8) : Bool := decide (c.toNat = 32) || decide (c.toNat = 10) || decide (c.toNat = 9)
def signs : List UInt8 := [40, 41, 123, 125, 44, 58, 59, 61, 43, 45, 42, 60]
def isSign (c : UInt8) : Bool := signs.any (fun x => decide (x = c))
def isWord (c : UInt8) : Bool := isLetter c || isDigit c
def noLine (c : UInt8) : Bool := decide (c.toNat ≠ 10)

/-- one, and those behind it for which 'F' holds. -/
def run (F : UInt8 → Bool) (r : List UInt8) : Nat := 1 + (r.takeWhile F).length

def one : List UInt8 → Nat × Nat
  | [] => (4, 1)
  | c :: r =>
    if isBlank c then (0, run isBlank r) else
    if c.toNat = 35 then (0, run noLine r) else
    if isLetter c then (1, run isWord r) else
    if isDigit c then (2, run isDigit r) else
    if isSign c then (3, 1) else (4, 1)

structure Tok where
  kind : Nat
  text : List UInt8
  pos : Nat
  deriving DecidableEq

def toks : Nat → List UInt8 → Nat → List Tok
  | 0, _, _ => []
  | f + 1, s, at_ =>
    if s = [] then [] else
    if (one s).1 > 0 then ⟨(one s).1, s.take (one s).2, at_⟩ :: toks f (s.drop (one s).2) (at_ + (one s).2)
    else toks f (s.drop (one s).2) (at_ + (one s).2)
def tokens (s : List UInt8) : List Tok := toks s.length s 0

theorem takeWhile_len (F : UInt8 → Bool) : ∀ (r : List UInt8) (m : Nat), (∀ j, j < m → F (r.getD j 0) = true) → m ≤ r.length → (m = r.length ∨ F (r.getD m 0) = false) → (r.takeWhile F).length = m
  | [], m, _, h2, _ => by simp at h2; simp [h2]
  | c :: r, 0, _, _, h3 => by
    have : F c = false := by simpa using h3
    simp [this]
  | c :: r, m + 1, h1, h2, h3 => by
    have h0 : F c = true := by simpa using h1 0 (by omega)
    have := takeWhile_len F r m (fun j hj => by simpa using h1 (j + 1) (by omega)) (by simpa using h2) (by simpa using h3)
    simp [h0, this]
theorem run_eq (F : UInt8 → Bool) (s : List UInt8) (k : Nat) (h0 : 1 ≤ k) (h1 : ∀ j, 1 ≤ j → j < k → F (s.getD j 0) = true) (h2 : k ≤ s.length) (h3 : k = s.length ∨ F (s.getD k 0) = false) : run F s.tail = k := by
  cases s with
  | nil => simp at h2; omega
  | cons c r =>
    obtain ⟨m, rfl⟩ : ∃ m, k = m + 1 := ⟨k - 1, by omega⟩
    have := takeWhile_len F r m (fun j hj => by simpa using h1 (j + 1) (by omega) (by omega)) (by simpa using h2) (by simpa using h3)
    simp [run, this]; omega
theorem run_le (F : UInt8 → Bool) (s : List UInt8) (h : s ≠ []) : 1 ≤ run F s.tail ∧ run F s.tail ≤ s.length := by
  cases s with
  | nil => exact absurd rfl h
  | cons c r =>
    have := (List.takeWhile_prefix F (l := r)).length_le
    simp [run]; omega
theorem one_le (s : List UInt8) (h : s ≠ []) : 1 ≤ (one s).2 ∧ (one s).2 ≤ s.length := by
  cases s with
  | nil => exact absurd rfl h
  | cons c r =>
    simp only [one]
    have h1 := fun F => run_le F (c :: r) (by simp)
    simp only [List.tail_cons] at h1
    repeat' split
    all_goals first | exact h1 _ | simp
theorem toks_fuel : ∀ (f g : Nat) (s : List UInt8) (p : Nat), s.length ≤ f → s.length ≤ g → toks f s p = toks g s p
  | 0, 0, _, _, _, _ => rfl
  | 0, g + 1, s, p, h, _ => by
    have : s = [] := List.eq_nil_of_length_eq_zero (by omega)
    simp [toks, this]
  | f + 1, 0, s, p, _, h => by
    have : s = [] := List.eq_nil_of_length_eq_zero (by omega)
    simp [toks, this]
  | f + 1, g + 1, s, p, h1, h2 => by
    by_cases hs : s = []
    · simp [toks, hs]
    · have := one_le s hs
      simp only [toks, hs, if_false]
      rw [toks_fuel f g (s.drop (one s).2) _ (by simp; omega) (by simp; omega)]
/-- the tokens of what stands behind a place. -/
def toksAt (s : List UInt8) (k : Nat) : List Tok := toks (s.length - k) (s.drop k) k
theorem toksAt_end (s : List UInt8) (k : Nat) (h : s.length ≤ k) : toksAt s k = [] := by
  have : s.length - k = 0 := by omega
  simp [toksAt, this, toks]
theorem toksAt_step (s : List UInt8) (k : Nat) (h : k < s.length) :
    toksAt s k = (if (one (s.drop k)).1 > 0 then [⟨(one (s.drop k)).1, (s.drop k).take (one (s.drop k)).2, k⟩] else []) ++ toksAt s (k + (one (s.drop k)).2) := by
  have hne : s.drop k ≠ [] := by simp; omega
  have hl := one_le _ hne
  simp only [List.length_drop] at hl
  obtain ⟨f, hf⟩ : ∃ f, s.length - k = f + 1 := ⟨s.length - k - 1, by omega⟩
  have e : toks f (s.drop (k + (one (s.drop k)).2)) (k + (one (s.drop k)).2) = toksAt s (k + (one (s.drop k)).2) :=
    toks_fuel _ _ _ _ (by simp; omega) (by simp)
  unfold toksAt
  rw [hf]
  simp only [toks, hne, if_false, List.drop_drop]
  rw [e]
  split <;> rfl
theorem tokens_eq (s : List UInt8) : tokens s = toksAt s 0 := by simp [tokens, toksAt]

/-! the reference's way: state by state -/
def ownWords : List (List UInt8) := [[102, 110], [99, 104, 97, 110], [108, 101, 116], [105, 102], [101, 108, 115, 101], [119, 104, 105, 108, 101], [115, 101, 110, 100], [114, 101, 116, 117, 114, 110], [115, 101, 110, 100, 115]]
def word (s : List UInt8) : Bool := decide (1 ≤ s.length) && decide (s.length ≤ 12) && isLetter (s.getD 0 0) && s.all isWord
def name (s : List UInt8) : Bool := !(ownWords.any (fun w => decide (s = w))) && word s
theorem all_iff (F : UInt8 → Bool) (s : List UInt8) : s.all F = true ↔ ∀ j, j < s.length → F (s.getD j 0) = true := by
  rw [List.all_eq_true]
  constructor
  · intro h j hj
    rw [List.getD_eq_getElem?_getD, List.getElem?_eq_getElem hj]
    exact h _ (List.getElem_mem hj)
  · intro h x hx
    obtain ⟨j, hj, rfl⟩ := List.mem_iff_getElem.1 hx
    have := h j hj
    rwa [List.getD_eq_getElem?_getD, List.getElem?_eq_getElem hj] at this
end Go.Sp
end
section
namespace Go.Sp

/-- how far 'F' goes from a place on. -/
def ext (F : UInt8 → Bool) (s : List UInt8) (k : Nat) : List UInt8 := (s.drop k).takeWhile F
end Go.Sp
end
section
namespace Go.Sp

theorem one_kind (s : List UInt8) : (one s).1 ≤ 4 := by
  cases s with
  | nil => simp [one]
  | cons c r =>
    simp only [one]
    repeat' split
    all_goals simp
structure TokOk (s : List UInt8) (t : Tok) : Prop where
  pos : t.pos < s.length
  len : 1 ≤ t.text.length
  fit : t.pos + t.text.length ≤ s.length
  text : t.text = (s.drop t.pos).take t.text.length
  one : t.kind = (one (s.drop t.pos)).1 ∧ t.text.length = (one (s.drop t.pos)).2
  kind : 1 ≤ t.kind ∧ t.kind ≤ 4
theorem toksAt_mem (s : List UInt8) : ∀ (n k : Nat), s.length - k = n → ∀ t ∈ toksAt s k, k ≤ t.pos ∧ TokOk s t := by
  intro n
  induction n using Nat.strongRecOn with
  | _ n ih =>
    intro k hn t ht
    by_cases h : k < s.length
    · rw [toksAt_step s k h] at ht
      have hne : s.drop k ≠ [] := by simp; omega
      have hl := one_le _ hne
      simp only [List.length_drop] at hl
      rcases List.mem_append.1 ht with h1 | h1
      · split at h1
        · rename_i hk
          simp at h1
          subst h1
          have hlen : ((s.drop k).take (one (s.drop k)).2).length = (one (s.drop k)).2 := by simp; omega
          exact ⟨Nat.le_refl _, ⟨h, by rw [hlen]; omega, by rw [hlen]; dsimp only; omega, by rw [hlen], ⟨rfl, hlen⟩, ⟨hk, one_kind _⟩⟩⟩
        · simp at h1
      · obtain ⟨h2, h3⟩ := ih (s.length - (k + (one (s.drop k)).2)) (by omega) _ rfl t h1
        exact ⟨by omega, h3⟩
    · rw [toksAt_end s k (by omega)] at ht
      simp at ht
theorem tokens_ok (s : List UInt8) (t : Tok) (ht : t ∈ tokens s) : TokOk s t := by
  rw [tokens_eq] at ht
  exact (toksAt_mem s _ 0 rfl t ht).2
/-- one behind the other. -/
theorem toksAt_sorted (s : List UInt8) : ∀ (n k : Nat), s.length - k = n → (toksAt s k).Pairwise (fun a b => a.pos + a.text.length ≤ b.pos) := by
  intro n
  induction n using Nat.strongRecOn with
  | _ n ih =>
    intro k hn
    by_cases h : k < s.length
    · have hne : s.drop k ≠ [] := by simp; omega
      have hl := one_le _ hne
      simp only [List.length_drop] at hl
      have h1 := ih (s.length - (k + (one (s.drop k)).2)) (by omega) _ rfl
      rw [toksAt_step s k h]
      split
      · rw [List.singleton_append, List.pairwise_cons]
        refine ⟨fun t ht => ?_, h1⟩
        have := (toksAt_mem s _ _ rfl t ht).1
        simp; omega
      · exact h1
    · rw [toksAt_end s k (by omega)]; exact List.Pairwise.nil
theorem tokens_sorted (s : List UInt8) : (tokens s).Pairwise (fun a b => a.pos + a.text.length ≤ b.pos) := by rw [tokens_eq]; exact toksAt_sorted s _ 0 rfl

def wFn : List UInt8 := [102, 110]
def wChan : List UInt8 := [99, 104, 97, 110]
def begins (s : List UInt8) (t : Tok) : Bool := decide (t.kind = 1) && (decide (t.text = wFn) || decide (t.text = wChan)) && (decide (t.pos = 0) || decide ((s.getD (t.pos - 1) 0).toNat = 10))
def cutStep (s : List UInt8) (acc : List Nat) (t : Tok) : List Nat := if begins s t = true ∨ acc = [] then acc ++ [t.pos] else acc
def cuts (s : List UInt8) : List Nat := (tokens s).foldl (cutStep s) []
theorem cutStep_ne (s : List UInt8) (acc : List Nat) (t : Tok) : cutStep s acc t ≠ [] := by
  unfold cutStep
  split
  · simp
  · rename_i h; exact fun e => h (.inr e)
theorem cutStep_len (s : List UInt8) (acc : List Nat) (t : Tok) : acc.length ≤ (cutStep s acc t).length ∧ (cutStep s acc t).length ≤ acc.length + 1 := by
  unfold cutStep
  split <;> simp
theorem fold_take {α β : Type} (f : β → α → β) (b : β) (l : List α) (k : Nat) (a : α) (h : l[k]? = some a) : (l.take (k + 1)).foldl f b = f ((l.take k).foldl f b) a := by
  rw [List.take_add_one, h]
  simp
end Go.Sp
end
section
namespace Go.Sp
/-- an expression. -/
inductive Ex where
  | mk (kind : Nat) (name : List UInt8) (n : Nat) (args : List Ex) (fr to : Nat)
/-- a statement. -/
inductive Stm where
  | mk (kind : Nat) (name : List UInt8) (at_ label : Nat) (opn : Bool) (e : Ex) (thn els : List Stm) (fr to : Nat)
structure Par where
  name : List UInt8
  label : Nat
  at_ : Nat
structure Rf where
  name : List UInt8
  at_ : Nat
structure Dg where
  fr : Nat
  to : Nat
  err : Nat
  name : List UInt8
structure Itm where
  kind : Nat
  name : List UInt8
  label : Nat
  params : List Par
  sends : List Rf
  body : List Stm
  at_ : Int
  size : Nat
  mark : Nat
  diags : List Dg
instance : Inhabited Ex := ⟨.mk 0 [] 0 [] 0 0⟩
instance : Inhabited Stm := ⟨.mk 0 [] 0 0 false default [] [] 0 0⟩
def Ex.fr : Ex → Nat
  | .mk _ _ _ _ f _ => f
def Ex.to : Ex → Nat
  | .mk _ _ _ _ _ t => t

/-- what is read: its tokens, its size. -/
structure Src where
  l : List Tok
  size : Nat
structure St where
  i : Nat
  ds : List Dg
def Src.tok (T : Src) (i : Nat) : Tok := T.l.getD i ⟨0, [], T.size⟩
def Src.is (T : Src) (i : Nat) (w : List UInt8) : Bool := decide (i < T.l.length) && decide ((T.tok i).text = w)
def Src.endOf (T : Src) (i : Nat) : Nat := if i = 0 then 0 else (T.tok (i - 1)).pos + (T.tok (i - 1)).text.length
def St.bad (T : Src) (s : St) (e : Nat) : St := { s with ds := s.ds ++ [⟨(T.tok s.i).pos, (T.tok s.i).pos + (T.tok s.i).text.length, e, (T.tok s.i).text⟩] }
def St.next (s : St) : St := { s with i := s.i + 1 }
def St.need (T : Src) (s : St) (w : List UInt8) : Bool × St := if T.is s.i w then (true, s.next) else (false, s.bad T 2)
def St.named (T : Src) (s : St) : List UInt8 × St :=
  if name (T.tok s.i).text then ((T.tok s.i).text, s.next) else
  if (T.tok s.i).kind = 1 then ([], (s.bad T 7).next) else ([], s.bad T 2)
def tagB (t : List UInt8) : Bool := decide (t.length = 1) && (decide (97 ≤ (t.getD 0 0).toNat) && decide ((t.getD 0 0).toNat ≤ 104))
/-- a label's tags, from 'n' on. -/
def labL (T : Src) : Nat → Nat → St → Nat × St
  | 0, n, s => (n, s)
  | f + 1, n, s =>
    if T.is s.i [125] then (n, s.next) else
    let t := (T.tok s.i).text
    if !tagB t then (n, s.bad T 2) else
    let q := (t.getD 0 0).toNat - 97
    let s1 := if bit n q then s.bad T 7 else s
    let n1 := if bit n q then n else n + 2 ^ q
    let s2 := s1.next
    if T.is s2.i [125] then labL T f n1 s2 else
    if T.is s2.i [44] then labL T f n1 s2.next else (n1, s2.bad T 2)
def lab (T : Src) (s : St) : Nat × St :=
  if T.is s.i [123] then labL T (T.l.length + 1) 0 s.next else (0, s.bad T 2)
def tight (t : List UInt8) : Nat :=
  if t = [61] ∨ t = [60] then 1 else if t = [43] ∨ t = [45] then 2 else if t = [42] then 3 else 0
def none_ (T : Src) (s : St) (e : Nat) : Ex × St := (.mk 5 [] 0 [] (T.tok s.i).pos (T.tok s.i).pos, s.bad T e)
/-- digits' value; more than a thousand millions is all the same. -/
def digits (t : List UInt8) : Nat := t.foldl (fun n c => if n ≤ 1000000000 then 10 * n + (c.toNat - 48) else n) 0
mutual
def atom (T : Src) : Nat → Nat → St → Ex × St
  | 0, _, s => (default, s)
  | f + 1, d, s =>
    let t := T.tok s.i
    if T.l.length ≤ s.i then none_ T s 2 else
    if 12 ≤ d then none_ T s 12 else
    if t.kind = 2 then
      if 1000000000 < digits t.text then (.mk 1 [] 0 [] t.pos (t.pos + t.text.length), (s.bad T 3).next)
      else (.mk 1 [] (digits t.text) [] t.pos (t.pos + t.text.length), s.next) else
    if t.text = [40] then
      let r := expr T f (d + 1) 1 s.next
      (r.1, (r.2.need T [41]).2) else
    if !name t.text then none_ T s 2 else
    if !T.is (s.i + 1) [40] then (.mk 2 t.text 0 [] t.pos (t.pos + t.text.length), s.next) else
    let r := argL T f (d + 1) [] s.next.next
    let s2 := (r.2.need T [41]).2
    (.mk 4 t.text 0 r.1 t.pos (T.endOf s2.i), s2)
def argL (T : Src) : Nat → Nat → List Ex → St → List Ex × St
  | 0, _, l, s => (l, s)
  | f + 1, d, l, s =>
    if T.l.length ≤ s.i ∨ T.is s.i [41] then (l, s) else
    if l.length = 5 then (l, s.bad T 5) else
    let r := expr T f d 1 s
    if T.is r.2.i [44] then argL T f d (l ++ [r.1]) r.2.next else (l ++ [r.1], r.2)
def expr (T : Src) : Nat → Nat → Nat → St → Ex × St
  | 0, _, _, s => (default, s)
  | f + 1, d, least, s =>
    let r := atom T f d s
    opL T f d least r.1 r.2
def opL (T : Src) : Nat → Nat → Nat → Ex → St → Ex × St
  | 0, _, _, e, s => (e, s)
  | f + 1, d, least, e, s =>
    let op := (T.tok s.i).text
    if tight op < least ∨ tight op = 0 then (e, s) else
    let r := expr T f d (tight op + 1) s.next
    opL T f d least (.mk 3 op 0 [e, r.1] e.fr (max r.1.to e.to)) r.2
 end
mutual
def block (T : Src) : Nat → Nat → St → List Stm × St
  | 0, _, s => ([], s)
  | f + 1, d, s =>
    if !T.is s.i [123] then ([], s.bad T 2) else
    if 12 ≤ d then ([], s.next.bad T 12) else
    let r := stmL T f (d + 1) [] s.next
    (r.1, (r.2.need T [125]).2)
def stmL (T : Src) : Nat → Nat → List Stm → St → List Stm × St
  | 0, _, l, s => (l, s)
  | f + 1, d, l, s =>
    if T.l.length ≤ s.i ∨ T.is s.i [125] then (l, s) else
    if 40 ≤ l.length then (l, s.bad T 5) else
    let r := stm T f d s
    stmL T f d (l ++ [r.1]) (if r.2.i = s.i then r.2.next else r.2)
def stm (T : Src) : Nat → Nat → St → Stm × St
  | 0, _, s => (default, s)
  | f + 1, d, s =>
    let t := T.tok s.i
    let fr := t.pos
    let fin (s : St) : Nat := max (T.endOf s.i) fr
    if t.text = [108, 101, 116] then
      let a := (T.tok (s.i + 1)).pos
      let r := s.next.named T
      let opn := !T.is r.2.i [58]
      let r1 := if opn then (0, r.2) else lab T r.2.next
      let s2 := (r1.2.need T [61]).2
      let r2 := expr T f d 1 s2
      let s3 := (r2.2.need T [59]).2
      (.mk 1 r.1 a r1.1 opn r2.1 [] [] fr (fin s3), s3) else
    if t.text = [105, 102] then
      let r := expr T f d 1 s.next
      let r1 := block T f d r.2
      if T.is r1.2.i [101, 108, 115, 101] then
        let r2 := block T f d r1.2.next
        (.mk 3 [] 0 0 false r.1 r1.1 r2.1 fr (fin r2.2), r2.2)
      else (.mk 3 [] 0 0 false r.1 r1.1 [] fr (fin r1.2), r1.2) else
    if t.text = [119, 104, 105, 108, 101] then
      let r := expr T f d 1 s.next
      let r1 := block T f d r.2
      (.mk 4 [] 0 0 false r.1 r1.1 [] fr (fin r1.2), r1.2) else
    if t.text = [115, 101, 110, 100] then
      let a := (T.tok (s.i + 1)).pos
      let r := s.next.named T
      let r2 := expr T f d 1 r.2
      let s3 := (r2.2.need T [59]).2
      (.mk 5 r.1 a 0 false r2.1 [] [] fr (fin s3), s3) else
    if t.text = [114, 101, 116, 117, 114, 110] then
      let r2 := expr T f d 1 s.next
      let s3 := (r2.2.need T [59]).2
      (.mk 6 [] 0 0 false r2.1 [] [] fr (fin s3), s3) else
    if name t.text then
      if T.is (s.i + 1) [61] then
        let r2 := expr T f d 1 s.next.next
        let s3 := (r2.2.need T [59]).2
        (.mk 2 t.text fr 0 false r2.1 [] [] fr (fin s3), s3)
      else
        let r2 := expr T f d 1 s
        let s3 := (r2.2.need T [59]).2
        (.mk 7 [] 0 0 false r2.1 [] [] fr (fin s3), s3) else
    (.mk 8 [] 0 0 false default [] [] fr (fin (s.bad T 2)), s.bad T 2)
 end
def parL (T : Src) : Nat → List Par → St → List Par × St
  | 0, l, s => (l, s)
  | f + 1, l, s =>
    if T.l.length ≤ s.i ∨ T.is s.i [41] then (l, s) else
    if 5 ≤ l.length then (l, s.bad T 5) else
    let a := (T.tok s.i).pos
    let r := s.named T
    let r1 := r.2.need T [58]
    if !r1.1 then (l, r1.2) else
    let r2 := lab T r1.2
    if T.is r2.2.i [44] then parL T f (l ++ [⟨r.1, r2.1, a⟩]) r2.2.next else (l ++ [⟨r.1, r2.1, a⟩], r2.2)
def sndL (T : Src) : Nat → List Rf → St → List Rf × St
  | 0, l, s => (l, s)
  | f + 1, l, s =>
    if 5 ≤ l.length then (l, s.bad T 5) else
    let a := (T.tok s.i).pos
    let r := s.named T
    if T.is r.2.i [44] then sndL T f (l ++ [⟨r.1, a⟩]) r.2.next else (l ++ [⟨r.1, a⟩], r.2)
/-- enough steps for any of a text's. -/
def fuel (T : Src) : Nat := 8 * T.l.length + 64
/-- a function, behind its word. -/
def fnItm (T : Src) (at_ : Int) (size : Nat) (s : St) : Itm × St :=
  let r := s.named T
  let s1 := (r.2.need T [40]).2
  let r2 := parL T 6 [] s1
  let s3 := (r2.2.need T [41]).2
  let s4 := (s3.need T [58]).2
  let r5 := lab T s4
  let r6 := if T.is r5.2.i [115, 101, 110, 100, 115] then sndL T 6 [] r5.2.next else ([], r5.2)
  let r7 := block T (fuel T) 0 r6.2
  (⟨2, r.1, r5.1, r2.1, r6.1, r7.1, at_, size, (T.tok s.i).pos, []⟩, r7.2)
/-- a channel, behind its word. -/
def chItm (T : Src) (at_ : Int) (size : Nat) (s : St) : Itm × St :=
  let r := s.named T
  let s1 := (r.2.need T [58]).2
  let r2 := lab T s1
  let s3 := (r2.2.need T [59]).2
  (⟨1, r.1, r2.1, [], [], [], at_, size, (T.tok s.i).pos, []⟩, s3)
def item (src : List UInt8) (at_ : Int) : Itm :=
  let T : Src := ⟨tokens src, src.length⟩
  let q := if T.is 0 [102, 110] then fnItm T at_ src.length ⟨1, []⟩ else if T.is 0 [99, 104, 97, 110] then chItm T at_ src.length ⟨1, []⟩ else
    (⟨3, [], 0, [], [], [], at_, src.length, 0, []⟩, { ((⟨0, []⟩ : St).bad T 2) with i := T.l.length })
  let s := if q.2.i < T.l.length then q.2.bad T 2 else q.2
  { q.1 with diags := s.ds }
end Go.Sp
end
