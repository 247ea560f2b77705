/- Walks through functions that the law reaches, and what these compute in plain terms; a part of the proof of the statement in YtmgjfbnleedadaaDoorClose. -/
import Derived.Test.YtmgjfbnleedadaaDoorLayer2
import Derived.KernelRfl
import Derived.Test.YtmgjfbnleedadaaDoorProg
/- The types of the program, as the value-level layer asks for them. Printed by an own small program. -/
namespace Go.Vr
open Go Go.Proofs

instance : Ty Tryd.prog 2 (.int .i64) 1 := ⟨by kernel_rfl, by kernel_rfl⟩
instance : ZerC Tryd.prog 2 [.v (.int .i64 0)] 8 := ⟨.int .i64 0, by kernel_rfl, fun w Z => RepL_v [.int .i64 0]⟩
instance : Ty Tryd.prog 3 (.int .i64) 1 := ⟨by kernel_rfl, by kernel_rfl⟩
instance : ZerC Tryd.prog 3 [.v (.int .i64 0)] 8 := ⟨.int .i64 0, by kernel_rfl, fun w Z => RepL_v [.int .i64 0]⟩
instance : Ty Tryd.prog 4 .bool 1 := ⟨by kernel_rfl, by kernel_rfl⟩
instance : ZerC Tryd.prog 4 [.v (.bool false)] 1 := ⟨.bool false, by kernel_rfl, fun w Z => RepL_v [.bool false]⟩
instance : Ty Tryd.prog 5 (.int .u8) 1 := ⟨by kernel_rfl, by kernel_rfl⟩
instance : ZerC Tryd.prog 5 [.v (.int .u8 0)] 1 := ⟨.int .u8 0, by kernel_rfl, fun w Z => RepL_v [.int .u8 0]⟩
instance : Ty Tryd.prog 6 (.int .u8) 1 := ⟨by kernel_rfl, by kernel_rfl⟩
instance : ZerC Tryd.prog 6 [.v (.int .u8 0)] 1 := ⟨.int .u8 0, by kernel_rfl, fun w Z => RepL_v [.int .u8 0]⟩
instance : Ty Tryd.prog 7 .st 4 := ⟨by kernel_rfl, by kernel_rfl⟩
instance : ZerC Tryd.prog 7 [.v (.int .i64 0), .v (.int .i64 0), .v (.bool false), .v (.int .u8 0)] 24 := ⟨.agg #[.int .i64 0, .int .i64 0, .bool false, .int .u8 0], by kernel_rfl, fun w Z => RepL_v [.int .i64 0, .int .i64 0, .bool false, .int .u8 0]⟩
instance : Fld Tryd.prog 7 0 0 2 1 := .of (by kernel_rfl)
instance : Fld Tryd.prog 7 1 1 3 1 := .of (by kernel_rfl)
instance : Fld Tryd.prog 7 2 2 4 1 := .of (by kernel_rfl)
instance : Fld Tryd.prog 7 3 3 6 1 := .of (by kernel_rfl)
instance : StL Tryd.prog 7 [(0, 1), (1, 1), (2, 1), (3, 1)] := .of (by kernel_rfl)
instance : Ty Tryd.prog 8 .st 4 := ⟨by kernel_rfl, by kernel_rfl⟩
instance : ZerC Tryd.prog 8 [.v (.int .i64 0), .v (.int .i64 0), .v (.bool false), .v (.int .u8 0)] 24 := ⟨.agg #[.int .i64 0, .int .i64 0, .bool false, .int .u8 0], by kernel_rfl, fun w Z => RepL_v [.int .i64 0, .int .i64 0, .bool false, .int .u8 0]⟩
instance : Fld Tryd.prog 8 0 0 2 1 := .of (by kernel_rfl)
instance : Fld Tryd.prog 8 1 1 3 1 := .of (by kernel_rfl)
instance : Fld Tryd.prog 8 2 2 4 1 := .of (by kernel_rfl)
instance : Fld Tryd.prog 8 3 3 6 1 := .of (by kernel_rfl)
instance : StL Tryd.prog 8 [(0, 1), (1, 1), (2, 1), (3, 1)] := .of (by kernel_rfl)
instance : Ty Tryd.prog 9 .str 1 := ⟨by kernel_rfl, by kernel_rfl⟩
instance : ZerC Tryd.prog 9 [.v (.string ⟨#[]⟩)] 16 := ⟨.string ⟨#[]⟩, by kernel_rfl, fun w Z => RepL_v [.string ⟨#[]⟩]⟩
instance : Ty Tryd.prog 10 .str 1 := ⟨by kernel_rfl, by kernel_rfl⟩
instance : ZerC Tryd.prog 10 [.v (.string ⟨#[]⟩)] 16 := ⟨.string ⟨#[]⟩, by kernel_rfl, fun w Z => RepL_v [.string ⟨#[]⟩]⟩
instance : Ty Tryd.prog 11 .str 1 := ⟨by kernel_rfl, by kernel_rfl⟩
instance : ZerC Tryd.prog 11 [.v (.string ⟨#[]⟩)] 16 := ⟨.string ⟨#[]⟩, by kernel_rfl, fun w Z => RepL_v [.string ⟨#[]⟩]⟩
instance : Ty Tryd.prog 12 (.int .u64) 1 := ⟨by kernel_rfl, by kernel_rfl⟩
instance : ZerC Tryd.prog 12 [.v (.int .u64 0)] 8 := ⟨.int .u64 0, by kernel_rfl, fun w Z => RepL_v [.int .u64 0]⟩
instance : Ty Tryd.prog 13 .st 2 := ⟨by kernel_rfl, by kernel_rfl⟩
instance : ZerC Tryd.prog 13 [.v (.string ⟨#[]⟩), .v (.int .u64 0)] 24 := ⟨.agg #[.string ⟨#[]⟩, .int .u64 0], by kernel_rfl, fun w Z => RepL_v [.string ⟨#[]⟩, .int .u64 0]⟩
instance : Fld Tryd.prog 13 0 0 9 1 := .of (by kernel_rfl)
instance : Fld Tryd.prog 13 1 1 12 1 := .of (by kernel_rfl)
instance : StL Tryd.prog 13 [(0, 1), (1, 1)] := .of (by kernel_rfl)
instance : Ty Tryd.prog 14 .st 2 := ⟨by kernel_rfl, by kernel_rfl⟩
instance : ZerC Tryd.prog 14 [.v (.string ⟨#[]⟩), .v (.int .u64 0)] 24 := ⟨.agg #[.string ⟨#[]⟩, .int .u64 0], by kernel_rfl, fun w Z => RepL_v [.string ⟨#[]⟩, .int .u64 0]⟩
instance : Fld Tryd.prog 14 0 0 9 1 := .of (by kernel_rfl)
instance : Fld Tryd.prog 14 1 1 12 1 := .of (by kernel_rfl)
instance : StL Tryd.prog 14 [(0, 1), (1, 1)] := .of (by kernel_rfl)
instance : Ty Tryd.prog 15 (.ptr 90) 1 := ⟨by kernel_rfl, by kernel_rfl⟩
instance : ZerC Tryd.prog 15 [.v (.pointer none)] 8 := ⟨.pointer none, by kernel_rfl, fun w Z => RepL_v [.pointer none]⟩
instance : Ty Tryd.prog 16 (.ptr 93) 1 := ⟨by kernel_rfl, by kernel_rfl⟩
instance : ZerC Tryd.prog 16 [.v (.pointer none)] 8 := ⟨.pointer none, by kernel_rfl, fun w Z => RepL_v [.pointer none]⟩
instance : Ty Tryd.prog 17 (.ptr 101) 1 := ⟨by kernel_rfl, by kernel_rfl⟩
instance : ZerC Tryd.prog 17 [.v (.pointer none)] 8 := ⟨.pointer none, by kernel_rfl, fun w Z => RepL_v [.pointer none]⟩
instance : Ty Tryd.prog 18 .st 1 := ⟨by kernel_rfl, by kernel_rfl⟩
instance : ZerC Tryd.prog 18 [.v (.pointer none)] 8 := ⟨.agg #[.pointer none], by kernel_rfl, fun w Z => RepL_v [.pointer none]⟩
instance : Fld Tryd.prog 18 0 0 17 1 := .of (by kernel_rfl)
instance : StL Tryd.prog 18 [(0, 1)] := .of (by kernel_rfl)
instance : Ty Tryd.prog 19 .st 1 := ⟨by kernel_rfl, by kernel_rfl⟩
instance : ZerC Tryd.prog 19 [.v (.pointer none)] 8 := ⟨.agg #[.pointer none], by kernel_rfl, fun w Z => RepL_v [.pointer none]⟩
instance : Fld Tryd.prog 19 0 0 17 1 := .of (by kernel_rfl)
instance : StL Tryd.prog 19 [(0, 1)] := .of (by kernel_rfl)
instance : Ty Tryd.prog 21 (.int .i32) 1 := ⟨by kernel_rfl, by kernel_rfl⟩
instance : ZerC Tryd.prog 21 [.v (.int .i32 0)] 4 := ⟨.int .i32 0, by kernel_rfl, fun w Z => RepL_v [.int .i32 0]⟩
instance : Ty Tryd.prog 22 (.slice 34) 1 := ⟨by kernel_rfl, by kernel_rfl⟩
instance : ZerC Tryd.prog 22 [.v (.slice none 0 0)] 24 := ⟨.slice none 0 0, by kernel_rfl, fun w Z => RepL_v [.slice none 0 0]⟩
instance : Ty Tryd.prog 25 (.slice 36) 1 := ⟨by kernel_rfl, by kernel_rfl⟩
instance : ZerC Tryd.prog 25 [.v (.slice none 0 0)] 24 := ⟨.slice none 0 0, by kernel_rfl, fun w Z => RepL_v [.slice none 0 0]⟩
instance : Ty Tryd.prog 30 (.int .i16) 1 := ⟨by kernel_rfl, by kernel_rfl⟩
instance : ZerC Tryd.prog 30 [.v (.int .i16 0)] 2 := ⟨.int .i16 0, by kernel_rfl, fun w Z => RepL_v [.int .i16 0]⟩
instance : Ty Tryd.prog 31 (.slice 2) 1 := ⟨by kernel_rfl, by kernel_rfl⟩
instance : ZerC Tryd.prog 31 [.v (.slice none 0 0)] 24 := ⟨.slice none 0 0, by kernel_rfl, fun w Z => RepL_v [.slice none 0 0]⟩
instance : Ty Tryd.prog 32 (.slice 30) 1 := ⟨by kernel_rfl, by kernel_rfl⟩
instance : ZerC Tryd.prog 32 [.v (.slice none 0 0)] 24 := ⟨.slice none 0 0, by kernel_rfl, fun w Z => RepL_v [.slice none 0 0]⟩
instance : Ty Tryd.prog 33 .st 4 := ⟨by kernel_rfl, by kernel_rfl⟩
instance : ZerC Tryd.prog 33 [.v (.int .i16 0), .v (.slice none 0 0), .v (.slice none 0 0), .v (.slice none 0 0)] 80 := ⟨.agg #[.int .i16 0, .slice none 0 0, .slice none 0 0, .slice none 0 0], by kernel_rfl, fun w Z => RepL_v [.int .i16 0, .slice none 0 0, .slice none 0 0, .slice none 0 0]⟩
instance : Fld Tryd.prog 33 0 0 30 1 := .of (by kernel_rfl)
instance : Fld Tryd.prog 33 1 1 31 1 := .of (by kernel_rfl)
instance : Fld Tryd.prog 33 2 2 32 1 := .of (by kernel_rfl)
instance : Fld Tryd.prog 33 3 3 31 1 := .of (by kernel_rfl)
instance : StL Tryd.prog 33 [(0, 1), (1, 1), (2, 1), (3, 1)] := .of (by kernel_rfl)
instance : Ty Tryd.prog 34 .st 4 := ⟨by kernel_rfl, by kernel_rfl⟩
instance : ZerC Tryd.prog 34 [.v (.int .i16 0), .v (.slice none 0 0), .v (.slice none 0 0), .v (.slice none 0 0)] 80 := ⟨.agg #[.int .i16 0, .slice none 0 0, .slice none 0 0, .slice none 0 0], by kernel_rfl, fun w Z => RepL_v [.int .i16 0, .slice none 0 0, .slice none 0 0, .slice none 0 0]⟩
instance : Fld Tryd.prog 34 0 0 30 1 := .of (by kernel_rfl)
instance : Fld Tryd.prog 34 1 1 31 1 := .of (by kernel_rfl)
instance : Fld Tryd.prog 34 2 2 32 1 := .of (by kernel_rfl)
instance : Fld Tryd.prog 34 3 3 31 1 := .of (by kernel_rfl)
instance : StL Tryd.prog 34 [(0, 1), (1, 1), (2, 1), (3, 1)] := .of (by kernel_rfl)
instance : Ty Tryd.prog 36 .st 4 := ⟨by kernel_rfl, by kernel_rfl⟩
instance : ZerC Tryd.prog 36 [.v (.int .i16 0), .v (.slice none 0 0), .v (.slice none 0 0), .v (.slice none 0 0)] 80 := ⟨.agg #[.int .i16 0, .slice none 0 0, .slice none 0 0, .slice none 0 0], by kernel_rfl, fun w Z => RepL_v [.int .i16 0, .slice none 0 0, .slice none 0 0, .slice none 0 0]⟩
instance : Fld Tryd.prog 36 0 0 30 1 := .of (by kernel_rfl)
instance : Fld Tryd.prog 36 1 1 31 1 := .of (by kernel_rfl)
instance : Fld Tryd.prog 36 2 2 32 1 := .of (by kernel_rfl)
instance : Fld Tryd.prog 36 3 3 31 1 := .of (by kernel_rfl)
instance : StL Tryd.prog 36 [(0, 1), (1, 1), (2, 1), (3, 1)] := .of (by kernel_rfl)
instance : Ty Tryd.prog 43 (.ptr 36) 1 := ⟨by kernel_rfl, by kernel_rfl⟩
instance : ZerC Tryd.prog 43 [.v (.pointer none)] 8 := ⟨.pointer none, by kernel_rfl, fun w Z => RepL_v [.pointer none]⟩
instance : Ty Tryd.prog 48 (.slice 3) 1 := ⟨by kernel_rfl, by kernel_rfl⟩
instance : ZerC Tryd.prog 48 [.v (.slice none 0 0)] 24 := ⟨.slice none 0 0, by kernel_rfl, fun w Z => RepL_v [.slice none 0 0]⟩
instance : Ty Tryd.prog 52 (.slice 9) 1 := ⟨by kernel_rfl, by kernel_rfl⟩
instance : ZerC Tryd.prog 52 [.v (.slice none 0 0)] 24 := ⟨.slice none 0 0, by kernel_rfl, fun w Z => RepL_v [.slice none 0 0]⟩
instance : Ty Tryd.prog 58 (.slice 5) 1 := ⟨by kernel_rfl, by kernel_rfl⟩
instance : ZerC Tryd.prog 58 [.v (.slice none 0 0)] 24 := ⟨.slice none 0 0, by kernel_rfl, fun w Z => RepL_v [.slice none 0 0]⟩
instance : Ty Tryd.prog 60 (.ptr 62) 1 := ⟨by kernel_rfl, by kernel_rfl⟩
instance : ZerC Tryd.prog 60 [.v (.pointer none)] 8 := ⟨.pointer none, by kernel_rfl, fun w Z => RepL_v [.pointer none]⟩
instance : Ty Tryd.prog 61 .st 2 := ⟨by kernel_rfl, by kernel_rfl⟩
instance : ZerC Tryd.prog 61 [.v (.pointer none), .v (.slice none 0 0)] 32 := ⟨.agg #[.pointer none, .slice none 0 0], by kernel_rfl, fun w Z => RepL_v [.pointer none, .slice none 0 0]⟩
instance : Fld Tryd.prog 61 0 0 60 1 := .of (by kernel_rfl)
instance : Fld Tryd.prog 61 1 1 58 1 := .of (by kernel_rfl)
instance : StL Tryd.prog 61 [(0, 1), (1, 1)] := .of (by kernel_rfl)
instance : Ty Tryd.prog 62 .st 2 := ⟨by kernel_rfl, by kernel_rfl⟩
instance : ZerC Tryd.prog 62 [.v (.pointer none), .v (.slice none 0 0)] 32 := ⟨.agg #[.pointer none, .slice none 0 0], by kernel_rfl, fun w Z => RepL_v [.pointer none, .slice none 0 0]⟩
instance : Fld Tryd.prog 62 0 0 60 1 := .of (by kernel_rfl)
instance : Fld Tryd.prog 62 1 1 58 1 := .of (by kernel_rfl)
instance : StL Tryd.prog 62 [(0, 1), (1, 1)] := .of (by kernel_rfl)
instance : Ty Tryd.prog 69 (.arr 24 5) 24 := ⟨by kernel_rfl, by kernel_rfl⟩
instance : ZerC Tryd.prog 69 (List.replicate 24 (.v (.int .u8 0))) 24 := ⟨.agg (Array.replicate 24 (.int .u8 0)), by kernel_rfl, fun w Z => RepL_v (List.replicate 24 (.int .u8 0 : Value))⟩
instance : Ty Tryd.prog 70 (.int .u64) 1 := ⟨by kernel_rfl, by kernel_rfl⟩
instance : ZerC Tryd.prog 70 [.v (.int .u64 0)] 8 := ⟨.int .u64 0, by kernel_rfl, fun w Z => RepL_v [.int .u64 0]⟩
instance : Ty Tryd.prog 75 (.ptr 5) 1 := ⟨by kernel_rfl, by kernel_rfl⟩
instance : ZerC Tryd.prog 75 [.v (.pointer none)] 8 := ⟨.pointer none, by kernel_rfl, fun w Z => RepL_v [.pointer none]⟩
instance : Ty Tryd.prog 78 (.arr 20 70) 20 := ⟨by kernel_rfl, by kernel_rfl⟩
instance : ZerC Tryd.prog 78 (List.replicate 20 (.v (.int .u64 0))) 160 := ⟨.agg (Array.replicate 20 (.int .u64 0)), by kernel_rfl, fun w Z => RepL_v (List.replicate 20 (.int .u64 0 : Value))⟩
instance : Ty Tryd.prog 79 (.int .u32) 1 := ⟨by kernel_rfl, by kernel_rfl⟩
instance : ZerC Tryd.prog 79 [.v (.int .u32 0)] 4 := ⟨.int .u32 0, by kernel_rfl, fun w Z => RepL_v [.int .u32 0]⟩
instance : Ty Tryd.prog 80 (.arr 65 5) 65 := ⟨by kernel_rfl, by kernel_rfl⟩
instance : ZerC Tryd.prog 80 (List.replicate 65 (.v (.int .u8 0))) 65 := ⟨.agg (Array.replicate 65 (.int .u8 0)), by kernel_rfl, fun w Z => RepL_v (List.replicate 65 (.int .u8 0 : Value))⟩
instance : Ty Tryd.prog 81 (.int .u64) 1 := ⟨by kernel_rfl, by kernel_rfl⟩
instance : ZerC Tryd.prog 81 [.v (.int .u64 0)] 8 := ⟨.int .u64 0, by kernel_rfl, fun w Z => RepL_v [.int .u64 0]⟩
instance : Ty Tryd.prog 87 (.arr 32 5) 32 := ⟨by kernel_rfl, by kernel_rfl⟩
instance : ZerC Tryd.prog 87 (List.replicate 32 (.v (.int .u8 0))) 32 := ⟨.agg (Array.replicate 32 (.int .u8 0)), by kernel_rfl, fun w Z => RepL_v (List.replicate 32 (.int .u8 0 : Value))⟩
instance : Ty Tryd.prog 88 (.arr 64 5) 64 := ⟨by kernel_rfl, by kernel_rfl⟩
instance : ZerC Tryd.prog 88 (List.replicate 64 (.v (.int .u8 0))) 64 := ⟨.agg (Array.replicate 64 (.int .u8 0)), by kernel_rfl, fun w Z => RepL_v (List.replicate 64 (.int .u8 0 : Value))⟩
instance : Ty Tryd.prog 89 .st 4 := ⟨by kernel_rfl, by kernel_rfl⟩
instance : ZerC Tryd.prog 89 [.v (.pointer none), .v (.pointer none), .v (.pointer none), .v (.string ⟨#[]⟩)] 40 := ⟨.agg #[.pointer none, .pointer none, .pointer none, .string ⟨#[]⟩], by kernel_rfl, fun w Z => RepL_v [.pointer none, .pointer none, .pointer none, .string ⟨#[]⟩]⟩
instance : Fld Tryd.prog 89 0 0 17 1 := .of (by kernel_rfl)
instance : Fld Tryd.prog 89 1 1 17 1 := .of (by kernel_rfl)
instance : Fld Tryd.prog 89 2 2 17 1 := .of (by kernel_rfl)
instance : Fld Tryd.prog 89 3 3 9 1 := .of (by kernel_rfl)
instance : StL Tryd.prog 89 [(0, 1), (1, 1), (2, 1), (3, 1)] := .of (by kernel_rfl)
instance : Ty Tryd.prog 90 .st 4 := ⟨by kernel_rfl, by kernel_rfl⟩
instance : ZerC Tryd.prog 90 [.v (.pointer none), .v (.pointer none), .v (.pointer none), .v (.string ⟨#[]⟩)] 40 := ⟨.agg #[.pointer none, .pointer none, .pointer none, .string ⟨#[]⟩], by kernel_rfl, fun w Z => RepL_v [.pointer none, .pointer none, .pointer none, .string ⟨#[]⟩]⟩
instance : Fld Tryd.prog 90 0 0 17 1 := .of (by kernel_rfl)
instance : Fld Tryd.prog 90 1 1 17 1 := .of (by kernel_rfl)
instance : Fld Tryd.prog 90 2 2 17 1 := .of (by kernel_rfl)
instance : Fld Tryd.prog 90 3 3 9 1 := .of (by kernel_rfl)
instance : StL Tryd.prog 90 [(0, 1), (1, 1), (2, 1), (3, 1)] := .of (by kernel_rfl)
instance : Ty Tryd.prog 91 (.arr 0 16) 0 := ⟨by kernel_rfl, by kernel_rfl⟩
instance : ZerC Tryd.prog 91 [] 0 := ⟨.agg #[], by kernel_rfl, fun w Z => RepL_v []⟩
instance : Ty Tryd.prog 92 .st 0 := ⟨by kernel_rfl, by kernel_rfl⟩
instance : ZerC Tryd.prog 92 [] 0 := ⟨.agg #[], by kernel_rfl, fun w Z => RepL_v []⟩
instance : Fld Tryd.prog 92 0 0 91 0 := .of (by kernel_rfl)
instance : StL Tryd.prog 92 [(0, 0)] := .of (by kernel_rfl)
instance : Ty Tryd.prog 93 .st 0 := ⟨by kernel_rfl, by kernel_rfl⟩
instance : ZerC Tryd.prog 93 [] 0 := ⟨.agg #[], by kernel_rfl, fun w Z => RepL_v []⟩
instance : Fld Tryd.prog 93 0 0 91 0 := .of (by kernel_rfl)
instance : StL Tryd.prog 93 [(0, 0)] := .of (by kernel_rfl)
instance : Ty Tryd.prog 95 (.int .u8) 1 := ⟨by kernel_rfl, by kernel_rfl⟩
instance : ZerC Tryd.prog 95 [.v (.int .u8 0)] 1 := ⟨.int .u8 0, by kernel_rfl, fun w Z => RepL_v [.int .u8 0]⟩
instance : Ty Tryd.prog 96 (.int .u8) 1 := ⟨by kernel_rfl, by kernel_rfl⟩
instance : ZerC Tryd.prog 96 [.v (.int .u8 0)] 1 := ⟨.int .u8 0, by kernel_rfl, fun w Z => RepL_v [.int .u8 0]⟩
instance : Ty Tryd.prog 98 (.int .i32) 1 := ⟨by kernel_rfl, by kernel_rfl⟩
instance : ZerC Tryd.prog 98 [.v (.int .i32 0)] 4 := ⟨.int .i32 0, by kernel_rfl, fun w Z => RepL_v [.int .i32 0]⟩
instance : Ty Tryd.prog 99 (.int .i32) 1 := ⟨by kernel_rfl, by kernel_rfl⟩
instance : ZerC Tryd.prog 99 [.v (.int .i32 0)] 4 := ⟨.int .i32 0, by kernel_rfl, fun w Z => RepL_v [.int .i32 0]⟩
instance : Ty Tryd.prog 100 .st 11 := ⟨by kernel_rfl, by kernel_rfl⟩
instance : ZerC Tryd.prog 100 [.v (.int .u64 0), .v (.int .u64 0), .v (.int .u32 0), .v (.int .u8 0), .v (.int .u8 0), .v (.int .u8 0), .v (.int .u8 0), .v (.nilFunc), .v (.pointer none), .v (.int .i32 0), .v (.int .i32 0)] 48 := ⟨.agg #[.int .u64 0, .int .u64 0, .int .u32 0, .int .u8 0, .int .u8 0, .int .u8 0, .int .u8 0, .nilFunc, .pointer none, .int .i32 0, .int .i32 0], by kernel_rfl, fun w Z => RepL_v [.int .u64 0, .int .u64 0, .int .u32 0, .int .u8 0, .int .u8 0, .int .u8 0, .int .u8 0, .nilFunc, .pointer none, .int .i32 0, .int .i32 0]⟩
instance : Ty Tryd.prog 101 .st 11 := ⟨by kernel_rfl, by kernel_rfl⟩
instance : ZerC Tryd.prog 101 [.v (.int .u64 0), .v (.int .u64 0), .v (.int .u32 0), .v (.int .u8 0), .v (.int .u8 0), .v (.int .u8 0), .v (.int .u8 0), .v (.nilFunc), .v (.pointer none), .v (.int .i32 0), .v (.int .i32 0)] 48 := ⟨.agg #[.int .u64 0, .int .u64 0, .int .u32 0, .int .u8 0, .int .u8 0, .int .u8 0, .int .u8 0, .nilFunc, .pointer none, .int .i32 0, .int .i32 0], by kernel_rfl, fun w Z => RepL_v [.int .u64 0, .int .u64 0, .int .u32 0, .int .u8 0, .int .u8 0, .int .u8 0, .int .u8 0, .nilFunc, .pointer none, .int .i32 0, .int .i32 0]⟩
end Go.Vr
/- What the functions of the tree law compute, in plain Lean. -/
namespace Go.Vr
open Go
set_option linter.unusedVariables false

def i64c (x : Int) : List PV := [.v (.int .i64 x)]
def i16c (x : Int) : List PV := [.v (.int .i16 x)]
def strc (x : ByteArray) : List PV := [.v (.string x)]
structure Knot where
  field : Int
  values : List Int
  next : List Int
  cards : List Int
  deriving Inhabited, DecidableEq
def knotc (k : Knot) : List PV := [.v (.int .i16 k.field), .sh 1 (k.values.map i64c), .sh 1 (k.next.map i16c), .sh 1 (k.cards.map i64c)]
def knoto (k : Knot) : List PV := [.v (.int .i16 k.field), .own 1 (k.values.map i64c), .own 1 (k.next.map i16c), .own 1 (k.cards.map i64c)]
def knotz : Option Knot → List PV
  | none => [.v (.int .i16 0), .v (.slice none 0 0), .v (.slice none 0 0), .v (.slice none 0 0)]
  | some k => knoto k

theorem knotz_len (k : Option Knot) : (knotz k).length = 4 := by cases k <;> rfl
def szL (xs : List Int) (left : Int) : Int := if left - xs.length < 0 then -1 else left - xs.length
theorem szL_lt {xs : List Int} {l : Int} (h : l - xs.length < 0) : szL xs l = -1 := if_pos h
theorem szL_ge {xs : List Int} {l : Int} (h : ¬ l - xs.length < 0) : szL xs l = l - xs.length := if_neg h
theorem szL_in {xs : List Int} {l : Int} (h : -1 ≤ l ∧ l ≤ 1048576) : -1 ≤ szL xs l ∧ szL xs l ≤ 1048576 := by unfold szL; split <;> omega
def szK (k : Knot) (l : Int) : Int := if szL k.values l < 0 then -1 else if szL k.next (szL k.values l) < 0 then -1 else if szL k.cards (szL k.next (szL k.values l)) < 0 then -1 else szL k.cards (szL k.next (szL k.values l))
theorem szK_in {k : Knot} {l : Int} (h : -1 ≤ l ∧ l ≤ 1048576) : -1 ≤ szK k l ∧ szK k l ≤ 1048576 := by
  unfold szK
  have h1 := szL_in (xs := k.values) h
  split
  · omega
  · have h2 := szL_in (xs := k.next) h1
    split
    · omega
    · have h3 := szL_in (xs := k.cards) h2
      split
      · omega
      · exact h3
/-- All lengths are those of slices. -/
def Knot.len (k : Knot) : Prop := k.values.length ≤ 9223372036854775807 ∧ k.next.length ≤ 9223372036854775807 ∧ k.cards.length ≤ 9223372036854775807
theorem Knot.len_getD {ks : List Knot} (h : ∀ k ∈ ks, k.len) (i : Nat) : (ks.getD i default).len := by
  rw [List.getD_eq_getElem?_getD]
  cases hc : ks[i]? with
  | none => exact ⟨by decide, by decide, by decide⟩
  | some k => exact h k (List.mem_of_getElem? hc)
def szF : List Knot → Int → Int
  | [], l => l
  | k :: ks, l => if szK k l < 0 then -1 else szF ks (szK k l)
def szS (ks : List Knot) (l : Int) : Int := if l - ks.length < 0 then -1 else szF ks (l - ks.length)
theorem szF_step {ks : List Knot} {i : Nat} {l : Int} (h : i < ks.length) : szF (ks.drop i) l = if szK (ks.getD i default) l < 0 then -1 else szF (ks.drop (i + 1)) (szK (ks.getD i default) l) := by
  rw [List.drop_eq_getElem_cons h]; simp [szF, h]
theorem szF_end {ks : List Knot} {i : Nat} {l : Int} (h : ¬ i < ks.length) : szF (ks.drop i) l = l := by
  rw [List.drop_of_length_le (by omega)]; rfl

theorem small_getD {ks : List Knot} (h : ∀ k ∈ ks, k.values.length ≤ 1048576 ∧ k.next.length ≤ 1048576 ∧ k.cards.length ≤ 1048576) (i : Nat) : (ks.getD i default).values.length ≤ 1048576 ∧ (ks.getD i default).next.length ≤ 1048576 ∧ (ks.getD i default).cards.length ≤ 1048576 := by
  rw [List.getD_eq_getElem?_getD]
  cases hc : ks[i]? with
  | none => exact ⟨by decide, by decide, by decide⟩
  | some k => exact h k (List.mem_of_getElem? hc)

/-! ### equality by elements -/
theorem drop_eq_step {α : Type} [Inhabited α] {xs ys : List α} {i : Nat} (hl : xs.length = ys.length) (h : i < xs.length) : xs.drop i = ys.drop i ↔ xs.getD i default = ys.getD i default ∧ xs.drop (i + 1) = ys.drop (i + 1) := by
  rw [List.drop_eq_getElem_cons h, List.drop_eq_getElem_cons (show i < ys.length by omega), List.cons.injEq]
  simp [h, show i < ys.length by omega]
theorem drop_eq_end {α : Type} {xs ys : List α} {i : Nat} (hl : xs.length = ys.length) (h : ¬ i < xs.length) : xs.drop i = ys.drop i := by
  rw [List.drop_of_length_le (by omega), List.drop_of_length_le (by omega)]
end Go.Vr
namespace Go.Vr
/-! ### the trees -/
structure Knot.ok (k : Knot) : Prop where
  f : -32768 ≤ k.field ∧ k.field ≤ 32767
  v : k.values.length ≤ 1048576
  n : k.next.length ≤ 1048576
  c : k.cards.length ≤ 1048576
  vs : ∀ x ∈ k.values, -9223372036854775808 ≤ x ∧ x ≤ 9223372036854775807
  ns : ∀ x ∈ k.next, -32768 ≤ x ∧ x ≤ 32767
  cs : ∀ x ∈ k.cards, -9223372036854775808 ≤ x ∧ x ≤ 9223372036854775807
theorem Knot.ok_len (k : Knot) (h : k.ok) : k.values.length ≤ 1048576 ∧ k.next.length ≤ 1048576 ∧ k.cards.length ≤ 1048576 := ⟨h.v, h.n, h.c⟩
theorem Knot.ok_default : (default : Knot).ok := ⟨by decide, by decide, by decide, by decide, by intro x h; exact absurd h List.not_mem_nil, by intro x h; exact absurd h List.not_mem_nil, by intro x h; exact absurd h List.not_mem_nil⟩
theorem getD_of {α : Type} [Inhabited α] {p : α → Prop} {xs : List α} (h : ∀ x ∈ xs, p x) (hd : p default) (i : Nat) : p (xs.getD i default) := by
  rw [List.getD_eq_getElem?_getD]
  cases hc : xs[i]? with
  | none => exact hd
  | some k => exact h k (List.mem_of_getElem? hc)
/-- Rising, from above l, none above top. -/
def upOk (top : Int) : Int → List Int → Prop
  | _, [] => True
  | l, x :: xs => (l + 1 ≤ x ∧ x ≤ top) ∧ upOk top x xs
instance (top : Int) : (l : Int) → (xs : List Int) → Decidable (upOk top l xs)
  | _, [] => isTrue trivial
  | l, x :: xs => by
    have := instDecidableUpOk top x xs
    unfold upOk; infer_instance
theorem upOk_step {top l : Int} {xs : List Int} {i : Nat} (h : i < xs.length) : upOk top l (xs.drop i) ↔ (l + 1 ≤ xs.getD i default ∧ xs.getD i default ≤ top) ∧ upOk top (xs.getD i default) (xs.drop (i + 1)) := by
  rw [List.drop_eq_getElem_cons h]; simp [upOk, h]
theorem upOk_end {top l : Int} {xs : List Int} {i : Nat} (h : ¬ i < xs.length) : upOk top l (xs.drop i) ↔ True := by
  rw [List.drop_of_length_le (by omega)]; simp [upOk]
def leafOk (k : Knot) : Prop := upOk 59 (-1) k.cards ∧ k.values = [] ∧ k.next = []
instance (k : Knot) : Decidable (leafOk k) := by unfold leafOk; infer_instance
end Go.Vr
namespace Go.Vr
/-- The arc at place j. -/
def arcAt (k : Knot) (at_ : Int) (n j : Nat) : Prop := ¬ k.values.getD j default < -2 ∧ (0 < j → ¬ k.values.getD j default ≤ k.values.getD (j - 1) default) ∧ ¬ k.next.getD j default ≤ at_ ∧ ¬ (n : Int) ≤ k.next.getD j default
instance (k : Knot) (at_ : Int) (n j : Nat) : Decidable (arcAt k at_ n j) := by unfold arcAt; infer_instance
def askHead (k : Knot) : Prop := (0 ≤ k.field ∧ k.field < 12) ∧ k.cards = [] ∧ k.values ≠ [] ∧ k.next.length = k.values.length
instance (k : Knot) : Decidable (askHead k) := by unfold askHead; infer_instance
def askOk (k : Knot) (at_ : Int) (n : Nat) : Prop := askHead k ∧ ∀ j, j < k.values.length → arcAt k at_ n j
instance (k : Knot) (at_ : Int) (n : Nat) : Decidable (askOk k at_ n) := by unfold askOk; infer_instance
theorem len_nil {α : Type} {xs : List α} : ((xs.length : Nat) : Int) = 0 ↔ xs = [] := by cases xs <;> simp; omega
def bump1 (s : List Int) (t : Int) : List Int := s.set t.toNat (s.getD t.toNat default + 1)
def bump (s : List Int) (ts : List Int) : List Int := ts.foldl bump1 s
theorem bump_step (s ts : List Int) {i : Nat} (h : i < ts.length) : bump s (ts.take (i + 1)) = bump1 (bump s (ts.take i)) (ts.getD i default) := by
  unfold bump
  rw [List.take_add_one, List.foldl_append]
  simp [h]
theorem bump1_bound {s : List Int} {t : Int} {M : Int} (h : ∀ j, 0 ≤ s.getD j default ∧ s.getD j default ≤ M) (j : Nat) : 0 ≤ (bump1 s t).getD j default ∧ (bump1 s t).getD j default ≤ M + 1 := by
  have hd := h t.toNat
  have hj := h j
  have hM : 0 ≤ M := by omega
  unfold bump1
  rw [List.getD_eq_getElem?_getD, List.getElem?_set]
  split
  · split
    · simp only [Option.getD_some]; omega
    · simp only [Option.getD_none]; show 0 ≤ (0 : Int) ∧ (0 : Int) ≤ M + 1; omega
  · rw [← List.getD_eq_getElem?_getD]; omega

def kOk (ks : List Knot) (j : Nat) : Prop := if (ks.getD j default).field = -1 then leafOk (ks.getD j default) else askOk (ks.getD j default) j ks.length
instance (ks : List Knot) (j : Nat) : Decidable (kOk ks j) := by unfold kOk; infer_instance
/-- How often each knot is led to, after the first i. -/
def seenTo (ks : List Knot) : Nat → List Int
  | 0 => (List.replicate ks.length 0).set 0 1
  | i + 1 => if (ks.getD i default).field = -1 then seenTo ks i else bump (seenTo ks i) (ks.getD i default).next
def treeOk (ks : List Knot) : Prop := (1 ≤ (ks.length : Int) ∧ (ks.length : Int) ≤ 120) ∧ (∀ j, j < ks.length → kOk ks j) ∧ ∀ j, j < ks.length → (seenTo ks ks.length).getD j default = 1
instance (ks : List Knot) : Decidable (treeOk ks) := by unfold treeOk; infer_instance
theorem seen0_bound (n t : Nat) : 0 ≤ ((List.replicate n (0 : Int)).set 0 1).getD t default ∧ ((List.replicate n (0 : Int)).set 0 1).getD t default ≤ 1 := by
  rw [List.getD_eq_getElem?_getD, List.getElem?_set]
  split
  · split
    · simp
    · simp only [Option.getD_none]; show 0 ≤ (0 : Int) ∧ (0 : Int) ≤ 1; omega
  · rw [List.getElem?_replicate]; split
    · simp
    · simp only [Option.getD_none]; show 0 ≤ (0 : Int) ∧ (0 : Int) ≤ 1; omega

def prevOf (xs : List Int) (i : Nat) (d : Int) : Int := if i = 0 then d else xs.getD (i - 1) default
theorem prevOf_succ (xs : List Int) (i : Nat) (d : Int) : prevOf xs (i + 1) d = xs.getD i default := by simp [prevOf]
theorem prevOf_0 {xs : List Int} {i : Nat} {d : Int} (h : i = 0) : prevOf xs i d = d := by simp [prevOf, h]
theorem prevOf_1 {xs : List Int} {i : Nat} {d : Int} (h : 0 < i) : prevOf xs i d = xs.getD (i - 1) default := by simp [prevOf, Nat.ne_of_gt h]
def knOk (k : Knot) (at_ : Int) (n : Nat) : Prop := if k.field = -1 then leafOk k else askOk k at_ n
instance (k : Knot) (at_ : Int) (n : Nat) : Decidable (knOk k at_ n) := by unfold knOk; infer_instance
/-- How often each knot is led to, nothing counted for the first. -/
def seenI (ks : List Knot) : Nat → List Int
  | 0 => List.replicate ks.length 0
  | i + 1 => bump (seenI ks i) (ks.getD i default).next
def treeI (ks : List Knot) : Prop := (1 ≤ (ks.length : Int) ∧ (ks.length : Int) ≤ 120) ∧ (∀ j, j < ks.length → knOk (ks.getD j default) j ks.length) ∧ ∀ m, m < ((seenI ks ks.length).drop 1).length → ((seenI ks ks.length).drop 1).getD m default = 1
instance (ks : List Knot) : Decidable (treeI ks) := by unfold treeI; infer_instance
theorem rep_bound (n t : Nat) : 0 ≤ (List.replicate n (0 : Int)).getD t default ∧ (List.replicate n (0 : Int)).getD t default ≤ 0 := by
  rw [List.getD_eq_getElem?_getD, List.getElem?_replicate]; split
  · simp
  · simp only [Option.getD_none]; show 0 ≤ (0 : Int) ∧ (0 : Int) ≤ 0; omega
def hasNot1 (xs : List Int) : Prop := ¬ ∀ m, m < xs.length → xs.getD m default = 1
instance (xs : List Int) : Decidable (hasNot1 xs) := by unfold hasNot1; infer_instance

theorem knOk_next {k : Knot} {at_ : Int} {n : Nat} (h : knOk k at_ n) : 0 < k.next.length → askOk k at_ n := by
  intro hl
  unfold knOk at h
  split at h
  · have := h.2.2; rw [this] at hl; simp at hl
  · exact h
theorem arc_of {k : Knot} {at_ : Int} {n j : Nat} (h : askOk k at_ n) (hj : j < k.next.length) : at_ < k.next.getD j default ∧ k.next.getD j default < n := by
  have := h.1.2.2.2
  have q := h.2 j (by omega)
  obtain ⟨_, _, r3, r4⟩ := q
  omega

theorem l32 : (ByteArray.mk #[32]).size = 1 := rfl
theorem l10 : (ByteArray.mk #[10]).size = 1 := rfl
theorem lleaf : (ByteArray.mk #[108, 101, 97, 102]).size = 4 := rfl
theorem lask : (ByteArray.mk #[97, 115, 107, 32]).size = 4 := rfl
def valueText (v : Int) : ByteArray := if v = -1 then ⟨#[101, 109, 112, 116, 121]⟩ else if v = -2 then ⟨#[116, 111, 114, 110]⟩ else decimal v.toNat
theorem valueText_size {v : Int} (h : v ≤ 9223372036854775807) : (valueText v).size ≤ 20 := by
  unfold valueText
  split
  · decide
  · split
    · decide
    · exact decimal_20 h
def cardsTo (k : Knot) (acc : ByteArray) : Nat → ByteArray
  | 0 => acc
  | i + 1 => cardsTo k acc i ++ (⟨#[32]⟩ ++ decimal (k.cards.getD i default).toNat)
def arcsTo (k : Knot) (acc : ByteArray) : Nat → ByteArray
  | 0 => acc
  | i + 1 => arcsTo k acc i ++ (⟨#[32]⟩ ++ valueText (k.values.getD i default) ++ ⟨#[32]⟩ ++ decimal (k.next.getD i default).toNat)
def knotT (acc : ByteArray) (k : Knot) : ByteArray :=
  (if k.field < 0 then cardsTo k (acc ++ ⟨#[108, 101, 97, 102]⟩) k.cards.length else arcsTo k (acc ++ (⟨#[97, 115, 107, 32]⟩ ++ decimal k.field.toNat)) k.values.length) ++ ⟨#[10]⟩
def textTo (ks : List Knot) : Nat → ByteArray
  | 0 => ⟨#[]⟩
  | i + 1 => knotT (textTo ks i) (ks.getD i default)
theorem card_of {ks : List Knot} {i j : Nat} (h : kOk ks i) (hf : (ks.getD i default).field < 0) (hj : j < (ks.getD i default).cards.length) : 0 ≤ (ks.getD i default).cards.getD j default ∧ (ks.getD i default).cards.getD j default ≤ 59 := by
  unfold kOk at h
  split at h
  · have hu := h.1
    have key : ∀ (cs : List Int) (l : Int), -1 ≤ l → upOk 59 l cs → ∀ j, j < cs.length → 0 ≤ cs.getD j default ∧ cs.getD j default ≤ 59 := by
      intro cs
      induction cs with
      | nil => intro l _ _ j hj; simp at hj
      | cons c cs ih =>
        intro l hl hu j hj
        obtain ⟨⟨h1, h2⟩, h3⟩ := hu
        cases j with
        | zero => exact ⟨by show 0 ≤ c; omega, h2⟩
        | succ j => exact ih c (by omega) h3 j (by simpa using hj)
    exact key _ _ (by omega) hu j hj
  · have := h.1.1; omega
theorem ask_of {ks : List Knot} {i : Nat} (h : kOk ks i) (hf : ¬ (ks.getD i default).field < 0) : askOk (ks.getD i default) i ks.length := by
  unfold kOk at h
  split at h
  · omega
  · exact h
theorem arc_all {k : Knot} {i n j : Nat} (h : askOk k i n) (hj : j < k.values.length) : -2 ≤ k.values.getD j default ∧ 0 ≤ k.next.getD j default ∧ j < k.next.length := by
  have := h.1.2.2.2
  have q := h.2 j hj
  obtain ⟨r1, _, r3, r4⟩ := q
  omega
end Go.Vr
/- Walks of the functions that the law reaches: what each gives, by value. -/
namespace Go.Vr
open Go Go.Proofs
set_option linter.unusedVariables false
set_option linter.unusedSimpArgs false

/-- laws.szInt64S -/
theorem c_szInt64S {G : World → Prop} (xs : List Int) (left : Int) (hx : xs.length ≤ 9223372036854775807) (hl : -1 ≤ left ∧ left ≤ 1048576) : CallsV Tryd.prog G 16 [.sh 1 (xs.map i64c), .v (.int .i64 left)] (fun r outs => r = .v (.int .i64 (szL xs left)) ∧ outs = [.junk, .junk]) := by
  refine callsV_enter [] Tryd.func16 rfl rfl rfl ?_
  refine vp_seq ?_
  refine vp_region ?_
  refine vpOps_pure (x := .v (.int .i64 0)) (pAs rfl rfl rfl) rfl rfl rfl rfl ?_
  refine vpOps_nil ?_
  refine vp_seq ?_
  refine vp_region ?_
  refine vpOps_pure (x := .v (.int .i64 left)) (pMv rfl rfl rfl) rfl rfl rfl rfl ?_
  refine vpOps_pure (x := .sh 1 (xs.map i64c)) (pMv rfl rfl rfl) rfl rfl rfl rfl ?_
  refine vpOps_pure (x := .v (.int .i64 ((xs.length : Nat) : Int))) (pLen rfl rfl (List.length_map _)) rfl rfl rfl rfl ?_
  refine vpOps_pure (x := .v (.int .i64 (left - ((xs.length : Nat) : Int)))) (pure_sub rfl rfl rfl (in64 (by omega) (by omega))) rfl rfl rfl rfl ?_
  refine vpOps_pure (x := .v (.int .i64 (left - ((xs.length : Nat) : Int)))) (pAs rfl rfl rfl) rfl rfl rfl rfl ?_
  refine vpOps_nil ?_
  refine vp_seq ?_
  refine vp_seq ?_
  refine vp_region ?_
  refine vpOps_pure (x := .v (.int .i64 (left - ((xs.length : Nat) : Int)))) (pMv rfl rfl rfl) rfl rfl rfl rfl ?_
  refine vpOps_pure (x := .v (.bool (decide ((left - ((xs.length : Nat) : Int)) < 0)))) (pure_bin rfl rfl rfl rfl) rfl rfl rfl rfl ?_
  refine vpOps_nil ?_
  refine vIf rfl (fun h1 => ?_) (fun h1 => ?_)
  · skip
    refine vp_seq ?_
    refine vp_region ?_
    refine vpOps_pure (x := .v (.int .i64 (-1))) (pAs rfl rfl rfl) rfl rfl rfl rfl ?_
    refine vpOps_nil ?_
    refine vp_ret ?_
    exact ⟨[.v (.int .i64 (-1))], [4], (.cons (.tmp rfl rfl) .nil), rfl, ⟨(show (.v (.int .i64 (-1)) : PV) = .v (.int .i64 (szL xs left)) from (by first | rw [szL_lt (by omega)] | rw [szL_ge (by omega)])), rfl⟩⟩
  · skip
    refine vp_skip ?_
    refine vp_seq ?_
    refine vp_region ?_
    refine vpOps_pure (x := .v (.int .i64 (left - ((xs.length : Nat) : Int)))) (pMv rfl rfl rfl) rfl rfl rfl rfl ?_
    refine vpOps_pure (x := .v (.int .i64 (left - ((xs.length : Nat) : Int)))) (pAs rfl rfl rfl) rfl rfl rfl rfl ?_
    refine vpOps_nil ?_
    refine vp_ret ?_
    exact ⟨[.v (.int .i64 (left - ((xs.length : Nat) : Int)))], [4], (.cons (.tmp rfl rfl) .nil), rfl, ⟨(show (.v (.int .i64 (left - ((xs.length : Nat) : Int))) : PV) = .v (.int .i64 (szL xs left)) from (by first | rw [szL_lt (by omega)] | rw [szL_ge (by omega)])), rfl⟩⟩

/-- laws.toInt64S -/
theorem c_toInt64S {G : World → Prop} (xs : List Int) (hx : xs.length ≤ 1048576) : CallsV Tryd.prog G 23 [.sh 1 (xs.map i64c)] (fun r outs => r = .own 1 (xs.map i64c) ∧ outs = [.junk]) := by
  refine callsV_enter [] Tryd.func23 rfl rfl rfl ?_
  refine vp_seq ?_
  refine vp_region ?_
  refine vpOps_pure (x := .v (.slice none 0 0)) (pAs rfl rfl rfl) rfl rfl rfl rfl ?_
  refine vpOps_nil ?_
  refine vp_seq ?_
  refine vp_region ?_
  refine vpOps_pure (x := .sh 1 (xs.map i64c)) (pMv rfl rfl rfl) rfl rfl rfl rfl ?_
  refine vpOps_pure (x := .v (.int .i64 ((xs.length : Nat) : Int))) (pLen rfl rfl (List.length_map _)) rfl rfl rfl rfl ?_
  refine vpOps_pure (x := .own 1 ((List.replicate xs.length 0).map i64c)) (pMkM (m := xs.length) rfl rfl rfl (by first | rfl | omega) (by omega) (by omega) rfl rfl (map_rep rfl)) rfl rfl rfl rfl ?_
  refine vpOps_assign rfl rfl rfl rfl rfl rfl rfl ?_
  refine vpOps_nil ?_
  refine vp_seq ?_
  refine vp_seq ?_
  refine vp_region ?_
  refine vpOps_pure (x := .v (.int .i64 0)) (pAs rfl rfl rfl) rfl rfl rfl rfl ?_
  refine vpOps_nil ?_
  refine vp_block ?_
  refine vLoop (α := Nat) (fun i => xs.length - i) (fun i => (i ≤ xs.length) ∧ True) (fun i => [(0, .sh 1 (xs.map i64c)), (2, .v (.slice none 0 0)), (3, .own 1 ((fillTo id 0 xs i).map i64c)), (4, .v (.int .i64 ((i : Nat) : Int)))]) (fun _ => rfl) (fun _ => rfl) 0 ⟨(by omega), trivial⟩ ⟨rfl, rfl, rfl, rfl, trivial⟩ ?_
  rintro i ⟨hi, -⟩
  have hf := fillTo_length id 0 xs i hi
  refine vp_seq ?_
  refine vp_seq ?_
  refine vp_region ?_
  refine vpOps_pure (x := .v (.int .i64 ((i : Nat) : Int))) (pMv rfl rfl rfl) rfl rfl rfl rfl ?_
  refine vpOps_pure (x := .sh 1 (xs.map i64c)) (pMv rfl rfl rfl) rfl rfl rfl rfl ?_
  refine vpOps_pure (x := .v (.int .i64 ((xs.length : Nat) : Int))) (pLen rfl rfl (List.length_map _)) rfl rfl rfl rfl ?_
  refine vpOps_pure (x := .v (.bool (decide (((i : Nat) : Int) < ((xs.length : Nat) : Int))))) (pure_bin rfl rfl rfl rfl) rfl rfl rfl rfl ?_
  refine vpOps_nil ?_
  refine vIf rfl (fun h1 => ?_) (fun h1 => ?_)
  · skip
    refine vp_skip ?_
    refine vp_seq ?_
    refine vp_block ?_
    refine vp_region ?_
    refine vpOps_pure (x := .lv 3 []) (pure_move_lv rfl) rfl rfl rfl rfl ?_
    refine vpOps_pure (x := .v (.int .i64 ((i : Nat) : Int))) (pMv rfl rfl rfl) rfl rfl rfl rfl ?_
    refine vpOps_pure (x := .sh 1 (xs.map i64c)) (pMv rfl rfl rfl) rfl rfl rfl rfl ?_
    refine vpOps_pure (x := .v (.int .i64 ((i : Nat) : Int))) (pMv rfl rfl rfl) rfl rfl rfl rfl ?_
    refine vpOps_pure (x := .rbox [.v (.int .i64 (xs.getD i default))]) (pIx (m := i) rfl rfl rfl (by first | rfl | omega) (by omega) rfl) rfl rfl rfl rfl ?_
    refine vpOps_pure (x := .v (.int .i64 (xs.getD i default))) (pure_load_rbox rfl rfl rfl) rfl rfl rfl rfl ?_
    refine vpOps_pure (x := .pl 3 [⟨i, 0, 1⟩]) (pIxR (m := i) rfl rfl rfl rfl rfl rfl (by first | rfl | omega) (by rw [List.length_map]; omega) rfl) rfl rfl rfl rfl ?_
    refine vSt (f := i64c) (xs := (fillTo id 0 xs i)) (x := .v (.int .i64 (xs.getD i default))) (x' := (xs.getD i default)) rfl rfl rfl rfl rfl rfl rfl rfl rfl rfl (by omega) (Nat.le_of_ble_eq_true rfl) rfl ?_
    refine vpOps_nil ?_
    refine vp_region ?_
    refine vpOps_pure (x := .v (.int .i64 ((i : Nat) : Int))) (pMv rfl rfl rfl) rfl rfl rfl rfl ?_
    refine vpOps_pure (x := .v (.int .i64 (((i : Nat) : Int) + 1))) (pure_add rfl rfl rfl (in64 (by omega) (by omega))) rfl rfl rfl rfl ?_
    refine vpOps_pure (x := .v (.int .i64 (((i : Nat) : Int) + 1))) (pAs rfl rfl rfl) rfl rfl rfl rfl ?_
    refine vpOps_nil ?_
    exact ⟨i + 1, (by first | omega | (dsimp only; omega)), ⟨(by omega), trivial⟩, ⟨rfl, rfl, (show (.own 1 (((fillTo id 0 xs i).set i (xs.getD i default)).map i64c) : PV) = .own 1 ((fillTo id 0 xs (i + 1)).map i64c) from by exact congrArg (fun l => PV.own 1 (l.map i64c)) (fillTo_set (i := i) id 0 xs (by omega))), rfl, trivial⟩⟩
  · skip
    refine vp_exit ?_
    refine vp_seq ?_
    refine vp_region ?_
    refine vpOps_pure (x := .lv 3 []) (pure_move_lv rfl) rfl rfl rfl rfl ?_
    refine vpOps_ghost (ghost_own (t := 21) rfl rfl rfl rfl) ?_
    refine vpOps_assign rfl rfl rfl rfl rfl rfl rfl ?_
    refine vpOps_nil ?_
    refine vp_ret ?_
    exact ⟨[.own 1 ((fillTo id 0 xs i).map i64c)], [2], (.cons (.tmp rfl rfl) .nil), rfl, ⟨(show (.own 1 ((fillTo id 0 xs i).map i64c) : PV) = .own 1 (xs.map i64c) from (by rw [fillTo_done _ _ _ (by omega), List.map_id])), rfl⟩⟩

/-- laws.eqInt64S -/
theorem c_eqInt64S {G : World → Prop} (xs : List Int) (ys : List Int) (hx : xs.length ≤ 9223372036854775807) : CallsV Tryd.prog G 32 [.sh 1 (xs.map i64c), .sh 1 (ys.map i64c)] (fun r outs => r = .v (.bool (decide (xs = ys))) ∧ outs = [.junk, .junk]) := by
  refine callsV_enter [] Tryd.func32 rfl rfl rfl ?_
  refine vp_seq ?_
  refine vp_region ?_
  refine vpOps_pure (x := .v (.bool (false))) (pAs rfl rfl rfl) rfl rfl rfl rfl ?_
  refine vpOps_nil ?_
  refine vp_seq ?_
  refine vp_seq ?_
  refine vp_region ?_
  refine vpOps_pure (x := .sh 1 (xs.map i64c)) (pMv rfl rfl rfl) rfl rfl rfl rfl ?_
  refine vpOps_pure (x := .v (.int .i64 ((xs.length : Nat) : Int))) (pLen rfl rfl (List.length_map _)) rfl rfl rfl rfl ?_
  refine vpOps_pure (x := .sh 1 (ys.map i64c)) (pMv rfl rfl rfl) rfl rfl rfl rfl ?_
  refine vpOps_pure (x := .v (.int .i64 ((ys.length : Nat) : Int))) (pLen rfl rfl (List.length_map _)) rfl rfl rfl rfl ?_
  refine vpOps_pure (x := .v (.bool (!decide (((xs.length : Nat) : Int) = ((ys.length : Nat) : Int))))) (pure_bin rfl rfl rfl rfl) rfl rfl rfl rfl ?_
  refine vpOps_nil ?_
  refine vIfN rfl (fun h1 => ?_) (fun h1 => ?_)
  · skip
    refine vp_seq ?_
    refine vp_region ?_
    refine vpOps_pure (x := .v (.bool (false))) (pAs rfl rfl rfl) rfl rfl rfl rfl ?_
    refine vpOps_nil ?_
    refine vp_ret ?_
    exact ⟨[.v (.bool (false))], [4], (.cons (.tmp rfl rfl) .nil), rfl, ⟨(show (.v (.bool (false)) : PV) = .v (.bool (decide (xs = ys))) from (by first | exact dec_f (fun e => by subst e; omega) | exact dec_f (by rw [he, drop_eq_step hl (by omega)]; exact fun h => absurd h.1 (by assumption)) | exact dec_t (he.2 (drop_eq_end hl (by omega))))), rfl⟩⟩
  · skip
    refine vp_skip ?_
    refine vp_seq ?_
    refine vp_seq ?_
    refine vp_region ?_
    refine vpOps_pure (x := .v (.int .i64 0)) (pAs rfl rfl rfl) rfl rfl rfl rfl ?_
    refine vpOps_nil ?_
    refine vp_block ?_
    refine vLoop (α := Nat) (fun i => xs.length - i) (fun i => (i ≤ xs.length) ∧ (xs = ys ↔ xs.drop i = ys.drop i) ∧ True) (fun i => [(0, .sh 1 (xs.map i64c)), (1, .sh 1 (ys.map i64c)), (5, .v (.int .i64 ((i : Nat) : Int)))]) (fun _ => rfl) (fun _ => rfl) 0 ⟨(by omega), (by exact Iff.rfl), trivial⟩ ⟨rfl, rfl, rfl, trivial⟩ ?_
    rintro i ⟨hi, he, -⟩
    have hl : xs.length = ys.length := by omega
    refine vp_seq ?_
    refine vp_seq ?_
    refine vp_region ?_
    refine vpOps_pure (x := .v (.int .i64 ((i : Nat) : Int))) (pMv rfl rfl rfl) rfl rfl rfl rfl ?_
    refine vpOps_pure (x := .sh 1 (xs.map i64c)) (pMv rfl rfl rfl) rfl rfl rfl rfl ?_
    refine vpOps_pure (x := .v (.int .i64 ((xs.length : Nat) : Int))) (pLen rfl rfl (List.length_map _)) rfl rfl rfl rfl ?_
    refine vpOps_pure (x := .v (.bool (decide (((i : Nat) : Int) < ((xs.length : Nat) : Int))))) (pure_bin rfl rfl rfl rfl) rfl rfl rfl rfl ?_
    refine vpOps_nil ?_
    refine vIf rfl (fun h2 => ?_) (fun h2 => ?_)
    · skip
      refine vp_skip ?_
      refine vp_seq ?_
      refine vp_block ?_
      refine vp_seq ?_
      refine vRegD 9 ((17, .sh 1 (xs.map i64c)) :: (18, .v (.int .i64 ((i : Nat) : Int))) :: (19, .rbox [.v (.int .i64 (xs.getD i default))]) :: (20, .v (.int .i64 (xs.getD i default))) :: (21, .sh 1 (ys.map i64c)) :: (22, .v (.int .i64 ((i : Nat) : Int))) :: (23, .rbox [.v (.int .i64 (ys.getD i default))]) :: (24, .v (.int .i64 (ys.getD i default))) :: (25, .v (.bool (!decide ((xs.getD i default) = (ys.getD i default))))) :: []) (0 :: 0 :: 3 :: 7 :: 0 :: 0 :: 48 :: 112 :: 255 :: []) (by kernel_rfl) rfl (by kernel_rfl) (by kernel_rfl) (by kernel_rfl) (by kernel_rfl) (by kernel_rfl) ⟨
          dPure rfl (pMv rfl rfl rfl),
          dPure rfl (pMv rfl rfl rfl),
          dPure rfl (pIx (m := i) rfl rfl rfl (by first | rfl | omega) (by omega) rfl),
          dPure rfl (pure_load_rbox rfl rfl rfl),
          dPure rfl (pMv rfl rfl rfl),
          dPure rfl (pMv rfl rfl rfl),
          dPure rfl (pIx (m := i) rfl rfl rfl (by first | rfl | omega) (by omega) rfl),
          dPure rfl (pure_load_rbox rfl rfl rfl),
          dPure rfl (pure_bin rfl rfl rfl rfl),
          trivial⟩ ?_
      refine vpOps_nil ?_
      refine vIfN rfl (fun h3 => ?_) (fun h3 => ?_)
      · skip
        refine vp_seq ?_
        refine vp_region ?_
        refine vpOps_pure (x := .v (.bool (false))) (pAs rfl rfl rfl) rfl rfl rfl rfl ?_
        refine vpOps_nil ?_
        refine vp_ret ?_
        exact ⟨[.v (.bool (false))], [4], (.cons (.tmp rfl rfl) .nil), rfl, ⟨(show (.v (.bool (false)) : PV) = .v (.bool (decide (xs = ys))) from (by first | exact dec_f (fun e => by subst e; omega) | exact dec_f (by rw [he, drop_eq_step hl (by omega)]; exact fun h => absurd h.1 (by assumption)) | exact dec_t (he.2 (drop_eq_end hl (by omega))))), rfl⟩⟩
      · skip
        refine vp_skip ?_
        refine vp_region ?_
        refine vpOps_pure (x := .v (.int .i64 ((i : Nat) : Int))) (pMv rfl rfl rfl) rfl rfl rfl rfl ?_
        refine vpOps_pure (x := .v (.int .i64 (((i : Nat) : Int) + 1))) (pure_add rfl rfl rfl (in64 (by omega) (by omega))) rfl rfl rfl rfl ?_
        refine vpOps_pure (x := .v (.int .i64 (((i : Nat) : Int) + 1))) (pAs rfl rfl rfl) rfl rfl rfl rfl ?_
        refine vpOps_nil ?_
        exact ⟨i + 1, (by first | omega | (dsimp only; omega)), ⟨(by omega), (by rw [he, drop_eq_step hl (by omega)]; exact ⟨fun h => h.2, fun h => ⟨by assumption, h⟩⟩), trivial⟩, ⟨rfl, rfl, rfl, trivial⟩⟩
    · skip
      refine vp_exit ?_
      refine vp_seq ?_
      refine vp_region ?_
      refine vpOps_pure (x := .v (.bool (true))) (pAs rfl rfl rfl) rfl rfl rfl rfl ?_
      refine vpOps_nil ?_
      refine vp_ret ?_
      exact ⟨[.v (.bool (true))], [4], (.cons (.tmp rfl rfl) .nil), rfl, ⟨(show (.v (.bool (true)) : PV) = .v (.bool (decide (xs = ys))) from (by first | exact dec_f (fun e => by subst e; omega) | exact dec_f (by rw [he, drop_eq_step hl (by omega)]; exact fun h => absurd h.1 (by assumption)) | exact dec_t (he.2 (drop_eq_end hl (by omega))))), rfl⟩⟩

/-- laws.szInt16S -/
theorem c_szInt16S {G : World → Prop} (xs : List Int) (left : Int) (hx : xs.length ≤ 9223372036854775807) (hl : -1 ≤ left ∧ left ≤ 1048576) : CallsV Tryd.prog G 17 [.sh 1 (xs.map i16c), .v (.int .i64 left)] (fun r outs => r = .v (.int .i64 (szL xs left)) ∧ outs = [.junk, .junk]) := by
  refine callsV_enter [] Tryd.func17 rfl rfl rfl ?_
  refine vp_seq ?_
  refine vp_region ?_
  refine vpOps_pure (x := .v (.int .i64 0)) (pAs rfl rfl rfl) rfl rfl rfl rfl ?_
  refine vpOps_nil ?_
  refine vp_seq ?_
  refine vp_region ?_
  refine vpOps_pure (x := .v (.int .i64 left)) (pMv rfl rfl rfl) rfl rfl rfl rfl ?_
  refine vpOps_pure (x := .sh 1 (xs.map i16c)) (pMv rfl rfl rfl) rfl rfl rfl rfl ?_
  refine vpOps_pure (x := .v (.int .i64 ((xs.length : Nat) : Int))) (pLen rfl rfl (List.length_map _)) rfl rfl rfl rfl ?_
  refine vpOps_pure (x := .v (.int .i64 (left - ((xs.length : Nat) : Int)))) (pure_sub rfl rfl rfl (in64 (by omega) (by omega))) rfl rfl rfl rfl ?_
  refine vpOps_pure (x := .v (.int .i64 (left - ((xs.length : Nat) : Int)))) (pAs rfl rfl rfl) rfl rfl rfl rfl ?_
  refine vpOps_nil ?_
  refine vp_seq ?_
  refine vp_seq ?_
  refine vp_region ?_
  refine vpOps_pure (x := .v (.int .i64 (left - ((xs.length : Nat) : Int)))) (pMv rfl rfl rfl) rfl rfl rfl rfl ?_
  refine vpOps_pure (x := .v (.bool (decide ((left - ((xs.length : Nat) : Int)) < 0)))) (pure_bin rfl rfl rfl rfl) rfl rfl rfl rfl ?_
  refine vpOps_nil ?_
  refine vIf rfl (fun h1 => ?_) (fun h1 => ?_)
  · skip
    refine vp_seq ?_
    refine vp_region ?_
    refine vpOps_pure (x := .v (.int .i64 (-1))) (pAs rfl rfl rfl) rfl rfl rfl rfl ?_
    refine vpOps_nil ?_
    refine vp_ret ?_
    exact ⟨[.v (.int .i64 (-1))], [4], (.cons (.tmp rfl rfl) .nil), rfl, ⟨(show (.v (.int .i64 (-1)) : PV) = .v (.int .i64 (szL xs left)) from (by first | rw [szL_lt (by omega)] | rw [szL_ge (by omega)])), rfl⟩⟩
  · skip
    refine vp_skip ?_
    refine vp_seq ?_
    refine vp_region ?_
    refine vpOps_pure (x := .v (.int .i64 (left - ((xs.length : Nat) : Int)))) (pMv rfl rfl rfl) rfl rfl rfl rfl ?_
    refine vpOps_pure (x := .v (.int .i64 (left - ((xs.length : Nat) : Int)))) (pAs rfl rfl rfl) rfl rfl rfl rfl ?_
    refine vpOps_nil ?_
    refine vp_ret ?_
    exact ⟨[.v (.int .i64 (left - ((xs.length : Nat) : Int)))], [4], (.cons (.tmp rfl rfl) .nil), rfl, ⟨(show (.v (.int .i64 (left - ((xs.length : Nat) : Int))) : PV) = .v (.int .i64 (szL xs left)) from (by first | rw [szL_lt (by omega)] | rw [szL_ge (by omega)])), rfl⟩⟩

/-- laws.toInt16S -/
theorem c_toInt16S {G : World → Prop} (xs : List Int) (hx : xs.length ≤ 1048576) : CallsV Tryd.prog G 24 [.sh 1 (xs.map i16c)] (fun r outs => r = .own 1 (xs.map i16c) ∧ outs = [.junk]) := by
  refine callsV_enter [] Tryd.func24 rfl rfl rfl ?_
  refine vp_seq ?_
  refine vp_region ?_
  refine vpOps_pure (x := .v (.slice none 0 0)) (pAs rfl rfl rfl) rfl rfl rfl rfl ?_
  refine vpOps_nil ?_
  refine vp_seq ?_
  refine vp_region ?_
  refine vpOps_pure (x := .sh 1 (xs.map i16c)) (pMv rfl rfl rfl) rfl rfl rfl rfl ?_
  refine vpOps_pure (x := .v (.int .i64 ((xs.length : Nat) : Int))) (pLen rfl rfl (List.length_map _)) rfl rfl rfl rfl ?_
  refine vpOps_pure (x := .own 1 ((List.replicate xs.length 0).map i16c)) (pMkM (m := xs.length) rfl rfl rfl (by first | rfl | omega) (by omega) (by omega) rfl rfl (map_rep rfl)) rfl rfl rfl rfl ?_
  refine vpOps_assign rfl rfl rfl rfl rfl rfl rfl ?_
  refine vpOps_nil ?_
  refine vp_seq ?_
  refine vp_seq ?_
  refine vp_region ?_
  refine vpOps_pure (x := .v (.int .i64 0)) (pAs rfl rfl rfl) rfl rfl rfl rfl ?_
  refine vpOps_nil ?_
  refine vp_block ?_
  refine vLoop (α := Nat) (fun i => xs.length - i) (fun i => (i ≤ xs.length) ∧ True) (fun i => [(0, .sh 1 (xs.map i16c)), (2, .v (.slice none 0 0)), (3, .own 1 ((fillTo id 0 xs i).map i16c)), (4, .v (.int .i64 ((i : Nat) : Int)))]) (fun _ => rfl) (fun _ => rfl) 0 ⟨(by omega), trivial⟩ ⟨rfl, rfl, rfl, rfl, trivial⟩ ?_
  rintro i ⟨hi, -⟩
  have hf := fillTo_length id 0 xs i hi
  refine vp_seq ?_
  refine vp_seq ?_
  refine vp_region ?_
  refine vpOps_pure (x := .v (.int .i64 ((i : Nat) : Int))) (pMv rfl rfl rfl) rfl rfl rfl rfl ?_
  refine vpOps_pure (x := .sh 1 (xs.map i16c)) (pMv rfl rfl rfl) rfl rfl rfl rfl ?_
  refine vpOps_pure (x := .v (.int .i64 ((xs.length : Nat) : Int))) (pLen rfl rfl (List.length_map _)) rfl rfl rfl rfl ?_
  refine vpOps_pure (x := .v (.bool (decide (((i : Nat) : Int) < ((xs.length : Nat) : Int))))) (pure_bin rfl rfl rfl rfl) rfl rfl rfl rfl ?_
  refine vpOps_nil ?_
  refine vIf rfl (fun h1 => ?_) (fun h1 => ?_)
  · skip
    refine vp_skip ?_
    refine vp_seq ?_
    refine vp_block ?_
    refine vp_region ?_
    refine vpOps_pure (x := .lv 3 []) (pure_move_lv rfl) rfl rfl rfl rfl ?_
    refine vpOps_pure (x := .v (.int .i64 ((i : Nat) : Int))) (pMv rfl rfl rfl) rfl rfl rfl rfl ?_
    refine vpOps_pure (x := .sh 1 (xs.map i16c)) (pMv rfl rfl rfl) rfl rfl rfl rfl ?_
    refine vpOps_pure (x := .v (.int .i64 ((i : Nat) : Int))) (pMv rfl rfl rfl) rfl rfl rfl rfl ?_
    refine vpOps_pure (x := .rbox [.v (.int .i16 (xs.getD i default))]) (pIx (m := i) rfl rfl rfl (by first | rfl | omega) (by omega) rfl) rfl rfl rfl rfl ?_
    refine vpOps_pure (x := .v (.int .i16 (xs.getD i default))) (pure_load_rbox rfl rfl rfl) rfl rfl rfl rfl ?_
    refine vpOps_pure (x := .pl 3 [⟨i, 0, 1⟩]) (pIxR (m := i) rfl rfl rfl rfl rfl rfl (by first | rfl | omega) (by rw [List.length_map]; omega) rfl) rfl rfl rfl rfl ?_
    refine vSt (f := i16c) (xs := (fillTo id 0 xs i)) (x := .v (.int .i16 (xs.getD i default))) (x' := (xs.getD i default)) rfl rfl rfl rfl rfl rfl rfl rfl rfl rfl (by omega) (Nat.le_of_ble_eq_true rfl) rfl ?_
    refine vpOps_nil ?_
    refine vp_region ?_
    refine vpOps_pure (x := .v (.int .i64 ((i : Nat) : Int))) (pMv rfl rfl rfl) rfl rfl rfl rfl ?_
    refine vpOps_pure (x := .v (.int .i64 (((i : Nat) : Int) + 1))) (pure_add rfl rfl rfl (in64 (by omega) (by omega))) rfl rfl rfl rfl ?_
    refine vpOps_pure (x := .v (.int .i64 (((i : Nat) : Int) + 1))) (pAs rfl rfl rfl) rfl rfl rfl rfl ?_
    refine vpOps_nil ?_
    exact ⟨i + 1, (by first | omega | (dsimp only; omega)), ⟨(by omega), trivial⟩, ⟨rfl, rfl, (show (.own 1 (((fillTo id 0 xs i).set i (xs.getD i default)).map i16c) : PV) = .own 1 ((fillTo id 0 xs (i + 1)).map i16c) from by exact congrArg (fun l => PV.own 1 (l.map i16c)) (fillTo_set (i := i) id 0 xs (by omega))), rfl, trivial⟩⟩
  · skip
    refine vp_exit ?_
    refine vp_seq ?_
    refine vp_region ?_
    refine vpOps_pure (x := .lv 3 []) (pure_move_lv rfl) rfl rfl rfl rfl ?_
    refine vpOps_ghost (ghost_own (t := 21) rfl rfl rfl rfl) ?_
    refine vpOps_assign rfl rfl rfl rfl rfl rfl rfl ?_
    refine vpOps_nil ?_
    refine vp_ret ?_
    exact ⟨[.own 1 ((fillTo id 0 xs i).map i16c)], [2], (.cons (.tmp rfl rfl) .nil), rfl, ⟨(show (.own 1 ((fillTo id 0 xs i).map i16c) : PV) = .own 1 (xs.map i16c) from (by rw [fillTo_done _ _ _ (by omega), List.map_id])), rfl⟩⟩

/-- laws.eqInt16S -/
theorem c_eqInt16S {G : World → Prop} (xs : List Int) (ys : List Int) (hx : xs.length ≤ 9223372036854775807) : CallsV Tryd.prog G 33 [.sh 1 (xs.map i16c), .sh 1 (ys.map i16c)] (fun r outs => r = .v (.bool (decide (xs = ys))) ∧ outs = [.junk, .junk]) := by
  refine callsV_enter [] Tryd.func33 rfl rfl rfl ?_
  refine vp_seq ?_
  refine vp_region ?_
  refine vpOps_pure (x := .v (.bool (false))) (pAs rfl rfl rfl) rfl rfl rfl rfl ?_
  refine vpOps_nil ?_
  refine vp_seq ?_
  refine vp_seq ?_
  refine vp_region ?_
  refine vpOps_pure (x := .sh 1 (xs.map i16c)) (pMv rfl rfl rfl) rfl rfl rfl rfl ?_
  refine vpOps_pure (x := .v (.int .i64 ((xs.length : Nat) : Int))) (pLen rfl rfl (List.length_map _)) rfl rfl rfl rfl ?_
  refine vpOps_pure (x := .sh 1 (ys.map i16c)) (pMv rfl rfl rfl) rfl rfl rfl rfl ?_
  refine vpOps_pure (x := .v (.int .i64 ((ys.length : Nat) : Int))) (pLen rfl rfl (List.length_map _)) rfl rfl rfl rfl ?_
  refine vpOps_pure (x := .v (.bool (!decide (((xs.length : Nat) : Int) = ((ys.length : Nat) : Int))))) (pure_bin rfl rfl rfl rfl) rfl rfl rfl rfl ?_
  refine vpOps_nil ?_
  refine vIfN rfl (fun h1 => ?_) (fun h1 => ?_)
  · skip
    refine vp_seq ?_
    refine vp_region ?_
    refine vpOps_pure (x := .v (.bool (false))) (pAs rfl rfl rfl) rfl rfl rfl rfl ?_
    refine vpOps_nil ?_
    refine vp_ret ?_
    exact ⟨[.v (.bool (false))], [4], (.cons (.tmp rfl rfl) .nil), rfl, ⟨(show (.v (.bool (false)) : PV) = .v (.bool (decide (xs = ys))) from (by first | exact dec_f (fun e => by subst e; omega) | exact dec_f (by rw [he, drop_eq_step hl (by omega)]; exact fun h => absurd h.1 (by assumption)) | exact dec_t (he.2 (drop_eq_end hl (by omega))))), rfl⟩⟩
  · skip
    refine vp_skip ?_
    refine vp_seq ?_
    refine vp_seq ?_
    refine vp_region ?_
    refine vpOps_pure (x := .v (.int .i64 0)) (pAs rfl rfl rfl) rfl rfl rfl rfl ?_
    refine vpOps_nil ?_
    refine vp_block ?_
    refine vLoop (α := Nat) (fun i => xs.length - i) (fun i => (i ≤ xs.length) ∧ (xs = ys ↔ xs.drop i = ys.drop i) ∧ True) (fun i => [(0, .sh 1 (xs.map i16c)), (1, .sh 1 (ys.map i16c)), (5, .v (.int .i64 ((i : Nat) : Int)))]) (fun _ => rfl) (fun _ => rfl) 0 ⟨(by omega), (by exact Iff.rfl), trivial⟩ ⟨rfl, rfl, rfl, trivial⟩ ?_
    rintro i ⟨hi, he, -⟩
    have hl : xs.length = ys.length := by omega
    refine vp_seq ?_
    refine vp_seq ?_
    refine vp_region ?_
    refine vpOps_pure (x := .v (.int .i64 ((i : Nat) : Int))) (pMv rfl rfl rfl) rfl rfl rfl rfl ?_
    refine vpOps_pure (x := .sh 1 (xs.map i16c)) (pMv rfl rfl rfl) rfl rfl rfl rfl ?_
    refine vpOps_pure (x := .v (.int .i64 ((xs.length : Nat) : Int))) (pLen rfl rfl (List.length_map _)) rfl rfl rfl rfl ?_
    refine vpOps_pure (x := .v (.bool (decide (((i : Nat) : Int) < ((xs.length : Nat) : Int))))) (pure_bin rfl rfl rfl rfl) rfl rfl rfl rfl ?_
    refine vpOps_nil ?_
    refine vIf rfl (fun h2 => ?_) (fun h2 => ?_)
    · skip
      refine vp_skip ?_
      refine vp_seq ?_
      refine vp_block ?_
      refine vp_seq ?_
      refine vRegD 9 ((17, .sh 1 (xs.map i16c)) :: (18, .v (.int .i64 ((i : Nat) : Int))) :: (19, .rbox [.v (.int .i16 (xs.getD i default))]) :: (20, .v (.int .i16 (xs.getD i default))) :: (21, .sh 1 (ys.map i16c)) :: (22, .v (.int .i64 ((i : Nat) : Int))) :: (23, .rbox [.v (.int .i16 (ys.getD i default))]) :: (24, .v (.int .i16 (ys.getD i default))) :: (25, .v (.bool (!decide ((xs.getD i default) = (ys.getD i default))))) :: []) (0 :: 0 :: 3 :: 7 :: 0 :: 0 :: 48 :: 112 :: 255 :: []) (by kernel_rfl) rfl (by kernel_rfl) (by kernel_rfl) (by kernel_rfl) (by kernel_rfl) (by kernel_rfl) ⟨
          dPure rfl (pMv rfl rfl rfl),
          dPure rfl (pMv rfl rfl rfl),
          dPure rfl (pIx (m := i) rfl rfl rfl (by first | rfl | omega) (by omega) rfl),
          dPure rfl (pure_load_rbox rfl rfl rfl),
          dPure rfl (pMv rfl rfl rfl),
          dPure rfl (pMv rfl rfl rfl),
          dPure rfl (pIx (m := i) rfl rfl rfl (by first | rfl | omega) (by omega) rfl),
          dPure rfl (pure_load_rbox rfl rfl rfl),
          dPure rfl (pure_bin rfl rfl rfl rfl),
          trivial⟩ ?_
      refine vpOps_nil ?_
      refine vIfN rfl (fun h3 => ?_) (fun h3 => ?_)
      · skip
        refine vp_seq ?_
        refine vp_region ?_
        refine vpOps_pure (x := .v (.bool (false))) (pAs rfl rfl rfl) rfl rfl rfl rfl ?_
        refine vpOps_nil ?_
        refine vp_ret ?_
        exact ⟨[.v (.bool (false))], [4], (.cons (.tmp rfl rfl) .nil), rfl, ⟨(show (.v (.bool (false)) : PV) = .v (.bool (decide (xs = ys))) from (by first | exact dec_f (fun e => by subst e; omega) | exact dec_f (by rw [he, drop_eq_step hl (by omega)]; exact fun h => absurd h.1 (by assumption)) | exact dec_t (he.2 (drop_eq_end hl (by omega))))), rfl⟩⟩
      · skip
        refine vp_skip ?_
        refine vp_region ?_
        refine vpOps_pure (x := .v (.int .i64 ((i : Nat) : Int))) (pMv rfl rfl rfl) rfl rfl rfl rfl ?_
        refine vpOps_pure (x := .v (.int .i64 (((i : Nat) : Int) + 1))) (pure_add rfl rfl rfl (in64 (by omega) (by omega))) rfl rfl rfl rfl ?_
        refine vpOps_pure (x := .v (.int .i64 (((i : Nat) : Int) + 1))) (pAs rfl rfl rfl) rfl rfl rfl rfl ?_
        refine vpOps_nil ?_
        exact ⟨i + 1, (by first | omega | (dsimp only; omega)), ⟨(by omega), (by rw [he, drop_eq_step hl (by omega)]; exact ⟨fun h => h.2, fun h => ⟨by assumption, h⟩⟩), trivial⟩, ⟨rfl, rfl, rfl, trivial⟩⟩
    · skip
      refine vp_exit ?_
      refine vp_seq ?_
      refine vp_region ?_
      refine vpOps_pure (x := .v (.bool (true))) (pAs rfl rfl rfl) rfl rfl rfl rfl ?_
      refine vpOps_nil ?_
      refine vp_ret ?_
      exact ⟨[.v (.bool (true))], [4], (.cons (.tmp rfl rfl) .nil), rfl, ⟨(show (.v (.bool (true)) : PV) = .v (.bool (decide (xs = ys))) from (by first | exact dec_f (fun e => by subst e; omega) | exact dec_f (by rw [he, drop_eq_step hl (by omega)]; exact fun h => absurd h.1 (by assumption)) | exact dec_t (he.2 (drop_eq_end hl (by omega))))), rfl⟩⟩

/-- spec.l00In -/
theorem c_l00In {G : World → Prop} (v : Int) (lo : Int) (hi : Int)  : CallsV Tryd.prog G 18 [.v (.int .i64 v), .v (.int .i64 lo), .v (.int .i64 hi)] (fun r outs => r = .v (.bool (decide (lo ≤ v ∧ v ≤ hi))) ∧ outs = [.junk, .junk, .junk]) := by
  refine callsV_enter [] Tryd.func18 rfl rfl rfl ?_
  refine vp_seq ?_
  refine vp_region ?_
  refine vpOps_pure (x := .v (.bool (false))) (pAs rfl rfl rfl) rfl rfl rfl rfl ?_
  refine vpOps_nil ?_
  refine vp_seq ?_
  refine vp_region ?_
  refine vpOps_pure (x := .v (.int .i64 v)) (pMv rfl rfl rfl) rfl rfl rfl rfl ?_
  refine vpOps_pure (x := .v (.int .i64 lo)) (pMv rfl rfl rfl) rfl rfl rfl rfl ?_
  refine vpOps_pure (x := .v (.bool (decide (lo ≤ v)))) (pure_bin rfl rfl rfl rfl) rfl rfl rfl rfl ?_
  refine vpOps_pure (x := .v (.bool (decide (lo ≤ v)))) (pMv rfl rfl rfl) rfl rfl rfl rfl ?_
  by_cases h1 : lo ≤ v
  · skip
    refine vRun rfl rfl rfl (decide_eq_true h1) rfl rfl rfl ?_
    refine vpOps_pure (x := .v (.int .i64 v)) (pMv rfl rfl rfl) rfl rfl rfl rfl ?_
    refine vRun rfl rfl rfl (decide_eq_true h1) rfl rfl rfl ?_
    refine vpOps_pure (x := .v (.int .i64 hi)) (pMv rfl rfl rfl) rfl rfl rfl rfl ?_
    refine vRun rfl rfl rfl (decide_eq_true h1) rfl rfl rfl ?_
    refine vpOps_pure (x := .v (.bool (decide (v ≤ hi)))) (pure_bin rfl rfl rfl rfl) rfl rfl rfl rfl ?_
    refine vpOps_pure (x := .v (.bool (decide (v ≤ hi)))) (pPt rfl rfl (decide_eq_true h1) rfl rfl) rfl rfl rfl rfl ?_
    refine vpOps_pure (x := .v (.bool (decide (v ≤ hi)))) (pAs rfl rfl rfl) rfl rfl rfl rfl ?_
    refine vpOps_nil ?_
    refine vp_ret ?_
    exact ⟨[.v (.bool (decide (v ≤ hi)))], [6], (.cons (.tmp rfl rfl) .nil), rfl, ⟨(show (.v (.bool (decide (v ≤ hi))) : PV) = .v (.bool (decide (lo ≤ v ∧ v ≤ hi))) from (by simp [*])), rfl⟩⟩
  · skip
    refine vPass rfl rfl rfl (decide_eq_false h1) rfl rfl rfl ?_
    refine vPass rfl rfl rfl (decide_eq_false h1) rfl rfl rfl ?_
    refine vPass rfl rfl rfl (decide_eq_false h1) rfl rfl rfl ?_
    refine vpOps_pure (x := .v (.bool (false))) (pPf rfl rfl (decide_eq_false h1) rfl rfl) rfl rfl rfl rfl ?_
    refine vpOps_pure (x := .v (.bool (false))) (pAs rfl rfl rfl) rfl rfl rfl rfl ?_
    refine vpOps_nil ?_
    refine vp_ret ?_
    exact ⟨[.v (.bool (false))], [6], (.cons (.tmp rfl rfl) .nil), rfl, ⟨(show (.v (.bool (false)) : PV) = .v (.bool (decide (lo ≤ v ∧ v ≤ hi))) from (by simp [*])), rfl⟩⟩

/-- laws.szKnot -/
theorem c_szKnot {G : World → Prop} (k : Knot) (left : Int) (hk : k.len) (hl : -1 ≤ left ∧ left ≤ 1048576) : CallsV Tryd.prog G 9 [.agg [.v (.int .i16 k.field), .sh 1 (k.values.map i64c), .sh 1 (k.next.map i16c), .sh 1 (k.cards.map i64c)], .v (.int .i64 left)] (fun r outs => r = .v (.int .i64 (szK k left)) ∧ outs = [.junk, .junk]) := by
  refine callsV_enter [] Tryd.func9 rfl rfl rfl ?_
  refine vp_seq ?_
  refine vp_region ?_
  refine vpOps_pure (x := .box [.v (.int .i16 k.field), .sh 1 (k.values.map i64c), .sh 1 (k.next.map i16c), .sh 1 (k.cards.map i64c)]) (pure_box rfl rfl (mvOk_flat _ rfl) rfl rfl) rfl rfl rfl rfl ?_
  refine vpOps_pure (x := .v (.int .i64 0)) (pAs rfl rfl rfl) rfl rfl rfl rfl ?_
  refine vpOps_nil ?_
  refine vp_seq ?_
  refine vp_region ?_
  refine vpOps_pure (x := .pl 2 [⟨0, 1, 0⟩]) (pure_field_ref rfl rfl rfl rfl) rfl rfl rfl rfl ?_
  refine vpOps_pure (x := .sh 1 (k.values.map i64c)) (pure_load_pl rfl rfl rfl rfl rfl rfl rfl trivial rfl) rfl rfl rfl rfl ?_
  refine vpOps_pure (x := .v (.int .i64 left)) (pMv rfl rfl rfl) rfl rfl rfl rfl ?_
  refine vpOps_call (gs := [⟨.tmp 6, .sh 1 (k.values.map i64c), none, none⟩, ⟨.tmp 7, .v (.int .i64 left), none, none⟩]) (c_szInt64S k.values left (by first | assumption | exact hk.1 | exact hk.2.1 | exact hk.2.2 | exact szL_in hl | exact szL_in (szL_in hl) | omega) (by first | assumption | exact hk.1 | exact hk.2.1 | exact hk.2.2 | exact szL_in hl | exact szL_in (szL_in hl) | omega)) rfl rfl rfl rfl rfl trivial (by kernel_rfl) rfl rfl (gives_cons (gC rfl rfl) (gives_cons (gC rfl rfl) gives_nil)) rfl (fun _ _ _ => .inl rfl) ?_
  rintro _ _ ⟨rfl, rfl⟩
  refine vpOps_pure (x := .v (.int .i64 (szL k.values left))) (pAs rfl rfl rfl) rfl rfl rfl rfl ?_
  refine vpOps_nil ?_
  refine vp_seq ?_
  refine vp_seq ?_
  refine vp_region ?_
  refine vpOps_pure (x := .v (.int .i64 (szL k.values left))) (pMv rfl rfl rfl) rfl rfl rfl rfl ?_
  refine vpOps_pure (x := .v (.bool (decide ((szL k.values left) < 0)))) (pure_bin rfl rfl rfl rfl) rfl rfl rfl rfl ?_
  refine vpOps_nil ?_
  refine vIf rfl (fun h1 => ?_) (fun h1 => ?_)
  · skip
    refine vp_seq ?_
    refine vp_region ?_
    refine vpOps_pure (x := .v (.int .i64 (-1))) (pAs rfl rfl rfl) rfl rfl rfl rfl ?_
    refine vpOps_nil ?_
    refine vp_ret ?_
    exact ⟨[.v (.int .i64 (-1))], [4], (.cons (.tmp rfl rfl) .nil), rfl, ⟨(show (.v (.int .i64 (-1)) : PV) = .v (.int .i64 (szK k left)) from (by simp [szK, *])), rfl⟩⟩
  · skip
    refine vp_skip ?_
    refine vp_seq ?_
    refine vp_region ?_
    refine vpOps_pure (x := .pl 2 [⟨0, 2, 0⟩]) (pure_field_ref rfl rfl rfl rfl) rfl rfl rfl rfl ?_
    refine vpOps_pure (x := .sh 1 (k.next.map i16c)) (pure_load_pl rfl rfl rfl rfl rfl rfl rfl trivial rfl) rfl rfl rfl rfl ?_
    refine vpOps_pure (x := .v (.int .i64 (szL k.values left))) (pMv rfl rfl rfl) rfl rfl rfl rfl ?_
    refine vpOps_call (gs := [⟨.tmp 12, .sh 1 (k.next.map i16c), none, none⟩, ⟨.tmp 13, .v (.int .i64 (szL k.values left)), none, none⟩]) (c_szInt16S k.next (szL k.values left) (by first | assumption | exact hk.1 | exact hk.2.1 | exact hk.2.2 | exact szL_in hl | exact szL_in (szL_in hl) | omega) (by first | assumption | exact hk.1 | exact hk.2.1 | exact hk.2.2 | exact szL_in hl | exact szL_in (szL_in hl) | omega)) rfl rfl rfl rfl rfl trivial (by kernel_rfl) rfl rfl (gives_cons (gC rfl rfl) (gives_cons (gC rfl rfl) gives_nil)) rfl (fun _ _ _ => .inl rfl) ?_
    rintro _ _ ⟨rfl, rfl⟩
    refine vpOps_pure (x := .v (.int .i64 (szL k.next (szL k.values left)))) (pAs rfl rfl rfl) rfl rfl rfl rfl ?_
    refine vpOps_nil ?_
    refine vp_seq ?_
    refine vp_seq ?_
    refine vp_region ?_
    refine vpOps_pure (x := .v (.int .i64 (szL k.next (szL k.values left)))) (pMv rfl rfl rfl) rfl rfl rfl rfl ?_
    refine vpOps_pure (x := .v (.bool (decide ((szL k.next (szL k.values left)) < 0)))) (pure_bin rfl rfl rfl rfl) rfl rfl rfl rfl ?_
    refine vpOps_nil ?_
    refine vIf rfl (fun h2 => ?_) (fun h2 => ?_)
    · skip
      refine vp_seq ?_
      refine vp_region ?_
      refine vpOps_pure (x := .v (.int .i64 (-1))) (pAs rfl rfl rfl) rfl rfl rfl rfl ?_
      refine vpOps_nil ?_
      refine vp_ret ?_
      exact ⟨[.v (.int .i64 (-1))], [4], (.cons (.tmp rfl rfl) .nil), rfl, ⟨(show (.v (.int .i64 (-1)) : PV) = .v (.int .i64 (szK k left)) from (by simp [szK, *])), rfl⟩⟩
    · skip
      refine vp_skip ?_
      refine vp_seq ?_
      refine vp_region ?_
      refine vpOps_pure (x := .pl 2 [⟨0, 3, 0⟩]) (pure_field_ref rfl rfl rfl rfl) rfl rfl rfl rfl ?_
      refine vpOps_pure (x := .sh 1 (k.cards.map i64c)) (pure_load_pl rfl rfl rfl rfl rfl rfl rfl trivial rfl) rfl rfl rfl rfl ?_
      refine vpOps_pure (x := .v (.int .i64 (szL k.next (szL k.values left)))) (pMv rfl rfl rfl) rfl rfl rfl rfl ?_
      refine vpOps_call (gs := [⟨.tmp 18, .sh 1 (k.cards.map i64c), none, none⟩, ⟨.tmp 19, .v (.int .i64 (szL k.next (szL k.values left))), none, none⟩]) (c_szInt64S k.cards (szL k.next (szL k.values left)) (by first | assumption | exact hk.1 | exact hk.2.1 | exact hk.2.2 | exact szL_in hl | exact szL_in (szL_in hl) | omega) (by first | assumption | exact hk.1 | exact hk.2.1 | exact hk.2.2 | exact szL_in hl | exact szL_in (szL_in hl) | omega)) rfl rfl rfl rfl rfl trivial (by kernel_rfl) rfl rfl (gives_cons (gC rfl rfl) (gives_cons (gC rfl rfl) gives_nil)) rfl (fun _ _ _ => .inl rfl) ?_
      rintro _ _ ⟨rfl, rfl⟩
      refine vpOps_pure (x := .v (.int .i64 (szL k.cards (szL k.next (szL k.values left))))) (pAs rfl rfl rfl) rfl rfl rfl rfl ?_
      refine vpOps_nil ?_
      refine vp_seq ?_
      refine vp_seq ?_
      refine vp_region ?_
      refine vpOps_pure (x := .v (.int .i64 (szL k.cards (szL k.next (szL k.values left))))) (pMv rfl rfl rfl) rfl rfl rfl rfl ?_
      refine vpOps_pure (x := .v (.bool (decide ((szL k.cards (szL k.next (szL k.values left))) < 0)))) (pure_bin rfl rfl rfl rfl) rfl rfl rfl rfl ?_
      refine vpOps_nil ?_
      refine vIf rfl (fun h3 => ?_) (fun h3 => ?_)
      · skip
        refine vp_seq ?_
        refine vp_region ?_
        refine vpOps_pure (x := .v (.int .i64 (-1))) (pAs rfl rfl rfl) rfl rfl rfl rfl ?_
        refine vpOps_nil ?_
        refine vp_ret ?_
        exact ⟨[.v (.int .i64 (-1))], [4], (.cons (.tmp rfl rfl) .nil), rfl, ⟨(show (.v (.int .i64 (-1)) : PV) = .v (.int .i64 (szK k left)) from (by simp [szK, *])), rfl⟩⟩
      · skip
        refine vp_skip ?_
        refine vp_seq ?_
        refine vp_region ?_
        refine vpOps_pure (x := .v (.int .i64 (szL k.cards (szL k.next (szL k.values left))))) (pMv rfl rfl rfl) rfl rfl rfl rfl ?_
        refine vpOps_pure (x := .v (.int .i64 (szL k.cards (szL k.next (szL k.values left))))) (pAs rfl rfl rfl) rfl rfl rfl rfl ?_
        refine vpOps_nil ?_
        refine vp_ret ?_
        exact ⟨[.v (.int .i64 (szL k.cards (szL k.next (szL k.values left))))], [4], (.cons (.tmp rfl rfl) .nil), rfl, ⟨(show (.v (.int .i64 (szL k.cards (szL k.next (szL k.values left)))) : PV) = .v (.int .i64 (szK k left)) from (by simp [szK, *])), rfl⟩⟩

/-- laws.szKnotS -/
theorem c_szKnotS {G : World → Prop} (ks : List Knot) (left : Int) (hk : ∀ k ∈ ks, k.len) (hn : ks.length ≤ 9223372036854775807) (hl : -1 ≤ left ∧ left ≤ 1048576) : CallsV Tryd.prog G 4 [.sh 4 (ks.map knotc), .v (.int .i64 left)] (fun r outs => r = .v (.int .i64 (szS ks left)) ∧ outs = [.junk, .junk]) := by
  refine callsV_enter [] Tryd.func4 rfl rfl rfl ?_
  refine vp_seq ?_
  refine vp_region ?_
  refine vpOps_pure (x := .v (.int .i64 0)) (pAs rfl rfl rfl) rfl rfl rfl rfl ?_
  refine vpOps_nil ?_
  refine vp_seq ?_
  refine vp_region ?_
  refine vpOps_pure (x := .v (.int .i64 left)) (pMv rfl rfl rfl) rfl rfl rfl rfl ?_
  refine vpOps_pure (x := .sh 4 (ks.map knotc)) (pMv rfl rfl rfl) rfl rfl rfl rfl ?_
  refine vpOps_pure (x := .v (.int .i64 ((ks.length : Nat) : Int))) (pLen rfl rfl (List.length_map _)) rfl rfl rfl rfl ?_
  refine vpOps_pure (x := .v (.int .i64 (left - ((ks.length : Nat) : Int)))) (pure_sub rfl rfl rfl (in64 (by omega) (by omega))) rfl rfl rfl rfl ?_
  refine vpOps_pure (x := .v (.int .i64 (left - ((ks.length : Nat) : Int)))) (pAs rfl rfl rfl) rfl rfl rfl rfl ?_
  refine vpOps_nil ?_
  refine vp_seq ?_
  refine vp_seq ?_
  refine vp_region ?_
  refine vpOps_pure (x := .v (.int .i64 (left - ((ks.length : Nat) : Int)))) (pMv rfl rfl rfl) rfl rfl rfl rfl ?_
  refine vpOps_pure (x := .v (.bool (decide ((left - ((ks.length : Nat) : Int)) < 0)))) (pure_bin rfl rfl rfl rfl) rfl rfl rfl rfl ?_
  refine vpOps_nil ?_
  refine vIf rfl (fun h1 => ?_) (fun h1 => ?_)
  · skip
    refine vp_seq ?_
    refine vp_region ?_
    refine vpOps_pure (x := .v (.int .i64 (-1))) (pAs rfl rfl rfl) rfl rfl rfl rfl ?_
    refine vpOps_nil ?_
    refine vp_ret ?_
    exact ⟨[.v (.int .i64 (-1))], [4], (.cons (.tmp rfl rfl) .nil), rfl, ⟨(show (.v (.int .i64 (-1)) : PV) = .v (.int .i64 (szS ks left)) from (by first | (rw [he, szF_step (by omega), if_pos (by assumption)]) | (rw [he, szF_end (by omega)]) | simp [szS, *])), rfl⟩⟩
  · skip
    refine vp_skip ?_
    refine vp_seq ?_
    refine vp_seq ?_
    refine vp_region ?_
    refine vpOps_pure (x := .v (.int .i64 0)) (pAs rfl rfl rfl) rfl rfl rfl rfl ?_
    refine vpOps_nil ?_
    refine vp_block ?_
    refine vLoop (α := Nat × Int) (fun (i, l) => ks.length - i) (fun (i, l) => (i ≤ ks.length) ∧ (0 ≤ l ∧ l ≤ 1048576) ∧ (szS ks left = szF (ks.drop i) l) ∧ True) (fun (i, l) => [(0, .sh 4 (ks.map knotc)), (1, .v (.int .i64 l)), (5, .v (.int .i64 ((i : Nat) : Int)))]) (fun ⟨_, _⟩ => rfl) (fun ⟨_, _⟩ => rfl) (0, left - ↑ks.length) ⟨(by omega), (by omega), (by simp [szS, *]), trivial⟩ ⟨rfl, rfl, rfl, trivial⟩ ?_
    rintro ⟨i, l⟩ ⟨hi, h0, he, -⟩
    refine vp_seq ?_
    refine vp_seq ?_
    refine vp_region ?_
    refine vpOps_pure (x := .v (.int .i64 ((i : Nat) : Int))) (pMv rfl rfl rfl) rfl rfl rfl rfl ?_
    refine vpOps_pure (x := .sh 4 (ks.map knotc)) (pMv rfl rfl rfl) rfl rfl rfl rfl ?_
    refine vpOps_pure (x := .v (.int .i64 ((ks.length : Nat) : Int))) (pLen rfl rfl (List.length_map _)) rfl rfl rfl rfl ?_
    refine vpOps_pure (x := .v (.bool (decide (((i : Nat) : Int) < ((ks.length : Nat) : Int))))) (pure_bin rfl rfl rfl rfl) rfl rfl rfl rfl ?_
    refine vpOps_nil ?_
    refine vIf rfl (fun h2 => ?_) (fun h2 => ?_)
    · skip
      refine vp_skip ?_
      refine vp_seq ?_
      refine vp_block ?_
      refine vp_seq ?_
      refine vp_region ?_
      refine vpOps_pure (x := .sh 4 (ks.map knotc)) (pMv rfl rfl rfl) rfl rfl rfl rfl ?_
      refine vpOps_pure (x := .v (.int .i64 ((i : Nat) : Int))) (pMv rfl rfl rfl) rfl rfl rfl rfl ?_
      refine vpOps_pure (x := .rbox [.v (.int .i16 ((ks.getD i default).field)), .sh 1 (((ks.getD i default).values).map i64c), .sh 1 (((ks.getD i default).next).map i16c), .sh 1 (((ks.getD i default).cards).map i64c)]) (pIx (m := i) rfl rfl rfl (by first | rfl | omega) (by omega) rfl) rfl rfl rfl rfl ?_
      refine vpOps_pure (x := .agg [.v (.int .i16 ((ks.getD i default).field)), .sh 1 (((ks.getD i default).values).map i64c), .sh 1 (((ks.getD i default).next).map i16c), .sh 1 (((ks.getD i default).cards).map i64c)]) (pure_load_rbox_agg rfl rfl rfl rfl rfl) rfl rfl rfl rfl ?_
      refine vpOps_pure (x := .v (.int .i64 l)) (pMv rfl rfl rfl) rfl rfl rfl rfl ?_
      refine vpOps_call (gs := [⟨.tmp 21, .agg [.v (.int .i16 ((ks.getD i default).field)), .sh 1 (((ks.getD i default).values).map i64c), .sh 1 (((ks.getD i default).next).map i16c), .sh 1 (((ks.getD i default).cards).map i64c)], none, none⟩, ⟨.tmp 22, .v (.int .i64 l), none, none⟩]) (c_szKnot (ks.getD i default) l (by first | assumption | exact Knot.len_getD hk _ | omega) (by first | assumption | exact Knot.len_getD hk _ | omega)) rfl rfl rfl rfl rfl trivial (by kernel_rfl) rfl rfl (gives_cons (gC rfl rfl) (gives_cons (gC rfl rfl) gives_nil)) rfl (fun _ _ _ => .inl rfl) ?_
      rintro _ _ ⟨rfl, rfl⟩
      refine vpOps_pure (x := .v (.int .i64 (szK (ks.getD i default) l))) (pAs rfl rfl rfl) rfl rfl rfl rfl ?_
      refine vpOps_nil ?_
      refine vp_seq ?_
      refine vp_region ?_
      refine vpOps_pure (x := .v (.int .i64 (szK (ks.getD i default) l))) (pMv rfl rfl rfl) rfl rfl rfl rfl ?_
      refine vpOps_pure (x := .v (.bool (decide ((szK (ks.getD i default) l) < 0)))) (pure_bin rfl rfl rfl rfl) rfl rfl rfl rfl ?_
      refine vpOps_nil ?_
      refine vIf rfl (fun h3 => ?_) (fun h3 => ?_)
      · skip
        refine vp_seq ?_
        refine vp_region ?_
        refine vpOps_pure (x := .v (.int .i64 (-1))) (pAs rfl rfl rfl) rfl rfl rfl rfl ?_
        refine vpOps_nil ?_
        refine vp_ret ?_
        exact ⟨[.v (.int .i64 (-1))], [4], (.cons (.tmp rfl rfl) .nil), rfl, ⟨(show (.v (.int .i64 (-1)) : PV) = .v (.int .i64 (szS ks left)) from (by first | (rw [he, szF_step (by omega), if_pos (by assumption)]) | (rw [he, szF_end (by omega)]) | simp [szS, *])), rfl⟩⟩
      · skip
        refine vp_skip ?_
        refine vp_region ?_
        refine vpOps_pure (x := .v (.int .i64 ((i : Nat) : Int))) (pMv rfl rfl rfl) rfl rfl rfl rfl ?_
        refine vpOps_pure (x := .v (.int .i64 (((i : Nat) : Int) + 1))) (pure_add rfl rfl rfl (in64 (by omega) (by omega))) rfl rfl rfl rfl ?_
        refine vpOps_pure (x := .v (.int .i64 (((i : Nat) : Int) + 1))) (pAs rfl rfl rfl) rfl rfl rfl rfl ?_
        refine vpOps_nil ?_
        exact ⟨(i + 1, szK (ks.getD i default) l), (by first | omega | (dsimp only; omega)), ⟨(by omega), (by have := szK_in (k := ks.getD i default) (l := l) (by omega); omega), (by rw [he, szF_step (by omega), if_neg (by assumption)]), trivial⟩, ⟨rfl, rfl, rfl, trivial⟩⟩
    · skip
      refine vp_exit ?_
      refine vp_seq ?_
      refine vp_region ?_
      refine vpOps_pure (x := .v (.int .i64 l)) (pMv rfl rfl rfl) rfl rfl rfl rfl ?_
      refine vpOps_pure (x := .v (.int .i64 l)) (pAs rfl rfl rfl) rfl rfl rfl rfl ?_
      refine vpOps_nil ?_
      refine vp_ret ?_
      exact ⟨[.v (.int .i64 l)], [4], (.cons (.tmp rfl rfl) .nil), rfl, ⟨(show (.v (.int .i64 l) : PV) = .v (.int .i64 (szS ks left)) from (by first | (rw [he, szF_step (by omega), if_pos (by assumption)]) | (rw [he, szF_end (by omega)]) | simp [szS, *])), rfl⟩⟩

/-- laws.toKnot -/
theorem c_toKnot {G : World → Prop} (k : Knot) (hk : k.values.length ≤ 1048576 ∧ k.next.length ≤ 1048576 ∧ k.cards.length ≤ 1048576) : CallsV Tryd.prog G 12 [.agg [.v (.int .i16 k.field), .sh 1 (k.values.map i64c), .sh 1 (k.next.map i16c), .sh 1 (k.cards.map i64c)]] (fun r outs => r = .agg [.v (.int .i16 k.field), .own 1 (k.values.map i64c), .own 1 (k.next.map i16c), .own 1 (k.cards.map i64c)] ∧ outs = [.junk]) := by
  refine callsV_enter [] Tryd.func12 rfl rfl rfl ?_
  refine vp_seq ?_
  refine vp_region ?_
  refine vpOps_pure (x := .box [.v (.int .i16 k.field), .sh 1 (k.values.map i64c), .sh 1 (k.next.map i16c), .sh 1 (k.cards.map i64c)]) (pure_box rfl rfl (mvOk_flat _ rfl) rfl rfl) rfl rfl rfl rfl ?_
  refine vpOps_pure (x := .box [.v (.int .i16 0), .v (.slice none 0 0), .v (.slice none 0 0), .v (.slice none 0 0)]) (pure_alloc rfl) rfl rfl rfl rfl ?_
  refine vpOps_nil ?_
  refine vp_seq ?_
  refine vp_region ?_
  refine vpOps_pure (x := .box [.v (.int .i16 0), .v (.slice none 0 0), .v (.slice none 0 0), .v (.slice none 0 0)]) (pure_alloc rfl) rfl rfl rfl rfl ?_
  refine vpOps_nil ?_
  refine vp_seq ?_
  refine vp_region ?_
  refine vpOps_pure (x := .pl 1 [⟨0, 0, 0⟩]) (pure_field_ref rfl rfl rfl rfl) rfl rfl rfl rfl ?_
  refine vpOps_pure (x := .v (.int .i16 k.field)) (pure_load_pl rfl rfl rfl rfl rfl rfl rfl trivial rfl) rfl rfl rfl rfl ?_
  refine vpOps_pure (x := .pl 3 [⟨0, 0, 0⟩]) (pure_field_ref rfl rfl rfl rfl) rfl rfl rfl rfl ?_
  refine vStB (x := .v (.int .i16 k.field)) (row' := [.v (.int .i16 k.field), .v (.slice none 0 0), .v (.slice none 0 0), .v (.slice none 0 0)]) rfl rfl rfl rfl rfl rfl rfl rfl rfl rfl rfl rfl ?_
  refine vpOps_nil ?_
  refine vp_seq ?_
  refine vp_region ?_
  refine vpOps_pure (x := .pl 1 [⟨0, 1, 0⟩]) (pure_field_ref rfl rfl rfl rfl) rfl rfl rfl rfl ?_
  refine vpOps_pure (x := .sh 1 (k.values.map i64c)) (pure_load_pl rfl rfl rfl rfl rfl rfl rfl trivial rfl) rfl rfl rfl rfl ?_
  refine vpOps_call (gs := [⟨.tmp 8, .sh 1 (k.values.map i64c), none, none⟩]) (c_toInt64S k.values (by first | exact hk.1 | exact hk.2.1 | exact hk.2.2)) rfl rfl rfl rfl rfl trivial (by kernel_rfl) rfl rfl (gives_cons (gC rfl rfl) gives_nil) rfl (fun _ _ _ => .inl rfl) ?_
  rintro _ _ ⟨rfl, rfl⟩
  refine vpOps_pure (x := .pl 3 [⟨0, 1, 0⟩]) (pure_field_ref rfl rfl rfl rfl) rfl rfl rfl rfl ?_
  refine vStBO (x := .own 1 (k.values.map i64c)) (row' := [.v (.int .i16 k.field), .own 1 (k.values.map i64c), .v (.slice none 0 0), .v (.slice none 0 0)]) rfl rfl rfl rfl rfl rfl rfl rfl rfl rfl rfl rfl rfl ?_
  refine vpOps_nil ?_
  refine vp_seq ?_
  refine vp_region ?_
  refine vpOps_pure (x := .pl 1 [⟨0, 2, 0⟩]) (pure_field_ref rfl rfl rfl rfl) rfl rfl rfl rfl ?_
  refine vpOps_pure (x := .sh 1 (k.next.map i16c)) (pure_load_pl rfl rfl rfl rfl rfl rfl rfl trivial rfl) rfl rfl rfl rfl ?_
  refine vpOps_call (gs := [⟨.tmp 12, .sh 1 (k.next.map i16c), none, none⟩]) (c_toInt16S k.next (by first | exact hk.1 | exact hk.2.1 | exact hk.2.2)) rfl rfl rfl rfl rfl trivial (by kernel_rfl) rfl rfl (gives_cons (gC rfl rfl) gives_nil) rfl (fun _ _ _ => .inl rfl) ?_
  rintro _ _ ⟨rfl, rfl⟩
  refine vpOps_pure (x := .pl 3 [⟨0, 2, 0⟩]) (pure_field_ref rfl rfl rfl rfl) rfl rfl rfl rfl ?_
  refine vStBO (x := .own 1 (k.next.map i16c)) (row' := [.v (.int .i16 k.field), .own 1 (k.values.map i64c), .own 1 (k.next.map i16c), .v (.slice none 0 0)]) rfl rfl rfl rfl rfl rfl rfl rfl rfl rfl rfl rfl rfl ?_
  refine vpOps_nil ?_
  refine vp_seq ?_
  refine vp_region ?_
  refine vpOps_pure (x := .pl 1 [⟨0, 3, 0⟩]) (pure_field_ref rfl rfl rfl rfl) rfl rfl rfl rfl ?_
  refine vpOps_pure (x := .sh 1 (k.cards.map i64c)) (pure_load_pl rfl rfl rfl rfl rfl rfl rfl trivial rfl) rfl rfl rfl rfl ?_
  refine vpOps_call (gs := [⟨.tmp 16, .sh 1 (k.cards.map i64c), none, none⟩]) (c_toInt64S k.cards (by first | exact hk.1 | exact hk.2.1 | exact hk.2.2)) rfl rfl rfl rfl rfl trivial (by kernel_rfl) rfl rfl (gives_cons (gC rfl rfl) gives_nil) rfl (fun _ _ _ => .inl rfl) ?_
  rintro _ _ ⟨rfl, rfl⟩
  refine vpOps_pure (x := .pl 3 [⟨0, 3, 0⟩]) (pure_field_ref rfl rfl rfl rfl) rfl rfl rfl rfl ?_
  refine vStBO (x := .own 1 (k.cards.map i64c)) (row' := [.v (.int .i16 k.field), .own 1 (k.values.map i64c), .own 1 (k.next.map i16c), .own 1 (k.cards.map i64c)]) rfl rfl rfl rfl rfl rfl rfl rfl rfl rfl rfl rfl rfl ?_
  refine vpOps_nil ?_
  refine vp_seq ?_
  refine vp_region ?_
  refine vpOps_loadMove rfl rfl rfl rfl rfl rfl rfl rfl ?_
  refine vStBO (x := .agg [.v (.int .i16 k.field), .own 1 (k.values.map i64c), .own 1 (k.next.map i16c), .own 1 (k.cards.map i64c)]) (row' := [.v (.int .i16 k.field), .own 1 (k.values.map i64c), .own 1 (k.next.map i16c), .own 1 (k.cards.map i64c)]) rfl rfl rfl rfl rfl rfl rfl rfl rfl rfl rfl rfl rfl ?_
  refine vpOps_nil ?_
  refine vp_ret ?_
  exact ⟨[.agg [.v (.int .i16 k.field), .own 1 (k.values.map i64c), .own 1 (k.next.map i16c), .own 1 (k.cards.map i64c)]], [2], (.cons (.cellAgg rfl rfl rfl) .nil), rfl, ⟨(show (.agg [.v (.int .i16 k.field), .own 1 (k.values.map i64c), .own 1 (k.next.map i16c), .own 1 (k.cards.map i64c)] : PV) = .agg [.v (.int .i16 k.field), .own 1 (k.values.map i64c), .own 1 (k.next.map i16c), .own 1 (k.cards.map i64c)] from rfl), rfl⟩⟩

/-- laws.toKnotS -/
theorem c_toKnotS {G : World → Prop} (ks : List Knot) (hn : ks.length ≤ 1048576) (hk : ∀ k ∈ ks, k.values.length ≤ 1048576 ∧ k.next.length ≤ 1048576 ∧ k.cards.length ≤ 1048576) : CallsV Tryd.prog G 6 [.sh 4 (ks.map knotc)] (fun r outs => r = .own 4 (ks.map knoto) ∧ outs = [.junk]) := by
  refine callsV_enter [] Tryd.func6 rfl rfl rfl ?_
  refine vp_seq ?_
  refine vp_region ?_
  refine vpOps_pure (x := .v (.slice none 0 0)) (pAs rfl rfl rfl) rfl rfl rfl rfl ?_
  refine vpOps_nil ?_
  refine vp_seq ?_
  refine vp_region ?_
  refine vpOps_pure (x := .sh 4 (ks.map knotc)) (pMv rfl rfl rfl) rfl rfl rfl rfl ?_
  refine vpOps_pure (x := .v (.int .i64 ((ks.length : Nat) : Int))) (pLen rfl rfl (List.length_map _)) rfl rfl rfl rfl ?_
  refine vpOps_pure (x := .own 4 ((List.replicate ks.length none).map knotz)) (pMkM (m := ks.length) rfl rfl rfl (by first | rfl | omega) (by omega) (by omega) rfl rfl (map_rep rfl)) rfl rfl rfl rfl ?_
  refine vpOps_assign rfl rfl rfl rfl rfl rfl rfl ?_
  refine vpOps_nil ?_
  refine vp_seq ?_
  refine vp_seq ?_
  refine vp_region ?_
  refine vpOps_pure (x := .v (.int .i64 0)) (pAs rfl rfl rfl) rfl rfl rfl rfl ?_
  refine vpOps_nil ?_
  refine vp_block ?_
  refine vLoop (α := Nat) (fun i => ks.length - i) (fun i => (i ≤ ks.length) ∧ True) (fun i => [(0, .sh 4 (ks.map knotc)), (2, .v (.slice none 0 0)), (3, .own 4 ((fillTo some none ks i).map knotz)), (4, .v (.int .i64 ((i : Nat) : Int)))]) (fun _ => rfl) (fun _ => rfl) 0 ⟨(by omega), trivial⟩ ⟨rfl, rfl, rfl, rfl, trivial⟩ ?_
  rintro i ⟨hi, -⟩
  have hf := fillTo_length some none ks i hi
  refine vp_seq ?_
  refine vp_seq ?_
  refine vp_region ?_
  refine vpOps_pure (x := .v (.int .i64 ((i : Nat) : Int))) (pMv rfl rfl rfl) rfl rfl rfl rfl ?_
  refine vpOps_pure (x := .sh 4 (ks.map knotc)) (pMv rfl rfl rfl) rfl rfl rfl rfl ?_
  refine vpOps_pure (x := .v (.int .i64 ((ks.length : Nat) : Int))) (pLen rfl rfl (List.length_map _)) rfl rfl rfl rfl ?_
  refine vpOps_pure (x := .v (.bool (decide (((i : Nat) : Int) < ((ks.length : Nat) : Int))))) (pure_bin rfl rfl rfl rfl) rfl rfl rfl rfl ?_
  refine vpOps_nil ?_
  refine vIf rfl (fun h1 => ?_) (fun h1 => ?_)
  · skip
    refine vp_skip ?_
    refine vp_seq ?_
    refine vp_block ?_
    refine vp_region ?_
    refine vpOps_pure (x := .lv 3 []) (pure_move_lv rfl) rfl rfl rfl rfl ?_
    refine vpOps_pure (x := .v (.int .i64 ((i : Nat) : Int))) (pMv rfl rfl rfl) rfl rfl rfl rfl ?_
    refine vpOps_pure (x := .sh 4 (ks.map knotc)) (pMv rfl rfl rfl) rfl rfl rfl rfl ?_
    refine vpOps_pure (x := .v (.int .i64 ((i : Nat) : Int))) (pMv rfl rfl rfl) rfl rfl rfl rfl ?_
    refine vpOps_pure (x := .rbox [.v (.int .i16 ((ks.getD i default).field)), .sh 1 (((ks.getD i default).values).map i64c), .sh 1 (((ks.getD i default).next).map i16c), .sh 1 (((ks.getD i default).cards).map i64c)]) (pIx (m := i) rfl rfl rfl (by first | rfl | omega) (by omega) rfl) rfl rfl rfl rfl ?_
    refine vpOps_pure (x := .agg [.v (.int .i16 ((ks.getD i default).field)), .sh 1 (((ks.getD i default).values).map i64c), .sh 1 (((ks.getD i default).next).map i16c), .sh 1 (((ks.getD i default).cards).map i64c)]) (pure_load_rbox_agg rfl rfl rfl rfl rfl) rfl rfl rfl rfl ?_
    refine vpOps_call (gs := [⟨.tmp 19, .agg [.v (.int .i16 ((ks.getD i default).field)), .sh 1 (((ks.getD i default).values).map i64c), .sh 1 (((ks.getD i default).next).map i16c), .sh 1 (((ks.getD i default).cards).map i64c)], none, none⟩]) (c_toKnot (ks.getD i default) (by first | assumption | exact small_getD hk _)) rfl rfl rfl rfl rfl trivial (by kernel_rfl) rfl rfl (gives_cons (gC rfl rfl) gives_nil) rfl (fun _ _ _ => .inl rfl) ?_
    rintro _ _ ⟨rfl, rfl⟩
    refine vpOps_pure (x := .pl 3 [⟨i, 0, 4⟩]) (pIxR (m := i) rfl rfl rfl rfl rfl rfl (by first | rfl | omega) (by rw [List.length_map]; omega) rfl) rfl rfl rfl rfl ?_
    refine vStO (f := knotz) (xs := (fillTo some none ks i)) (x := .agg [.v (.int .i16 ((ks.getD i default).field)), .own 1 (((ks.getD i default).values).map i64c), .own 1 (((ks.getD i default).next).map i16c), .own 1 (((ks.getD i default).cards).map i64c)]) (x' := some (ks.getD i default)) rfl rfl rfl rfl rfl rfl rfl rfl rfl rfl rfl (by omega) (Nat.le_of_eq (by rw [knotz_len]; rfl)) (by rw [putAt_full (by rw [knotz_len]; rfl)]; rfl) ?_
    refine vpOps_nil ?_
    refine vp_region ?_
    refine vpOps_pure (x := .v (.int .i64 ((i : Nat) : Int))) (pMv rfl rfl rfl) rfl rfl rfl rfl ?_
    refine vpOps_pure (x := .v (.int .i64 (((i : Nat) : Int) + 1))) (pure_add rfl rfl rfl (in64 (by omega) (by omega))) rfl rfl rfl rfl ?_
    refine vpOps_pure (x := .v (.int .i64 (((i : Nat) : Int) + 1))) (pAs rfl rfl rfl) rfl rfl rfl rfl ?_
    refine vpOps_nil ?_
    exact ⟨i + 1, (by first | omega | (dsimp only; omega)), ⟨(by omega), trivial⟩, ⟨rfl, rfl, (show (.own 4 (((fillTo some none ks i).set i (some (ks.getD i default))).map knotz) : PV) = .own 4 ((fillTo some none ks (i + 1)).map knotz) from by exact congrArg (fun l => PV.own 4 (l.map knotz)) (fillTo_set (i := i) some none ks (by omega))), rfl, trivial⟩⟩
  · skip
    refine vp_exit ?_
    refine vp_seq ?_
    refine vp_region ?_
    refine vpOps_pure (x := .lv 3 []) (pure_move_lv rfl) rfl rfl rfl rfl ?_
    refine vpOps_ghost (ghost_own (t := 22) rfl rfl rfl rfl) ?_
    refine vpOps_assign rfl rfl rfl rfl rfl rfl rfl ?_
    refine vpOps_nil ?_
    refine vp_ret ?_
    exact ⟨[.own 4 ((fillTo some none ks i).map knotz)], [2], (.cons (.tmp rfl rfl) .nil), rfl, ⟨(show (.own 4 ((fillTo some none ks i).map knotz) : PV) = .own 4 (ks.map knoto) from (by rw [fillTo_done _ _ _ (by omega), List.map_map]; rfl)), rfl⟩⟩

/-- laws.eqKnot -/
theorem c_eqKnot {G : World → Prop} (a : Knot) (b : Knot) (ha : a.len) : CallsV Tryd.prog G 15 [.agg [.v (.int .i16 a.field), .sh 1 (a.values.map i64c), .sh 1 (a.next.map i16c), .sh 1 (a.cards.map i64c)], .agg [.v (.int .i16 b.field), .sh 1 (b.values.map i64c), .sh 1 (b.next.map i16c), .sh 1 (b.cards.map i64c)]] (fun r outs => r = .v (.bool (decide (a = b))) ∧ outs = [.junk, .junk]) := by
  refine callsV_enter [] Tryd.func15 rfl rfl rfl ?_
  refine vp_seq ?_
  refine vp_region ?_
  refine vpOps_pure (x := .box [.v (.int .i16 a.field), .sh 1 (a.values.map i64c), .sh 1 (a.next.map i16c), .sh 1 (a.cards.map i64c)]) (pure_box rfl rfl (mvOk_flat _ rfl) rfl rfl) rfl rfl rfl rfl ?_
  refine vpOps_pure (x := .box [.v (.int .i16 b.field), .sh 1 (b.values.map i64c), .sh 1 (b.next.map i16c), .sh 1 (b.cards.map i64c)]) (pure_box rfl rfl (mvOk_flat _ rfl) rfl rfl) rfl rfl rfl rfl ?_
  refine vpOps_pure (x := .v (.bool (false))) (pAs rfl rfl rfl) rfl rfl rfl rfl ?_
  refine vpOps_nil ?_
  refine vp_seq ?_
  refine vp_seq ?_
  refine vp_region ?_
  refine vpOps_pure (x := .pl 2 [⟨0, 0, 0⟩]) (pure_field_ref rfl rfl rfl rfl) rfl rfl rfl rfl ?_
  refine vpOps_pure (x := .v (.int .i16 a.field)) (pure_load_pl rfl rfl rfl rfl rfl rfl rfl trivial rfl) rfl rfl rfl rfl ?_
  refine vpOps_pure (x := .pl 3 [⟨0, 0, 0⟩]) (pure_field_ref rfl rfl rfl rfl) rfl rfl rfl rfl ?_
  refine vpOps_pure (x := .v (.int .i16 b.field)) (pure_load_pl rfl rfl rfl rfl rfl rfl rfl trivial rfl) rfl rfl rfl rfl ?_
  refine vpOps_pure (x := .v (.bool (!decide (a.field = b.field)))) (pure_bin rfl rfl rfl rfl) rfl rfl rfl rfl ?_
  refine vpOps_nil ?_
  refine vIfN rfl (fun h1 => ?_) (fun h1 => ?_)
  · skip
    refine vp_seq ?_
    refine vp_region ?_
    refine vpOps_pure (x := .v (.bool (false))) (pAs rfl rfl rfl) rfl rfl rfl rfl ?_
    refine vpOps_nil ?_
    refine vp_ret ?_
    exact ⟨[.v (.bool (false))], [4], (.cons (.tmp rfl rfl) .nil), rfl, ⟨(show (.v (.bool (false)) : PV) = .v (.bool (decide (a = b))) from (by first | exact dec_f (fun e => by subst e; simp_all) | exact dec_t (by cases a; cases b; simp_all))), rfl⟩⟩
  · skip
    refine vp_skip ?_
    refine vp_seq ?_
    refine vp_seq ?_
    refine vp_region ?_
    refine vpOps_pure (x := .pl 2 [⟨0, 1, 0⟩]) (pure_field_ref rfl rfl rfl rfl) rfl rfl rfl rfl ?_
    refine vpOps_pure (x := .sh 1 (a.values.map i64c)) (pure_load_pl rfl rfl rfl rfl rfl rfl rfl trivial rfl) rfl rfl rfl rfl ?_
    refine vpOps_pure (x := .pl 3 [⟨0, 1, 0⟩]) (pure_field_ref rfl rfl rfl rfl) rfl rfl rfl rfl ?_
    refine vpOps_pure (x := .sh 1 (b.values.map i64c)) (pure_load_pl rfl rfl rfl rfl rfl rfl rfl trivial rfl) rfl rfl rfl rfl ?_
    refine vpOps_call (gs := [⟨.tmp 11, .sh 1 (a.values.map i64c), none, none⟩, ⟨.tmp 13, .sh 1 (b.values.map i64c), none, none⟩]) (c_eqInt64S a.values b.values (by first | exact ha.1 | exact ha.2.1 | exact ha.2.2)) rfl rfl rfl rfl rfl trivial (by kernel_rfl) rfl rfl (gives_cons (gC rfl rfl) (gives_cons (gC rfl rfl) gives_nil)) rfl (fun _ _ _ => .inl rfl) ?_
    rintro _ _ ⟨rfl, rfl⟩
    refine vpOps_pure (x := .v (.bool (!decide (a.values = b.values)))) (pure_not rfl rfl) rfl rfl rfl rfl ?_
    refine vpOps_nil ?_
    refine vIfN rfl (fun h2 => ?_) (fun h2 => ?_)
    · skip
      refine vp_seq ?_
      refine vp_region ?_
      refine vpOps_pure (x := .v (.bool (false))) (pAs rfl rfl rfl) rfl rfl rfl rfl ?_
      refine vpOps_nil ?_
      refine vp_ret ?_
      exact ⟨[.v (.bool (false))], [4], (.cons (.tmp rfl rfl) .nil), rfl, ⟨(show (.v (.bool (false)) : PV) = .v (.bool (decide (a = b))) from (by first | exact dec_f (fun e => by subst e; simp_all) | exact dec_t (by cases a; cases b; simp_all))), rfl⟩⟩
    · skip
      refine vp_skip ?_
      refine vp_seq ?_
      refine vp_seq ?_
      refine vp_region ?_
      refine vpOps_pure (x := .pl 2 [⟨0, 2, 0⟩]) (pure_field_ref rfl rfl rfl rfl) rfl rfl rfl rfl ?_
      refine vpOps_pure (x := .sh 1 (a.next.map i16c)) (pure_load_pl rfl rfl rfl rfl rfl rfl rfl trivial rfl) rfl rfl rfl rfl ?_
      refine vpOps_pure (x := .pl 3 [⟨0, 2, 0⟩]) (pure_field_ref rfl rfl rfl rfl) rfl rfl rfl rfl ?_
      refine vpOps_pure (x := .sh 1 (b.next.map i16c)) (pure_load_pl rfl rfl rfl rfl rfl rfl rfl trivial rfl) rfl rfl rfl rfl ?_
      refine vpOps_call (gs := [⟨.tmp 17, .sh 1 (a.next.map i16c), none, none⟩, ⟨.tmp 19, .sh 1 (b.next.map i16c), none, none⟩]) (c_eqInt16S a.next b.next (by first | exact ha.1 | exact ha.2.1 | exact ha.2.2)) rfl rfl rfl rfl rfl trivial (by kernel_rfl) rfl rfl (gives_cons (gC rfl rfl) (gives_cons (gC rfl rfl) gives_nil)) rfl (fun _ _ _ => .inl rfl) ?_
      rintro _ _ ⟨rfl, rfl⟩
      refine vpOps_pure (x := .v (.bool (!decide (a.next = b.next)))) (pure_not rfl rfl) rfl rfl rfl rfl ?_
      refine vpOps_nil ?_
      refine vIfN rfl (fun h3 => ?_) (fun h3 => ?_)
      · skip
        refine vp_seq ?_
        refine vp_region ?_
        refine vpOps_pure (x := .v (.bool (false))) (pAs rfl rfl rfl) rfl rfl rfl rfl ?_
        refine vpOps_nil ?_
        refine vp_ret ?_
        exact ⟨[.v (.bool (false))], [4], (.cons (.tmp rfl rfl) .nil), rfl, ⟨(show (.v (.bool (false)) : PV) = .v (.bool (decide (a = b))) from (by first | exact dec_f (fun e => by subst e; simp_all) | exact dec_t (by cases a; cases b; simp_all))), rfl⟩⟩
      · skip
        refine vp_skip ?_
        refine vp_seq ?_
        refine vp_seq ?_
        refine vp_region ?_
        refine vpOps_pure (x := .pl 2 [⟨0, 3, 0⟩]) (pure_field_ref rfl rfl rfl rfl) rfl rfl rfl rfl ?_
        refine vpOps_pure (x := .sh 1 (a.cards.map i64c)) (pure_load_pl rfl rfl rfl rfl rfl rfl rfl trivial rfl) rfl rfl rfl rfl ?_
        refine vpOps_pure (x := .pl 3 [⟨0, 3, 0⟩]) (pure_field_ref rfl rfl rfl rfl) rfl rfl rfl rfl ?_
        refine vpOps_pure (x := .sh 1 (b.cards.map i64c)) (pure_load_pl rfl rfl rfl rfl rfl rfl rfl trivial rfl) rfl rfl rfl rfl ?_
        refine vpOps_call (gs := [⟨.tmp 23, .sh 1 (a.cards.map i64c), none, none⟩, ⟨.tmp 25, .sh 1 (b.cards.map i64c), none, none⟩]) (c_eqInt64S a.cards b.cards (by first | exact ha.1 | exact ha.2.1 | exact ha.2.2)) rfl rfl rfl rfl rfl trivial (by kernel_rfl) rfl rfl (gives_cons (gC rfl rfl) (gives_cons (gC rfl rfl) gives_nil)) rfl (fun _ _ _ => .inl rfl) ?_
        rintro _ _ ⟨rfl, rfl⟩
        refine vpOps_pure (x := .v (.bool (!decide (a.cards = b.cards)))) (pure_not rfl rfl) rfl rfl rfl rfl ?_
        refine vpOps_nil ?_
        refine vIfN rfl (fun h4 => ?_) (fun h4 => ?_)
        · skip
          refine vp_seq ?_
          refine vp_region ?_
          refine vpOps_pure (x := .v (.bool (false))) (pAs rfl rfl rfl) rfl rfl rfl rfl ?_
          refine vpOps_nil ?_
          refine vp_ret ?_
          exact ⟨[.v (.bool (false))], [4], (.cons (.tmp rfl rfl) .nil), rfl, ⟨(show (.v (.bool (false)) : PV) = .v (.bool (decide (a = b))) from (by first | exact dec_f (fun e => by subst e; simp_all) | exact dec_t (by cases a; cases b; simp_all))), rfl⟩⟩
        · skip
          refine vp_skip ?_
          refine vp_seq ?_
          refine vp_region ?_
          refine vpOps_pure (x := .v (.bool (true))) (pAs rfl rfl rfl) rfl rfl rfl rfl ?_
          refine vpOps_nil ?_
          refine vp_ret ?_
          exact ⟨[.v (.bool (true))], [4], (.cons (.tmp rfl rfl) .nil), rfl, ⟨(show (.v (.bool (true)) : PV) = .v (.bool (decide (a = b))) from (by first | exact dec_f (fun e => by subst e; simp_all) | exact dec_t (by cases a; cases b; simp_all))), rfl⟩⟩

/-- laws.eqKnotS -/
theorem c_eqKnotS {G : World → Prop} (xs : List Knot) (ys : List Knot) (hn : xs.length ≤ 9223372036854775807) (hk : ∀ k ∈ xs, k.len) : CallsV Tryd.prog G 8 [.sh 4 (xs.map knotc), .sh 4 (ys.map knotc)] (fun r outs => r = .v (.bool (decide (xs = ys))) ∧ outs = [.junk, .junk]) := by
  refine callsV_enter [] Tryd.func8 rfl rfl rfl ?_
  refine vp_seq ?_
  refine vp_region ?_
  refine vpOps_pure (x := .v (.bool (false))) (pAs rfl rfl rfl) rfl rfl rfl rfl ?_
  refine vpOps_nil ?_
  refine vp_seq ?_
  refine vp_seq ?_
  refine vp_region ?_
  refine vpOps_pure (x := .sh 4 (xs.map knotc)) (pMv rfl rfl rfl) rfl rfl rfl rfl ?_
  refine vpOps_pure (x := .v (.int .i64 ((xs.length : Nat) : Int))) (pLen rfl rfl (List.length_map _)) rfl rfl rfl rfl ?_
  refine vpOps_pure (x := .sh 4 (ys.map knotc)) (pMv rfl rfl rfl) rfl rfl rfl rfl ?_
  refine vpOps_pure (x := .v (.int .i64 ((ys.length : Nat) : Int))) (pLen rfl rfl (List.length_map _)) rfl rfl rfl rfl ?_
  refine vpOps_pure (x := .v (.bool (!decide (((xs.length : Nat) : Int) = ((ys.length : Nat) : Int))))) (pure_bin rfl rfl rfl rfl) rfl rfl rfl rfl ?_
  refine vpOps_nil ?_
  refine vIfN rfl (fun h1 => ?_) (fun h1 => ?_)
  · skip
    refine vp_seq ?_
    refine vp_region ?_
    refine vpOps_pure (x := .v (.bool (false))) (pAs rfl rfl rfl) rfl rfl rfl rfl ?_
    refine vpOps_nil ?_
    refine vp_ret ?_
    exact ⟨[.v (.bool (false))], [4], (.cons (.tmp rfl rfl) .nil), rfl, ⟨(show (.v (.bool (false)) : PV) = .v (.bool (decide (xs = ys))) from (by first | exact dec_f (fun e => by subst e; omega) | exact dec_f (by rw [he, drop_eq_step hl (by omega)]; exact fun h => absurd h.1 (by assumption)) | exact dec_t (he.2 (drop_eq_end hl (by omega))))), rfl⟩⟩
  · skip
    refine vp_skip ?_
    refine vp_seq ?_
    refine vp_seq ?_
    refine vp_region ?_
    refine vpOps_pure (x := .v (.int .i64 0)) (pAs rfl rfl rfl) rfl rfl rfl rfl ?_
    refine vpOps_nil ?_
    refine vp_block ?_
    refine vLoop (α := Nat) (fun i => xs.length - i) (fun i => (i ≤ xs.length) ∧ (xs = ys ↔ xs.drop i = ys.drop i) ∧ True) (fun i => [(0, .sh 4 (xs.map knotc)), (1, .sh 4 (ys.map knotc)), (5, .v (.int .i64 ((i : Nat) : Int)))]) (fun _ => rfl) (fun _ => rfl) 0 ⟨(by omega), (by exact Iff.rfl), trivial⟩ ⟨rfl, rfl, rfl, trivial⟩ ?_
    rintro i ⟨hi, he, -⟩
    have hl : xs.length = ys.length := by omega
    refine vp_seq ?_
    refine vp_seq ?_
    refine vp_region ?_
    refine vpOps_pure (x := .v (.int .i64 ((i : Nat) : Int))) (pMv rfl rfl rfl) rfl rfl rfl rfl ?_
    refine vpOps_pure (x := .sh 4 (xs.map knotc)) (pMv rfl rfl rfl) rfl rfl rfl rfl ?_
    refine vpOps_pure (x := .v (.int .i64 ((xs.length : Nat) : Int))) (pLen rfl rfl (List.length_map _)) rfl rfl rfl rfl ?_
    refine vpOps_pure (x := .v (.bool (decide (((i : Nat) : Int) < ((xs.length : Nat) : Int))))) (pure_bin rfl rfl rfl rfl) rfl rfl rfl rfl ?_
    refine vpOps_nil ?_
    refine vIf rfl (fun h2 => ?_) (fun h2 => ?_)
    · skip
      refine vp_skip ?_
      refine vp_seq ?_
      refine vp_block ?_
      refine vp_seq ?_
      refine vRegD 10 ((17, .sh 4 (xs.map knotc)) :: (18, .v (.int .i64 ((i : Nat) : Int))) :: (19, .rbox [.v (.int .i16 ((xs.getD i default).field)), .sh 1 (((xs.getD i default).values).map i64c), .sh 1 (((xs.getD i default).next).map i16c), .sh 1 (((xs.getD i default).cards).map i64c)]) :: (20, .agg [.v (.int .i16 ((xs.getD i default).field)), .sh 1 (((xs.getD i default).values).map i64c), .sh 1 (((xs.getD i default).next).map i16c), .sh 1 (((xs.getD i default).cards).map i64c)]) :: (21, .sh 4 (ys.map knotc)) :: (22, .v (.int .i64 ((i : Nat) : Int))) :: (23, .rbox [.v (.int .i16 ((ys.getD i default).field)), .sh 1 (((ys.getD i default).values).map i64c), .sh 1 (((ys.getD i default).next).map i16c), .sh 1 (((ys.getD i default).cards).map i64c)]) :: (24, .agg [.v (.int .i16 ((ys.getD i default).field)), .sh 1 (((ys.getD i default).values).map i64c), .sh 1 (((ys.getD i default).next).map i16c), .sh 1 (((ys.getD i default).cards).map i64c)]) :: (25, .v (.bool (decide ((xs.getD i default) = (ys.getD i default))))) :: (26, .v (.bool (!decide ((xs.getD i default) = (ys.getD i default))))) :: []) (0 :: 0 :: 3 :: 7 :: 0 :: 0 :: 48 :: 112 :: 255 :: 511 :: []) (by kernel_rfl) rfl (by kernel_rfl) (by kernel_rfl) (by kernel_rfl) (by kernel_rfl) (by kernel_rfl) ⟨
          dPure rfl (pMv rfl rfl rfl),
          dPure rfl (pMv rfl rfl rfl),
          dPure rfl (pIx (m := i) rfl rfl rfl (by first | rfl | omega) (by omega) rfl),
          dPure rfl (pure_load_rbox_agg rfl rfl rfl rfl rfl),
          dPure rfl (pMv rfl rfl rfl),
          dPure rfl (pMv rfl rfl rfl),
          dPure rfl (pIx (m := i) rfl rfl rfl (by first | rfl | omega) (by omega) rfl),
          dPure rfl (pure_load_rbox_agg rfl rfl rfl rfl rfl),
          dPure rfl (pure_call (gs := [⟨.tmp 20, .agg [.v (.int .i16 ((xs.getD i default).field)), .sh 1 (((xs.getD i default).values).map i64c), .sh 1 (((xs.getD i default).next).map i16c), .sh 1 (((xs.getD i default).cards).map i64c)], none, none⟩, ⟨.tmp 24, .agg [.v (.int .i16 ((ys.getD i default).field)), .sh 1 (((ys.getD i default).values).map i64c), .sh 1 (((ys.getD i default).next).map i16c), .sh 1 (((ys.getD i default).cards).map i64c)], none, none⟩]) (c_eqKnot (xs.getD i default) (ys.getD i default) (by first | exact Knot.len_getD hk _)) rfl rfl trivial (by kernel_rfl) rfl rfl (gives_cons (gC rfl rfl) (gives_cons (gC rfl rfl) gives_nil)) rfl (fun _ _ h => h.1) trivial),
          dPure rfl (pure_not rfl rfl),
          trivial⟩ ?_
      refine vpOps_nil ?_
      refine vIfN rfl (fun h3 => ?_) (fun h3 => ?_)
      · skip
        refine vp_seq ?_
        refine vp_region ?_
        refine vpOps_pure (x := .v (.bool (false))) (pAs rfl rfl rfl) rfl rfl rfl rfl ?_
        refine vpOps_nil ?_
        refine vp_ret ?_
        exact ⟨[.v (.bool (false))], [4], (.cons (.tmp rfl rfl) .nil), rfl, ⟨(show (.v (.bool (false)) : PV) = .v (.bool (decide (xs = ys))) from (by first | exact dec_f (fun e => by subst e; omega) | exact dec_f (by rw [he, drop_eq_step hl (by omega)]; exact fun h => absurd h.1 (by assumption)) | exact dec_t (he.2 (drop_eq_end hl (by omega))))), rfl⟩⟩
      · skip
        refine vp_skip ?_
        refine vp_region ?_
        refine vpOps_pure (x := .v (.int .i64 ((i : Nat) : Int))) (pMv rfl rfl rfl) rfl rfl rfl rfl ?_
        refine vpOps_pure (x := .v (.int .i64 (((i : Nat) : Int) + 1))) (pure_add rfl rfl rfl (in64 (by omega) (by omega))) rfl rfl rfl rfl ?_
        refine vpOps_pure (x := .v (.int .i64 (((i : Nat) : Int) + 1))) (pAs rfl rfl rfl) rfl rfl rfl rfl ?_
        refine vpOps_nil ?_
        exact ⟨i + 1, (by first | omega | (dsimp only; omega)), ⟨(by omega), (by rw [he, drop_eq_step hl (by omega)]; exact ⟨fun h => h.2, fun h => ⟨by assumption, h⟩⟩), trivial⟩, ⟨rfl, rfl, rfl, trivial⟩⟩
    · skip
      refine vp_exit ?_
      refine vp_seq ?_
      refine vp_region ?_
      refine vpOps_pure (x := .v (.bool (true))) (pAs rfl rfl rfl) rfl rfl rfl rfl ?_
      refine vpOps_nil ?_
      refine vp_ret ?_
      exact ⟨[.v (.bool (true))], [4], (.cons (.tmp rfl rfl) .nil), rfl, ⟨(show (.v (.bool (true)) : PV) = .v (.bool (decide (xs = ys))) from (by first | exact dec_f (fun e => by subst e; omega) | exact dec_f (by rw [he, drop_eq_step hl (by omega)]; exact fun h => absurd h.1 (by assumption)) | exact dec_t (he.2 (drop_eq_end hl (by omega))))), rfl⟩⟩

end Go.Vr
/- Walks of the functions that the law reaches: what each gives, by value. -/
namespace Go.Vr
open Go Go.Proofs
set_option linter.unusedVariables false
set_option linter.unusedSimpArgs false

/-- spec.l06Leaf -/
theorem c_l06Leaf {G : World → Prop} (k : Knot) (hk : k.ok) : CallsV Tryd.prog G 19 [.rbox [.v (.int .i16 k.field), .sh 1 (k.values.map i64c), .sh 1 (k.next.map i16c), .sh 1 (k.cards.map i64c)]] (fun r outs => r = .v (.bool (decide (leafOk k))) ∧ outs = [.junk]) := by
  refine callsV_enter [] Tryd.func19 rfl rfl rfl ?_
  refine vp_seq ?_
  refine vp_region ?_
  refine vpOps_pure (x := .v (.bool (false))) (pAs rfl rfl rfl) rfl rfl rfl rfl ?_
  refine vpOps_nil ?_
  refine vp_seq ?_
  refine vp_region ?_
  refine vpOps_pure (x := .v (.int .i64 (-1))) (pAs rfl rfl rfl) rfl rfl rfl rfl ?_
  refine vpOps_nil ?_
  refine vp_seq ?_
  refine vp_seq ?_
  refine vp_region ?_
  refine vpOps_pure (x := .v (.int .i64 0)) (pAs rfl rfl rfl) rfl rfl rfl rfl ?_
  refine vpOps_nil ?_
  refine vp_block ?_
  refine vLoop (α := Nat × Int) (fun (i, l) => k.cards.length - i) (fun (i, l) => (i ≤ k.cards.length) ∧ (-1 ≤ l ∧ l ≤ 59) ∧ (upOk 59 (-1) k.cards ↔ upOk 59 l (k.cards.drop i)) ∧ True) (fun (i, l) => [(0, .rbox [.v (.int .i16 k.field), .sh 1 (k.values.map i64c), .sh 1 (k.next.map i16c), .sh 1 (k.cards.map i64c)]), (3, .v (.int .i64 l)), (4, .v (.int .i64 ((i : Nat) : Int)))]) (fun ⟨_, _⟩ => rfl) (fun ⟨_, _⟩ => rfl) (0, -1) ⟨(by omega), (by omega), (by exact Iff.rfl), trivial⟩ ⟨rfl, rfl, rfl, trivial⟩ ?_
  rintro ⟨i, l⟩ ⟨hi, hl, he, -⟩
  have hx := k.ok_len hk
  refine vp_seq ?_
  refine vp_seq ?_
  refine vp_region ?_
  refine vpOps_pure (x := .v (.int .i64 ((i : Nat) : Int))) (pMv rfl rfl rfl) rfl rfl rfl rfl ?_
  refine vpOps_pure (x := .rbox [.v (.int .i16 k.field), .sh 1 (k.values.map i64c), .sh 1 (k.next.map i16c), .sh 1 (k.cards.map i64c)]) (pMv rfl rfl rfl) rfl rfl rfl rfl ?_
  refine vpOps_pure (x := .rbox [.v (.int .i16 k.field), .sh 1 (k.values.map i64c), .sh 1 (k.next.map i16c), .sh 1 (k.cards.map i64c)]) (pure_nil_flat rfl rfl) rfl rfl rfl rfl ?_
  refine vpOps_pure (x := .rbox [.sh 1 (k.cards.map i64c)]) (pure_field_rbox rfl rfl rfl rfl) rfl rfl rfl rfl ?_
  refine vpOps_pure (x := .sh 1 (k.cards.map i64c)) (pure_load_rbox rfl rfl rfl) rfl rfl rfl rfl ?_
  refine vpOps_pure (x := .v (.int .i64 ((k.cards.length : Nat) : Int))) (pLen rfl rfl (List.length_map _)) rfl rfl rfl rfl ?_
  refine vpOps_pure (x := .v (.bool (decide (((i : Nat) : Int) < ((k.cards.length : Nat) : Int))))) (pure_bin rfl rfl rfl rfl) rfl rfl rfl rfl ?_
  refine vpOps_nil ?_
  refine vIf rfl (fun h1 => ?_) (fun h1 => ?_)
  · skip
    refine vp_skip ?_
    refine vp_seq ?_
    refine vp_block ?_
    refine vp_seq ?_
    refine vp_seq ?_
    refine vp_region ?_
    refine vpOps_pure (x := .rbox [.v (.int .i16 k.field), .sh 1 (k.values.map i64c), .sh 1 (k.next.map i16c), .sh 1 (k.cards.map i64c)]) (pMv rfl rfl rfl) rfl rfl rfl rfl ?_
    refine vpOps_pure (x := .rbox [.v (.int .i16 k.field), .sh 1 (k.values.map i64c), .sh 1 (k.next.map i16c), .sh 1 (k.cards.map i64c)]) (pure_nil_flat rfl rfl) rfl rfl rfl rfl ?_
    refine vpOps_pure (x := .rbox [.sh 1 (k.cards.map i64c)]) (pure_field_rbox rfl rfl rfl rfl) rfl rfl rfl rfl ?_
    refine vpOps_pure (x := .sh 1 (k.cards.map i64c)) (pure_load_rbox rfl rfl rfl) rfl rfl rfl rfl ?_
    refine vpOps_pure (x := .v (.int .i64 ((i : Nat) : Int))) (pMv rfl rfl rfl) rfl rfl rfl rfl ?_
    refine vpOps_pure (x := .rbox [.v (.int .i64 (k.cards.getD i default))]) (pIx (m := i) rfl rfl rfl (by first | rfl | omega) (by omega) rfl) rfl rfl rfl rfl ?_
    refine vpOps_pure (x := .v (.int .i64 (k.cards.getD i default))) (pure_load_rbox rfl rfl rfl) rfl rfl rfl rfl ?_
    refine vpOps_pure (x := .v (.int .i64 l)) (pMv rfl rfl rfl) rfl rfl rfl rfl ?_
    refine vpOps_pure (x := .v (.int .i64 (l + 1))) (pure_add rfl rfl rfl (in64 (by omega) (by omega))) rfl rfl rfl rfl ?_
    refine vpOps_call (gs := [⟨.tmp 20, .v (.int .i64 (k.cards.getD i default)), none, none⟩, ⟨.tmp 22, .v (.int .i64 (l + 1)), none, none⟩, ⟨.const (.int .i64 59), .v (.int .i64 59), none, none⟩]) (c_l00In (k.cards.getD i default) (l + 1) 59 ) rfl rfl rfl rfl rfl trivial (by kernel_rfl) rfl rfl (gives_cons (gC rfl rfl) (gives_cons (gC rfl rfl) (gives_cons (gC rfl rfl) gives_nil))) rfl (fun _ _ _ => .inl rfl) ?_
    rintro _ _ ⟨rfl, rfl⟩
    refine vpOps_pure (x := .v (.bool (!decide ((l + 1) ≤ (k.cards.getD i default) ∧ (k.cards.getD i default) ≤ 59)))) (pure_not rfl rfl) rfl rfl rfl rfl ?_
    refine vpOps_nil ?_
    refine vIfN rfl (fun h2 => ?_) (fun h2 => ?_)
    · skip
      refine vp_seq ?_
      refine vp_region ?_
      refine vpOps_pure (x := .v (.bool (false))) (pAs rfl rfl rfl) rfl rfl rfl rfl ?_
      refine vpOps_nil ?_
      refine vp_ret ?_
      exact ⟨[.v (.bool (false))], [2], (.cons (.tmp rfl rfl) .nil), rfl, ⟨(show (.v (.bool (false)) : PV) = .v (.bool (decide (leafOk k))) from (by first | exact dec_f (by rw [leafOk, he, upOk_step (by omega)]; exact fun h => absurd h.1.1 (by assumption)) | exact dec_f (fun h => by have h4 := h.2.1; rw [← len_nil] at h4; contradiction) | (refine dec_i ?_; rw [leafOk, he, upOk_end (by omega)]; simp_all))), rfl⟩⟩
    · skip
      refine vp_skip ?_
      refine vp_region ?_
      refine vpOps_pure (x := .rbox [.v (.int .i16 k.field), .sh 1 (k.values.map i64c), .sh 1 (k.next.map i16c), .sh 1 (k.cards.map i64c)]) (pMv rfl rfl rfl) rfl rfl rfl rfl ?_
      refine vpOps_pure (x := .rbox [.v (.int .i16 k.field), .sh 1 (k.values.map i64c), .sh 1 (k.next.map i16c), .sh 1 (k.cards.map i64c)]) (pure_nil_flat rfl rfl) rfl rfl rfl rfl ?_
      refine vpOps_pure (x := .rbox [.sh 1 (k.cards.map i64c)]) (pure_field_rbox rfl rfl rfl rfl) rfl rfl rfl rfl ?_
      refine vpOps_pure (x := .sh 1 (k.cards.map i64c)) (pure_load_rbox rfl rfl rfl) rfl rfl rfl rfl ?_
      refine vpOps_pure (x := .v (.int .i64 ((i : Nat) : Int))) (pMv rfl rfl rfl) rfl rfl rfl rfl ?_
      refine vpOps_pure (x := .rbox [.v (.int .i64 (k.cards.getD i default))]) (pIx (m := i) rfl rfl rfl (by first | rfl | omega) (by omega) rfl) rfl rfl rfl rfl ?_
      refine vpOps_pure (x := .v (.int .i64 (k.cards.getD i default))) (pure_load_rbox rfl rfl rfl) rfl rfl rfl rfl ?_
      refine vpOps_pure (x := .v (.int .i64 (k.cards.getD i default))) (pAs rfl rfl rfl) rfl rfl rfl rfl ?_
      refine vpOps_nil ?_
      refine vp_region ?_
      refine vpOps_pure (x := .v (.int .i64 ((i : Nat) : Int))) (pMv rfl rfl rfl) rfl rfl rfl rfl ?_
      refine vpOps_pure (x := .v (.int .i64 (((i : Nat) : Int) + 1))) (pure_add rfl rfl rfl (in64 (by omega) (by omega))) rfl rfl rfl rfl ?_
      refine vpOps_pure (x := .v (.int .i64 (((i : Nat) : Int) + 1))) (pAs rfl rfl rfl) rfl rfl rfl rfl ?_
      refine vpOps_nil ?_
      exact ⟨(i + 1, k.cards.getD i default), (by first | omega | (dsimp only; omega)), ⟨(by omega), (by omega), (by rw [he, upOk_step (by omega)]; exact ⟨fun h => h.2, fun h => ⟨by assumption, h⟩⟩), trivial⟩, ⟨rfl, rfl, rfl, trivial⟩⟩
  · skip
    refine vp_exit ?_
    refine vp_seq ?_
    refine vp_region ?_
    refine vpOps_pure (x := .rbox [.v (.int .i16 k.field), .sh 1 (k.values.map i64c), .sh 1 (k.next.map i16c), .sh 1 (k.cards.map i64c)]) (pMv rfl rfl rfl) rfl rfl rfl rfl ?_
    refine vpOps_pure (x := .rbox [.v (.int .i16 k.field), .sh 1 (k.values.map i64c), .sh 1 (k.next.map i16c), .sh 1 (k.cards.map i64c)]) (pure_nil_flat rfl rfl) rfl rfl rfl rfl ?_
    refine vpOps_pure (x := .rbox [.sh 1 (k.values.map i64c), .sh 1 (k.next.map i16c), .sh 1 (k.cards.map i64c)]) (pure_field_rbox rfl rfl rfl rfl) rfl rfl rfl rfl ?_
    refine vpOps_pure (x := .sh 1 (k.values.map i64c)) (pure_load_rbox rfl rfl rfl) rfl rfl rfl rfl ?_
    refine vpOps_pure (x := .v (.int .i64 ((k.values.length : Nat) : Int))) (pLen rfl rfl (List.length_map _)) rfl rfl rfl rfl ?_
    refine vpOps_pure (x := .v (.bool (decide (((k.values.length : Nat) : Int) = 0)))) (pure_bin rfl rfl rfl rfl) rfl rfl rfl rfl ?_
    refine vpOps_pure (x := .v (.bool (decide (((k.values.length : Nat) : Int) = 0)))) (pMv rfl rfl rfl) rfl rfl rfl rfl ?_
    by_cases h3 : ((k.values.length : Nat) : Int) = 0
    · skip
      refine vRun rfl rfl rfl (decide_eq_true h3) rfl rfl rfl ?_
      refine vpOps_pure (x := .rbox [.v (.int .i16 k.field), .sh 1 (k.values.map i64c), .sh 1 (k.next.map i16c), .sh 1 (k.cards.map i64c)]) (pMv rfl rfl rfl) rfl rfl rfl rfl ?_
      refine vRun rfl rfl rfl (decide_eq_true h3) rfl rfl rfl ?_
      refine vpOps_pure (x := .rbox [.v (.int .i16 k.field), .sh 1 (k.values.map i64c), .sh 1 (k.next.map i16c), .sh 1 (k.cards.map i64c)]) (pure_nil_flat rfl rfl) rfl rfl rfl rfl ?_
      refine vRun rfl rfl rfl (decide_eq_true h3) rfl rfl rfl ?_
      refine vpOps_pure (x := .rbox [.sh 1 (k.next.map i16c), .sh 1 (k.cards.map i64c)]) (pure_field_rbox rfl rfl rfl rfl) rfl rfl rfl rfl ?_
      refine vRun rfl rfl rfl (decide_eq_true h3) rfl rfl rfl ?_
      refine vpOps_pure (x := .sh 1 (k.next.map i16c)) (pure_load_rbox rfl rfl rfl) rfl rfl rfl rfl ?_
      refine vRun rfl rfl rfl (decide_eq_true h3) rfl rfl rfl ?_
      refine vpOps_pure (x := .v (.int .i64 ((k.next.length : Nat) : Int))) (pLen rfl rfl (List.length_map _)) rfl rfl rfl rfl ?_
      refine vRun rfl rfl rfl (decide_eq_true h3) rfl rfl rfl ?_
      refine vpOps_pure (x := .v (.bool (decide (((k.next.length : Nat) : Int) = 0)))) (pure_bin rfl rfl rfl rfl) rfl rfl rfl rfl ?_
      refine vpOps_pure (x := .v (.bool (decide (((k.next.length : Nat) : Int) = 0)))) (pPt rfl rfl (decide_eq_true h3) rfl rfl) rfl rfl rfl rfl ?_
      refine vpOps_pure (x := .v (.bool (decide (((k.next.length : Nat) : Int) = 0)))) (pAs rfl rfl rfl) rfl rfl rfl rfl ?_
      refine vpOps_nil ?_
      refine vp_ret ?_
      exact ⟨[.v (.bool (decide (((k.next.length : Nat) : Int) = 0)))], [2], (.cons (.tmp rfl rfl) .nil), rfl, ⟨(show (.v (.bool (decide (((k.next.length : Nat) : Int) = 0))) : PV) = .v (.bool (decide (leafOk k))) from (by first | exact dec_f (by rw [leafOk, he, upOk_step (by omega)]; exact fun h => absurd h.1.1 (by assumption)) | exact dec_f (fun h => by have h4 := h.2.1; rw [← len_nil] at h4; contradiction) | (refine dec_i ?_; rw [leafOk, he, upOk_end (by omega)]; simp_all))), rfl⟩⟩
    · skip
      refine vPass rfl rfl rfl (decide_eq_false h3) rfl rfl rfl ?_
      refine vPass rfl rfl rfl (decide_eq_false h3) rfl rfl rfl ?_
      refine vPass rfl rfl rfl (decide_eq_false h3) rfl rfl rfl ?_
      refine vPass rfl rfl rfl (decide_eq_false h3) rfl rfl rfl ?_
      refine vPass rfl rfl rfl (decide_eq_false h3) rfl rfl rfl ?_
      refine vPass rfl rfl rfl (decide_eq_false h3) rfl rfl rfl ?_
      refine vpOps_pure (x := .v (.bool (false))) (pPf rfl rfl (decide_eq_false h3) rfl rfl) rfl rfl rfl rfl ?_
      refine vpOps_pure (x := .v (.bool (false))) (pAs rfl rfl rfl) rfl rfl rfl rfl ?_
      refine vpOps_nil ?_
      refine vp_ret ?_
      exact ⟨[.v (.bool (false))], [2], (.cons (.tmp rfl rfl) .nil), rfl, ⟨(show (.v (.bool (false)) : PV) = .v (.bool (decide (leafOk k))) from (by first | exact dec_f (by rw [leafOk, he, upOk_step (by omega)]; exact fun h => absurd h.1.1 (by assumption)) | exact dec_f (fun h => by have h4 := h.2.1; rw [← len_nil] at h4; contradiction) | (refine dec_i ?_; rw [leafOk, he, upOk_end (by omega)]; simp_all))), rfl⟩⟩

/-- spec.l06Asker -/
theorem c_l06Asker {G : World → Prop} (k : Knot) (at_ : Int) (seen : List Int) (M : Int) (hk : k.ok) (hs : seen.length ≤ 1048576) (ha : 0 ≤ at_) (hM : 0 ≤ M ∧ M ≤ 1099511627776) (hb : ∀ t, 0 ≤ seen.getD t default ∧ seen.getD t default ≤ M) : CallsV Tryd.prog G 20 [.rbox [.v (.int .i16 k.field), .sh 1 (k.values.map i64c), .sh 1 (k.next.map i16c), .sh 1 (k.cards.map i64c)], .v (.int .i64 at_), .own 1 (seen.map i64c)] (fun r outs => ∃ (b : Bool) (out : List Int), r = .v (.bool (b)) ∧ outs = [.junk, .junk, .own 1 (out.map i64c)] ∧ (out.length = seen.length) ∧ (b = decide (askOk k at_ seen.length)) ∧ (b = true → out = bump seen k.next) ∧ (b = true → ∀ t, 0 ≤ out.getD t default ∧ out.getD t default ≤ M + k.next.length)) := by
  refine callsV_enter [2] Tryd.func20 rfl rfl rfl ?_
  refine vp_seq ?_
  refine vp_region ?_
  refine vpOps_pure (x := .v (.bool (false))) (pAs rfl rfl rfl) rfl rfl rfl rfl ?_
  refine vpOps_nil ?_
  refine vp_seq ?_
  refine vp_seq ?_
  by_cases h1 : k.field < 0
  · skip
    refine vRegD 41 ((8, .rbox [.v (.int .i16 k.field), .sh 1 (k.values.map i64c), .sh 1 (k.next.map i16c), .sh 1 (k.cards.map i64c)]) :: (9, .rbox [.v (.int .i16 k.field), .sh 1 (k.values.map i64c), .sh 1 (k.next.map i16c), .sh 1 (k.cards.map i64c)]) :: (10, .rbox [.v (.int .i16 k.field), .sh 1 (k.values.map i64c), .sh 1 (k.next.map i16c), .sh 1 (k.cards.map i64c)]) :: (11, .v (.int .i16 k.field)) :: (12, .v (.bool (decide (k.field < 0)))) :: (13, .v (.bool (decide (k.field < 0)))) :: (14, .v undef) :: (15, .v undef) :: (16, .v undef) :: (17, .v undef) :: (18, .v undef) :: (19, .v (.bool (true))) :: (20, .v (.bool (true))) :: (21, .v undef) :: (22, .v undef) :: (23, .v undef) :: (24, .v undef) :: (25, .v undef) :: (26, .v undef) :: (27, .v (.bool (true))) :: (28, .v (.bool (true))) :: (29, .v undef) :: (30, .v undef) :: (31, .v undef) :: (32, .v undef) :: (33, .v undef) :: (34, .v undef) :: (35, .v (.bool (true))) :: (36, .v (.bool (true))) :: (37, .v undef) :: (38, .v undef) :: (39, .v undef) :: (40, .v undef) :: (41, .v undef) :: (42, .v undef) :: (43, .v undef) :: (44, .v undef) :: (45, .v undef) :: (46, .v undef) :: (47, .v undef) :: (48, .v (.bool (true))) :: []) (0 :: 1 :: 3 :: 7 :: 15 :: 31 :: 63 :: 127 :: 255 :: 511 :: 1023 :: 2047 :: 4095 :: 8191 :: 16383 :: 32767 :: 65535 :: 131071 :: 262143 :: 524287 :: 1048575 :: 2097151 :: 4194303 :: 8388607 :: 16777215 :: 33554431 :: 67108863 :: 134217727 :: 268435455 :: 536870911 :: 1073741823 :: 2147483647 :: 4294967295 :: 8589934591 :: 536870911 :: 17716740095 :: 52076478463 :: 120795955199 :: 258234908671 :: 549755813887 :: 1099511627775 :: []) (by kernel_rfl) rfl (by kernel_rfl) (by kernel_rfl) (by kernel_rfl) (by kernel_rfl) (by kernel_rfl) ⟨
        dPure rfl (pMv rfl rfl rfl),
        dPure rfl (pure_nil_flat rfl rfl),
        dPure rfl (pure_field_rbox rfl rfl rfl rfl),
        dPure rfl (pure_load_rbox rfl rfl rfl),
        dPure rfl (pure_bin rfl rfl rfl rfl),
        dPure rfl (pMv rfl rfl rfl),
        dPass rfl rfl (decide_eq_true h1) (by kernel_rfl) rfl,
        dPass rfl rfl (decide_eq_true h1) (by kernel_rfl) rfl,
        dPass rfl rfl (decide_eq_true h1) (by kernel_rfl) rfl,
        dPass rfl rfl (decide_eq_true h1) (by kernel_rfl) rfl,
        dPass rfl rfl (decide_eq_true h1) (by kernel_rfl) rfl,
        dPure rfl (pPt rfl rfl (decide_eq_true h1) rfl rfl),
        dPure rfl (pMv rfl rfl rfl),
        dPass rfl rfl rfl (by kernel_rfl) rfl,
        dPass rfl rfl rfl (by kernel_rfl) rfl,
        dPass rfl rfl rfl (by kernel_rfl) rfl,
        dPass rfl rfl rfl (by kernel_rfl) rfl,
        dPass rfl rfl rfl (by kernel_rfl) rfl,
        dPass rfl rfl rfl (by kernel_rfl) rfl,
        dPure rfl (pPt rfl rfl rfl rfl rfl),
        dPure rfl (pMv rfl rfl rfl),
        dPass rfl rfl rfl (by kernel_rfl) rfl,
        dPass rfl rfl rfl (by kernel_rfl) rfl,
        dPass rfl rfl rfl (by kernel_rfl) rfl,
        dPass rfl rfl rfl (by kernel_rfl) rfl,
        dPass rfl rfl rfl (by kernel_rfl) rfl,
        dPass rfl rfl rfl (by kernel_rfl) rfl,
        dPure rfl (pPt rfl rfl rfl rfl rfl),
        dPure rfl (pMv rfl rfl rfl),
        dPass rfl rfl rfl (by kernel_rfl) rfl,
        dPass rfl rfl rfl (by kernel_rfl) rfl,
        dPass rfl rfl rfl (by kernel_rfl) rfl,
        dPass rfl rfl rfl (by kernel_rfl) rfl,
        dPass rfl rfl rfl (by kernel_rfl) rfl,
        dPass rfl rfl rfl (by kernel_rfl) rfl,
        dPass rfl rfl rfl (by kernel_rfl) rfl,
        dPass rfl rfl rfl (by kernel_rfl) rfl,
        dPass rfl rfl rfl (by kernel_rfl) rfl,
        dPass rfl rfl rfl (by kernel_rfl) rfl,
        dPass rfl rfl rfl (by kernel_rfl) rfl,
        dPure rfl (pPt rfl rfl rfl rfl rfl),
        trivial⟩ ?_
    refine vpOps_nil ?_
    refine vIfT rfl rfl ?_
    refine vp_seq ?_
    refine vp_region ?_
    refine vpOps_pure (x := .v (.bool (false))) (pAs rfl rfl rfl) rfl rfl rfl rfl ?_
    refine vpOps_nil ?_
    refine vp_ret ?_
    exact ⟨[.v (.bool (false))], [6], (.cons (.tmp rfl rfl) .nil), rfl, ⟨false, seen, (show (.v (.bool (false)) : PV) = .v (.bool (false)) from rfl), rfl, (by first | rfl | assumption | (rw [List.length_set]; assumption)), (by first | (exact (decide_eq_true ⟨hd, fun j hj => hA j (by omega)⟩).symm) | (exact (decide_eq_false (fun h => by obtain ⟨⟨⟨q1, q2⟩, q3, q4, q5⟩, q6⟩ := h; have q8 : k.cards.length = 0 := (by rw [q3, List.length_nil]); have q9 : k.values.length ≠ 0 := (fun e => q4 (List.length_eq_zero_iff.1 e)); omega)).symm) | (exact (decide_eq_false (fun h => by obtain ⟨⟨⟨q1, q2⟩, q3, q4, q5⟩, q6⟩ := h; have q8 : k.cards.length = 0 := (by rw [q3, List.length_nil]); have q9 : k.values.length ≠ 0 := (fun e => q4 (List.length_eq_zero_iff.1 e)); have q7 := q6 i (by omega); obtain ⟨r1, r2, r3, r4⟩ := q7; first | omega | (have r5 := r2 (by omega); omega))).symm)), (by first | (intro h; exact absurd h (by decide)) | (intro _; rw [hu, List.take_of_length_le (by have := hd.2.2.2; omega)])), (by first | (intro h; exact absurd h (by decide)) | (intro _ t; have h9 := hw t; have h8 := hd.2.2.2; omega))⟩⟩
  · skip
    by_cases h2 : 12 ≤ k.field
    · skip
      refine vRegD 41 ((8, .rbox [.v (.int .i16 k.field), .sh 1 (k.values.map i64c), .sh 1 (k.next.map i16c), .sh 1 (k.cards.map i64c)]) :: (9, .rbox [.v (.int .i16 k.field), .sh 1 (k.values.map i64c), .sh 1 (k.next.map i16c), .sh 1 (k.cards.map i64c)]) :: (10, .rbox [.v (.int .i16 k.field), .sh 1 (k.values.map i64c), .sh 1 (k.next.map i16c), .sh 1 (k.cards.map i64c)]) :: (11, .v (.int .i16 k.field)) :: (12, .v (.bool (decide (k.field < 0)))) :: (13, .v (.bool (decide (k.field < 0)))) :: (14, .rbox [.v (.int .i16 k.field), .sh 1 (k.values.map i64c), .sh 1 (k.next.map i16c), .sh 1 (k.cards.map i64c)]) :: (15, .rbox [.v (.int .i16 k.field), .sh 1 (k.values.map i64c), .sh 1 (k.next.map i16c), .sh 1 (k.cards.map i64c)]) :: (16, .rbox [.v (.int .i16 k.field), .sh 1 (k.values.map i64c), .sh 1 (k.next.map i16c), .sh 1 (k.cards.map i64c)]) :: (17, .v (.int .i16 k.field)) :: (18, .v (.bool (decide (12 ≤ k.field)))) :: (19, .v (.bool (decide (12 ≤ k.field)))) :: (20, .v (.bool (decide (12 ≤ k.field)))) :: (21, .v undef) :: (22, .v undef) :: (23, .v undef) :: (24, .v undef) :: (25, .v undef) :: (26, .v undef) :: (27, .v (.bool (true))) :: (28, .v (.bool (true))) :: (29, .v undef) :: (30, .v undef) :: (31, .v undef) :: (32, .v undef) :: (33, .v undef) :: (34, .v undef) :: (35, .v (.bool (true))) :: (36, .v (.bool (true))) :: (37, .v undef) :: (38, .v undef) :: (39, .v undef) :: (40, .v undef) :: (41, .v undef) :: (42, .v undef) :: (43, .v undef) :: (44, .v undef) :: (45, .v undef) :: (46, .v undef) :: (47, .v undef) :: (48, .v (.bool (true))) :: []) (0 :: 1 :: 3 :: 7 :: 15 :: 31 :: 63 :: 127 :: 255 :: 511 :: 1023 :: 2047 :: 4095 :: 8191 :: 16383 :: 32767 :: 65535 :: 131071 :: 262143 :: 524287 :: 1048575 :: 2097151 :: 4194303 :: 8388607 :: 16777215 :: 33554431 :: 67108863 :: 134217727 :: 268435455 :: 536870911 :: 1073741823 :: 2147483647 :: 4294967295 :: 8589934591 :: 536870911 :: 17716740095 :: 52076478463 :: 120795955199 :: 258234908671 :: 549755813887 :: 1099511627775 :: []) (by kernel_rfl) rfl (by kernel_rfl) (by kernel_rfl) (by kernel_rfl) (by kernel_rfl) (by kernel_rfl) ⟨
          dPure rfl (pMv rfl rfl rfl),
          dPure rfl (pure_nil_flat rfl rfl),
          dPure rfl (pure_field_rbox rfl rfl rfl rfl),
          dPure rfl (pure_load_rbox rfl rfl rfl),
          dPure rfl (pure_bin rfl rfl rfl rfl),
          dPure rfl (pMv rfl rfl rfl),
          dRun rfl rfl (decide_eq_false h1) (by kernel_rfl) (pMv rfl rfl rfl),
          dRun rfl rfl (decide_eq_false h1) (by kernel_rfl) (pure_nil_flat rfl rfl),
          dRun rfl rfl (decide_eq_false h1) (by kernel_rfl) (pure_field_rbox rfl rfl rfl rfl),
          dRun rfl rfl (decide_eq_false h1) (by kernel_rfl) (pure_load_rbox rfl rfl rfl),
          dRun rfl rfl (decide_eq_false h1) (by kernel_rfl) (pure_bin rfl rfl rfl rfl),
          dPure rfl (pPf rfl rfl (decide_eq_false h1) rfl rfl),
          dPure rfl (pMv rfl rfl rfl),
          dPass rfl rfl (decide_eq_true h2) (by kernel_rfl) rfl,
          dPass rfl rfl (decide_eq_true h2) (by kernel_rfl) rfl,
          dPass rfl rfl (decide_eq_true h2) (by kernel_rfl) rfl,
          dPass rfl rfl (decide_eq_true h2) (by kernel_rfl) rfl,
          dPass rfl rfl (decide_eq_true h2) (by kernel_rfl) rfl,
          dPass rfl rfl (decide_eq_true h2) (by kernel_rfl) rfl,
          dPure rfl (pPt rfl rfl (decide_eq_true h2) rfl rfl),
          dPure rfl (pMv rfl rfl rfl),
          dPass rfl rfl rfl (by kernel_rfl) rfl,
          dPass rfl rfl rfl (by kernel_rfl) rfl,
          dPass rfl rfl rfl (by kernel_rfl) rfl,
          dPass rfl rfl rfl (by kernel_rfl) rfl,
          dPass rfl rfl rfl (by kernel_rfl) rfl,
          dPass rfl rfl rfl (by kernel_rfl) rfl,
          dPure rfl (pPt rfl rfl rfl rfl rfl),
          dPure rfl (pMv rfl rfl rfl),
          dPass rfl rfl rfl (by kernel_rfl) rfl,
          dPass rfl rfl rfl (by kernel_rfl) rfl,
          dPass rfl rfl rfl (by kernel_rfl) rfl,
          dPass rfl rfl rfl (by kernel_rfl) rfl,
          dPass rfl rfl rfl (by kernel_rfl) rfl,
          dPass rfl rfl rfl (by kernel_rfl) rfl,
          dPass rfl rfl rfl (by kernel_rfl) rfl,
          dPass rfl rfl rfl (by kernel_rfl) rfl,
          dPass rfl rfl rfl (by kernel_rfl) rfl,
          dPass rfl rfl rfl (by kernel_rfl) rfl,
          dPass rfl rfl rfl (by kernel_rfl) rfl,
          dPure rfl (pPt rfl rfl rfl rfl rfl),
          trivial⟩ ?_
      refine vpOps_nil ?_
      refine vIfT rfl rfl ?_
      refine vp_seq ?_
      refine vp_region ?_
      refine vpOps_pure (x := .v (.bool (false))) (pAs rfl rfl rfl) rfl rfl rfl rfl ?_
      refine vpOps_nil ?_
      refine vp_ret ?_
      exact ⟨[.v (.bool (false))], [6], (.cons (.tmp rfl rfl) .nil), rfl, ⟨false, seen, (show (.v (.bool (false)) : PV) = .v (.bool (false)) from rfl), rfl, (by first | rfl | assumption | (rw [List.length_set]; assumption)), (by first | (exact (decide_eq_true ⟨hd, fun j hj => hA j (by omega)⟩).symm) | (exact (decide_eq_false (fun h => by obtain ⟨⟨⟨q1, q2⟩, q3, q4, q5⟩, q6⟩ := h; have q8 : k.cards.length = 0 := (by rw [q3, List.length_nil]); have q9 : k.values.length ≠ 0 := (fun e => q4 (List.length_eq_zero_iff.1 e)); omega)).symm) | (exact (decide_eq_false (fun h => by obtain ⟨⟨⟨q1, q2⟩, q3, q4, q5⟩, q6⟩ := h; have q8 : k.cards.length = 0 := (by rw [q3, List.length_nil]); have q9 : k.values.length ≠ 0 := (fun e => q4 (List.length_eq_zero_iff.1 e)); have q7 := q6 i (by omega); obtain ⟨r1, r2, r3, r4⟩ := q7; first | omega | (have r5 := r2 (by omega); omega))).symm)), (by first | (intro h; exact absurd h (by decide)) | (intro _; rw [hu, List.take_of_length_le (by have := hd.2.2.2; omega)])), (by first | (intro h; exact absurd h (by decide)) | (intro _ t; have h9 := hw t; have h8 := hd.2.2.2; omega))⟩⟩
    · skip
      by_cases h3 : 0 < ((k.cards.length : Nat) : Int)
      · skip
        refine vRegD 41 ((8, .rbox [.v (.int .i16 k.field), .sh 1 (k.values.map i64c), .sh 1 (k.next.map i16c), .sh 1 (k.cards.map i64c)]) :: (9, .rbox [.v (.int .i16 k.field), .sh 1 (k.values.map i64c), .sh 1 (k.next.map i16c), .sh 1 (k.cards.map i64c)]) :: (10, .rbox [.v (.int .i16 k.field), .sh 1 (k.values.map i64c), .sh 1 (k.next.map i16c), .sh 1 (k.cards.map i64c)]) :: (11, .v (.int .i16 k.field)) :: (12, .v (.bool (decide (k.field < 0)))) :: (13, .v (.bool (decide (k.field < 0)))) :: (14, .rbox [.v (.int .i16 k.field), .sh 1 (k.values.map i64c), .sh 1 (k.next.map i16c), .sh 1 (k.cards.map i64c)]) :: (15, .rbox [.v (.int .i16 k.field), .sh 1 (k.values.map i64c), .sh 1 (k.next.map i16c), .sh 1 (k.cards.map i64c)]) :: (16, .rbox [.v (.int .i16 k.field), .sh 1 (k.values.map i64c), .sh 1 (k.next.map i16c), .sh 1 (k.cards.map i64c)]) :: (17, .v (.int .i16 k.field)) :: (18, .v (.bool (decide (12 ≤ k.field)))) :: (19, .v (.bool (decide (12 ≤ k.field)))) :: (20, .v (.bool (decide (12 ≤ k.field)))) :: (21, .rbox [.v (.int .i16 k.field), .sh 1 (k.values.map i64c), .sh 1 (k.next.map i16c), .sh 1 (k.cards.map i64c)]) :: (22, .rbox [.v (.int .i16 k.field), .sh 1 (k.values.map i64c), .sh 1 (k.next.map i16c), .sh 1 (k.cards.map i64c)]) :: (23, .rbox [.sh 1 (k.cards.map i64c)]) :: (24, .sh 1 (k.cards.map i64c)) :: (25, .v (.int .i64 ((k.cards.length : Nat) : Int))) :: (26, .v (.bool (decide (0 < ((k.cards.length : Nat) : Int))))) :: (27, .v (.bool (decide (0 < ((k.cards.length : Nat) : Int))))) :: (28, .v (.bool (decide (0 < ((k.cards.length : Nat) : Int))))) :: (29, .v undef) :: (30, .v undef) :: (31, .v undef) :: (32, .v undef) :: (33, .v undef) :: (34, .v undef) :: (35, .v (.bool (true))) :: (36, .v (.bool (true))) :: (37, .v undef) :: (38, .v undef) :: (39, .v undef) :: (40, .v undef) :: (41, .v undef) :: (42, .v undef) :: (43, .v undef) :: (44, .v undef) :: (45, .v undef) :: (46, .v undef) :: (47, .v undef) :: (48, .v (.bool (true))) :: []) (0 :: 1 :: 3 :: 7 :: 15 :: 31 :: 63 :: 127 :: 255 :: 511 :: 1023 :: 2047 :: 4095 :: 8191 :: 16383 :: 32767 :: 65535 :: 131071 :: 262143 :: 524287 :: 1048575 :: 2097151 :: 4194303 :: 8388607 :: 16777215 :: 33554431 :: 67108863 :: 134217727 :: 268435455 :: 536870911 :: 1073741823 :: 2147483647 :: 4294967295 :: 8589934591 :: 536870911 :: 17716740095 :: 52076478463 :: 120795955199 :: 258234908671 :: 549755813887 :: 1099511627775 :: []) (by kernel_rfl) rfl (by kernel_rfl) (by kernel_rfl) (by kernel_rfl) (by kernel_rfl) (by kernel_rfl) ⟨
            dPure rfl (pMv rfl rfl rfl),
            dPure rfl (pure_nil_flat rfl rfl),
            dPure rfl (pure_field_rbox rfl rfl rfl rfl),
            dPure rfl (pure_load_rbox rfl rfl rfl),
            dPure rfl (pure_bin rfl rfl rfl rfl),
            dPure rfl (pMv rfl rfl rfl),
            dRun rfl rfl (decide_eq_false h1) (by kernel_rfl) (pMv rfl rfl rfl),
            dRun rfl rfl (decide_eq_false h1) (by kernel_rfl) (pure_nil_flat rfl rfl),
            dRun rfl rfl (decide_eq_false h1) (by kernel_rfl) (pure_field_rbox rfl rfl rfl rfl),
            dRun rfl rfl (decide_eq_false h1) (by kernel_rfl) (pure_load_rbox rfl rfl rfl),
            dRun rfl rfl (decide_eq_false h1) (by kernel_rfl) (pure_bin rfl rfl rfl rfl),
            dPure rfl (pPf rfl rfl (decide_eq_false h1) rfl rfl),
            dPure rfl (pMv rfl rfl rfl),
            dRun rfl rfl (decide_eq_false h2) (by kernel_rfl) (pMv rfl rfl rfl),
            dRun rfl rfl (decide_eq_false h2) (by kernel_rfl) (pure_nil_flat rfl rfl),
            dRun rfl rfl (decide_eq_false h2) (by kernel_rfl) (pure_field_rbox rfl rfl rfl rfl),
            dRun rfl rfl (decide_eq_false h2) (by kernel_rfl) (pure_load_rbox rfl rfl rfl),
            dRun rfl rfl (decide_eq_false h2) (by kernel_rfl) (pLen rfl rfl (List.length_map _)),
            dRun rfl rfl (decide_eq_false h2) (by kernel_rfl) (pure_bin rfl rfl rfl rfl),
            dPure rfl (pPf rfl rfl (decide_eq_false h2) rfl rfl),
            dPure rfl (pMv rfl rfl rfl),
            dPass rfl rfl (decide_eq_true h3) (by kernel_rfl) rfl,
            dPass rfl rfl (decide_eq_true h3) (by kernel_rfl) rfl,
            dPass rfl rfl (decide_eq_true h3) (by kernel_rfl) rfl,
            dPass rfl rfl (decide_eq_true h3) (by kernel_rfl) rfl,
            dPass rfl rfl (decide_eq_true h3) (by kernel_rfl) rfl,
            dPass rfl rfl (decide_eq_true h3) (by kernel_rfl) rfl,
            dPure rfl (pPt rfl rfl (decide_eq_true h3) rfl rfl),
            dPure rfl (pMv rfl rfl rfl),
            dPass rfl rfl rfl (by kernel_rfl) rfl,
            dPass rfl rfl rfl (by kernel_rfl) rfl,
            dPass rfl rfl rfl (by kernel_rfl) rfl,
            dPass rfl rfl rfl (by kernel_rfl) rfl,
            dPass rfl rfl rfl (by kernel_rfl) rfl,
            dPass rfl rfl rfl (by kernel_rfl) rfl,
            dPass rfl rfl rfl (by kernel_rfl) rfl,
            dPass rfl rfl rfl (by kernel_rfl) rfl,
            dPass rfl rfl rfl (by kernel_rfl) rfl,
            dPass rfl rfl rfl (by kernel_rfl) rfl,
            dPass rfl rfl rfl (by kernel_rfl) rfl,
            dPure rfl (pPt rfl rfl rfl rfl rfl),
            trivial⟩ ?_
        refine vpOps_nil ?_
        refine vIfT rfl rfl ?_
        refine vp_seq ?_
        refine vp_region ?_
        refine vpOps_pure (x := .v (.bool (false))) (pAs rfl rfl rfl) rfl rfl rfl rfl ?_
        refine vpOps_nil ?_
        refine vp_ret ?_
        exact ⟨[.v (.bool (false))], [6], (.cons (.tmp rfl rfl) .nil), rfl, ⟨false, seen, (show (.v (.bool (false)) : PV) = .v (.bool (false)) from rfl), rfl, (by first | rfl | assumption | (rw [List.length_set]; assumption)), (by first | (exact (decide_eq_true ⟨hd, fun j hj => hA j (by omega)⟩).symm) | (exact (decide_eq_false (fun h => by obtain ⟨⟨⟨q1, q2⟩, q3, q4, q5⟩, q6⟩ := h; have q8 : k.cards.length = 0 := (by rw [q3, List.length_nil]); have q9 : k.values.length ≠ 0 := (fun e => q4 (List.length_eq_zero_iff.1 e)); omega)).symm) | (exact (decide_eq_false (fun h => by obtain ⟨⟨⟨q1, q2⟩, q3, q4, q5⟩, q6⟩ := h; have q8 : k.cards.length = 0 := (by rw [q3, List.length_nil]); have q9 : k.values.length ≠ 0 := (fun e => q4 (List.length_eq_zero_iff.1 e)); have q7 := q6 i (by omega); obtain ⟨r1, r2, r3, r4⟩ := q7; first | omega | (have r5 := r2 (by omega); omega))).symm)), (by first | (intro h; exact absurd h (by decide)) | (intro _; rw [hu, List.take_of_length_le (by have := hd.2.2.2; omega)])), (by first | (intro h; exact absurd h (by decide)) | (intro _ t; have h9 := hw t; have h8 := hd.2.2.2; omega))⟩⟩
      · skip
        by_cases h4 : ((k.values.length : Nat) : Int) = 0
        · skip
          refine vRegD 41 ((8, .rbox [.v (.int .i16 k.field), .sh 1 (k.values.map i64c), .sh 1 (k.next.map i16c), .sh 1 (k.cards.map i64c)]) :: (9, .rbox [.v (.int .i16 k.field), .sh 1 (k.values.map i64c), .sh 1 (k.next.map i16c), .sh 1 (k.cards.map i64c)]) :: (10, .rbox [.v (.int .i16 k.field), .sh 1 (k.values.map i64c), .sh 1 (k.next.map i16c), .sh 1 (k.cards.map i64c)]) :: (11, .v (.int .i16 k.field)) :: (12, .v (.bool (decide (k.field < 0)))) :: (13, .v (.bool (decide (k.field < 0)))) :: (14, .rbox [.v (.int .i16 k.field), .sh 1 (k.values.map i64c), .sh 1 (k.next.map i16c), .sh 1 (k.cards.map i64c)]) :: (15, .rbox [.v (.int .i16 k.field), .sh 1 (k.values.map i64c), .sh 1 (k.next.map i16c), .sh 1 (k.cards.map i64c)]) :: (16, .rbox [.v (.int .i16 k.field), .sh 1 (k.values.map i64c), .sh 1 (k.next.map i16c), .sh 1 (k.cards.map i64c)]) :: (17, .v (.int .i16 k.field)) :: (18, .v (.bool (decide (12 ≤ k.field)))) :: (19, .v (.bool (decide (12 ≤ k.field)))) :: (20, .v (.bool (decide (12 ≤ k.field)))) :: (21, .rbox [.v (.int .i16 k.field), .sh 1 (k.values.map i64c), .sh 1 (k.next.map i16c), .sh 1 (k.cards.map i64c)]) :: (22, .rbox [.v (.int .i16 k.field), .sh 1 (k.values.map i64c), .sh 1 (k.next.map i16c), .sh 1 (k.cards.map i64c)]) :: (23, .rbox [.sh 1 (k.cards.map i64c)]) :: (24, .sh 1 (k.cards.map i64c)) :: (25, .v (.int .i64 ((k.cards.length : Nat) : Int))) :: (26, .v (.bool (decide (0 < ((k.cards.length : Nat) : Int))))) :: (27, .v (.bool (decide (0 < ((k.cards.length : Nat) : Int))))) :: (28, .v (.bool (decide (0 < ((k.cards.length : Nat) : Int))))) :: (29, .rbox [.v (.int .i16 k.field), .sh 1 (k.values.map i64c), .sh 1 (k.next.map i16c), .sh 1 (k.cards.map i64c)]) :: (30, .rbox [.v (.int .i16 k.field), .sh 1 (k.values.map i64c), .sh 1 (k.next.map i16c), .sh 1 (k.cards.map i64c)]) :: (31, .rbox [.sh 1 (k.values.map i64c), .sh 1 (k.next.map i16c), .sh 1 (k.cards.map i64c)]) :: (32, .sh 1 (k.values.map i64c)) :: (33, .v (.int .i64 ((k.values.length : Nat) : Int))) :: (34, .v (.bool (decide (((k.values.length : Nat) : Int) = 0)))) :: (35, .v (.bool (decide (((k.values.length : Nat) : Int) = 0)))) :: (36, .v (.bool (decide (((k.values.length : Nat) : Int) = 0)))) :: (37, .v undef) :: (38, .v undef) :: (39, .v undef) :: (40, .v undef) :: (41, .v undef) :: (42, .v undef) :: (43, .v undef) :: (44, .v undef) :: (45, .v undef) :: (46, .v undef) :: (47, .v undef) :: (48, .v (.bool (true))) :: []) (0 :: 1 :: 3 :: 7 :: 15 :: 31 :: 63 :: 127 :: 255 :: 511 :: 1023 :: 2047 :: 4095 :: 8191 :: 16383 :: 32767 :: 65535 :: 131071 :: 262143 :: 524287 :: 1048575 :: 2097151 :: 4194303 :: 8388607 :: 16777215 :: 33554431 :: 67108863 :: 134217727 :: 268435455 :: 536870911 :: 1073741823 :: 2147483647 :: 4294967295 :: 8589934591 :: 536870911 :: 17716740095 :: 52076478463 :: 120795955199 :: 258234908671 :: 549755813887 :: 1099511627775 :: []) (by kernel_rfl) rfl (by kernel_rfl) (by kernel_rfl) (by kernel_rfl) (by kernel_rfl) (by kernel_rfl) ⟨
              dPure rfl (pMv rfl rfl rfl),
              dPure rfl (pure_nil_flat rfl rfl),
              dPure rfl (pure_field_rbox rfl rfl rfl rfl),
              dPure rfl (pure_load_rbox rfl rfl rfl),
              dPure rfl (pure_bin rfl rfl rfl rfl),
              dPure rfl (pMv rfl rfl rfl),
              dRun rfl rfl (decide_eq_false h1) (by kernel_rfl) (pMv rfl rfl rfl),
              dRun rfl rfl (decide_eq_false h1) (by kernel_rfl) (pure_nil_flat rfl rfl),
              dRun rfl rfl (decide_eq_false h1) (by kernel_rfl) (pure_field_rbox rfl rfl rfl rfl),
              dRun rfl rfl (decide_eq_false h1) (by kernel_rfl) (pure_load_rbox rfl rfl rfl),
              dRun rfl rfl (decide_eq_false h1) (by kernel_rfl) (pure_bin rfl rfl rfl rfl),
              dPure rfl (pPf rfl rfl (decide_eq_false h1) rfl rfl),
              dPure rfl (pMv rfl rfl rfl),
              dRun rfl rfl (decide_eq_false h2) (by kernel_rfl) (pMv rfl rfl rfl),
              dRun rfl rfl (decide_eq_false h2) (by kernel_rfl) (pure_nil_flat rfl rfl),
              dRun rfl rfl (decide_eq_false h2) (by kernel_rfl) (pure_field_rbox rfl rfl rfl rfl),
              dRun rfl rfl (decide_eq_false h2) (by kernel_rfl) (pure_load_rbox rfl rfl rfl),
              dRun rfl rfl (decide_eq_false h2) (by kernel_rfl) (pLen rfl rfl (List.length_map _)),
              dRun rfl rfl (decide_eq_false h2) (by kernel_rfl) (pure_bin rfl rfl rfl rfl),
              dPure rfl (pPf rfl rfl (decide_eq_false h2) rfl rfl),
              dPure rfl (pMv rfl rfl rfl),
              dRun rfl rfl (decide_eq_false h3) (by kernel_rfl) (pMv rfl rfl rfl),
              dRun rfl rfl (decide_eq_false h3) (by kernel_rfl) (pure_nil_flat rfl rfl),
              dRun rfl rfl (decide_eq_false h3) (by kernel_rfl) (pure_field_rbox rfl rfl rfl rfl),
              dRun rfl rfl (decide_eq_false h3) (by kernel_rfl) (pure_load_rbox rfl rfl rfl),
              dRun rfl rfl (decide_eq_false h3) (by kernel_rfl) (pLen rfl rfl (List.length_map _)),
              dRun rfl rfl (decide_eq_false h3) (by kernel_rfl) (pure_bin rfl rfl rfl rfl),
              dPure rfl (pPf rfl rfl (decide_eq_false h3) rfl rfl),
              dPure rfl (pMv rfl rfl rfl),
              dPass rfl rfl (decide_eq_true h4) (by kernel_rfl) rfl,
              dPass rfl rfl (decide_eq_true h4) (by kernel_rfl) rfl,
              dPass rfl rfl (decide_eq_true h4) (by kernel_rfl) rfl,
              dPass rfl rfl (decide_eq_true h4) (by kernel_rfl) rfl,
              dPass rfl rfl (decide_eq_true h4) (by kernel_rfl) rfl,
              dPass rfl rfl (decide_eq_true h4) (by kernel_rfl) rfl,
              dPass rfl rfl (decide_eq_true h4) (by kernel_rfl) rfl,
              dPass rfl rfl (decide_eq_true h4) (by kernel_rfl) rfl,
              dPass rfl rfl (decide_eq_true h4) (by kernel_rfl) rfl,
              dPass rfl rfl (decide_eq_true h4) (by kernel_rfl) rfl,
              dPass rfl rfl (decide_eq_true h4) (by kernel_rfl) rfl,
              dPure rfl (pPt rfl rfl (decide_eq_true h4) rfl rfl),
              trivial⟩ ?_
          refine vpOps_nil ?_
          refine vIfT rfl rfl ?_
          refine vp_seq ?_
          refine vp_region ?_
          refine vpOps_pure (x := .v (.bool (false))) (pAs rfl rfl rfl) rfl rfl rfl rfl ?_
          refine vpOps_nil ?_
          refine vp_ret ?_
          exact ⟨[.v (.bool (false))], [6], (.cons (.tmp rfl rfl) .nil), rfl, ⟨false, seen, (show (.v (.bool (false)) : PV) = .v (.bool (false)) from rfl), rfl, (by first | rfl | assumption | (rw [List.length_set]; assumption)), (by first | (exact (decide_eq_true ⟨hd, fun j hj => hA j (by omega)⟩).symm) | (exact (decide_eq_false (fun h => by obtain ⟨⟨⟨q1, q2⟩, q3, q4, q5⟩, q6⟩ := h; have q8 : k.cards.length = 0 := (by rw [q3, List.length_nil]); have q9 : k.values.length ≠ 0 := (fun e => q4 (List.length_eq_zero_iff.1 e)); omega)).symm) | (exact (decide_eq_false (fun h => by obtain ⟨⟨⟨q1, q2⟩, q3, q4, q5⟩, q6⟩ := h; have q8 : k.cards.length = 0 := (by rw [q3, List.length_nil]); have q9 : k.values.length ≠ 0 := (fun e => q4 (List.length_eq_zero_iff.1 e)); have q7 := q6 i (by omega); obtain ⟨r1, r2, r3, r4⟩ := q7; first | omega | (have r5 := r2 (by omega); omega))).symm)), (by first | (intro h; exact absurd h (by decide)) | (intro _; rw [hu, List.take_of_length_le (by have := hd.2.2.2; omega)])), (by first | (intro h; exact absurd h (by decide)) | (intro _ t; have h9 := hw t; have h8 := hd.2.2.2; omega))⟩⟩
        · skip
          refine vRegD 41 ((8, .rbox [.v (.int .i16 k.field), .sh 1 (k.values.map i64c), .sh 1 (k.next.map i16c), .sh 1 (k.cards.map i64c)]) :: (9, .rbox [.v (.int .i16 k.field), .sh 1 (k.values.map i64c), .sh 1 (k.next.map i16c), .sh 1 (k.cards.map i64c)]) :: (10, .rbox [.v (.int .i16 k.field), .sh 1 (k.values.map i64c), .sh 1 (k.next.map i16c), .sh 1 (k.cards.map i64c)]) :: (11, .v (.int .i16 k.field)) :: (12, .v (.bool (decide (k.field < 0)))) :: (13, .v (.bool (decide (k.field < 0)))) :: (14, .rbox [.v (.int .i16 k.field), .sh 1 (k.values.map i64c), .sh 1 (k.next.map i16c), .sh 1 (k.cards.map i64c)]) :: (15, .rbox [.v (.int .i16 k.field), .sh 1 (k.values.map i64c), .sh 1 (k.next.map i16c), .sh 1 (k.cards.map i64c)]) :: (16, .rbox [.v (.int .i16 k.field), .sh 1 (k.values.map i64c), .sh 1 (k.next.map i16c), .sh 1 (k.cards.map i64c)]) :: (17, .v (.int .i16 k.field)) :: (18, .v (.bool (decide (12 ≤ k.field)))) :: (19, .v (.bool (decide (12 ≤ k.field)))) :: (20, .v (.bool (decide (12 ≤ k.field)))) :: (21, .rbox [.v (.int .i16 k.field), .sh 1 (k.values.map i64c), .sh 1 (k.next.map i16c), .sh 1 (k.cards.map i64c)]) :: (22, .rbox [.v (.int .i16 k.field), .sh 1 (k.values.map i64c), .sh 1 (k.next.map i16c), .sh 1 (k.cards.map i64c)]) :: (23, .rbox [.sh 1 (k.cards.map i64c)]) :: (24, .sh 1 (k.cards.map i64c)) :: (25, .v (.int .i64 ((k.cards.length : Nat) : Int))) :: (26, .v (.bool (decide (0 < ((k.cards.length : Nat) : Int))))) :: (27, .v (.bool (decide (0 < ((k.cards.length : Nat) : Int))))) :: (28, .v (.bool (decide (0 < ((k.cards.length : Nat) : Int))))) :: (29, .rbox [.v (.int .i16 k.field), .sh 1 (k.values.map i64c), .sh 1 (k.next.map i16c), .sh 1 (k.cards.map i64c)]) :: (30, .rbox [.v (.int .i16 k.field), .sh 1 (k.values.map i64c), .sh 1 (k.next.map i16c), .sh 1 (k.cards.map i64c)]) :: (31, .rbox [.sh 1 (k.values.map i64c), .sh 1 (k.next.map i16c), .sh 1 (k.cards.map i64c)]) :: (32, .sh 1 (k.values.map i64c)) :: (33, .v (.int .i64 ((k.values.length : Nat) : Int))) :: (34, .v (.bool (decide (((k.values.length : Nat) : Int) = 0)))) :: (35, .v (.bool (decide (((k.values.length : Nat) : Int) = 0)))) :: (36, .v (.bool (decide (((k.values.length : Nat) : Int) = 0)))) :: (37, .rbox [.v (.int .i16 k.field), .sh 1 (k.values.map i64c), .sh 1 (k.next.map i16c), .sh 1 (k.cards.map i64c)]) :: (38, .rbox [.v (.int .i16 k.field), .sh 1 (k.values.map i64c), .sh 1 (k.next.map i16c), .sh 1 (k.cards.map i64c)]) :: (39, .rbox [.sh 1 (k.next.map i16c), .sh 1 (k.cards.map i64c)]) :: (40, .sh 1 (k.next.map i16c)) :: (41, .v (.int .i64 ((k.next.length : Nat) : Int))) :: (42, .rbox [.v (.int .i16 k.field), .sh 1 (k.values.map i64c), .sh 1 (k.next.map i16c), .sh 1 (k.cards.map i64c)]) :: (43, .rbox [.v (.int .i16 k.field), .sh 1 (k.values.map i64c), .sh 1 (k.next.map i16c), .sh 1 (k.cards.map i64c)]) :: (44, .rbox [.sh 1 (k.values.map i64c), .sh 1 (k.next.map i16c), .sh 1 (k.cards.map i64c)]) :: (45, .sh 1 (k.values.map i64c)) :: (46, .v (.int .i64 ((k.values.length : Nat) : Int))) :: (47, .v (.bool (!decide (((k.next.length : Nat) : Int) = ((k.values.length : Nat) : Int))))) :: (48, .v (.bool (!decide (((k.next.length : Nat) : Int) = ((k.values.length : Nat) : Int))))) :: []) (0 :: 1 :: 3 :: 7 :: 15 :: 31 :: 63 :: 127 :: 255 :: 511 :: 1023 :: 2047 :: 4095 :: 8191 :: 16383 :: 32767 :: 65535 :: 131071 :: 262143 :: 524287 :: 1048575 :: 2097151 :: 4194303 :: 8388607 :: 16777215 :: 33554431 :: 67108863 :: 134217727 :: 268435455 :: 536870911 :: 1073741823 :: 2147483647 :: 4294967295 :: 8589934591 :: 536870911 :: 17716740095 :: 52076478463 :: 120795955199 :: 258234908671 :: 549755813887 :: 1099511627775 :: []) (by kernel_rfl) rfl (by kernel_rfl) (by kernel_rfl) (by kernel_rfl) (by kernel_rfl) (by kernel_rfl) ⟨
              dPure rfl (pMv rfl rfl rfl),
              dPure rfl (pure_nil_flat rfl rfl),
              dPure rfl (pure_field_rbox rfl rfl rfl rfl),
              dPure rfl (pure_load_rbox rfl rfl rfl),
              dPure rfl (pure_bin rfl rfl rfl rfl),
              dPure rfl (pMv rfl rfl rfl),
              dRun rfl rfl (decide_eq_false h1) (by kernel_rfl) (pMv rfl rfl rfl),
              dRun rfl rfl (decide_eq_false h1) (by kernel_rfl) (pure_nil_flat rfl rfl),
              dRun rfl rfl (decide_eq_false h1) (by kernel_rfl) (pure_field_rbox rfl rfl rfl rfl),
              dRun rfl rfl (decide_eq_false h1) (by kernel_rfl) (pure_load_rbox rfl rfl rfl),
              dRun rfl rfl (decide_eq_false h1) (by kernel_rfl) (pure_bin rfl rfl rfl rfl),
              dPure rfl (pPf rfl rfl (decide_eq_false h1) rfl rfl),
              dPure rfl (pMv rfl rfl rfl),
              dRun rfl rfl (decide_eq_false h2) (by kernel_rfl) (pMv rfl rfl rfl),
              dRun rfl rfl (decide_eq_false h2) (by kernel_rfl) (pure_nil_flat rfl rfl),
              dRun rfl rfl (decide_eq_false h2) (by kernel_rfl) (pure_field_rbox rfl rfl rfl rfl),
              dRun rfl rfl (decide_eq_false h2) (by kernel_rfl) (pure_load_rbox rfl rfl rfl),
              dRun rfl rfl (decide_eq_false h2) (by kernel_rfl) (pLen rfl rfl (List.length_map _)),
              dRun rfl rfl (decide_eq_false h2) (by kernel_rfl) (pure_bin rfl rfl rfl rfl),
              dPure rfl (pPf rfl rfl (decide_eq_false h2) rfl rfl),
              dPure rfl (pMv rfl rfl rfl),
              dRun rfl rfl (decide_eq_false h3) (by kernel_rfl) (pMv rfl rfl rfl),
              dRun rfl rfl (decide_eq_false h3) (by kernel_rfl) (pure_nil_flat rfl rfl),
              dRun rfl rfl (decide_eq_false h3) (by kernel_rfl) (pure_field_rbox rfl rfl rfl rfl),
              dRun rfl rfl (decide_eq_false h3) (by kernel_rfl) (pure_load_rbox rfl rfl rfl),
              dRun rfl rfl (decide_eq_false h3) (by kernel_rfl) (pLen rfl rfl (List.length_map _)),
              dRun rfl rfl (decide_eq_false h3) (by kernel_rfl) (pure_bin rfl rfl rfl rfl),
              dPure rfl (pPf rfl rfl (decide_eq_false h3) rfl rfl),
              dPure rfl (pMv rfl rfl rfl),
              dRun rfl rfl (decide_eq_false h4) (by kernel_rfl) (pMv rfl rfl rfl),
              dRun rfl rfl (decide_eq_false h4) (by kernel_rfl) (pure_nil_flat rfl rfl),
              dRun rfl rfl (decide_eq_false h4) (by kernel_rfl) (pure_field_rbox rfl rfl rfl rfl),
              dRun rfl rfl (decide_eq_false h4) (by kernel_rfl) (pure_load_rbox rfl rfl rfl),
              dRun rfl rfl (decide_eq_false h4) (by kernel_rfl) (pLen rfl rfl (List.length_map _)),
              dRun rfl rfl (decide_eq_false h4) (by kernel_rfl) (pMv rfl rfl rfl),
              dRun rfl rfl (decide_eq_false h4) (by kernel_rfl) (pure_nil_flat rfl rfl),
              dRun rfl rfl (decide_eq_false h4) (by kernel_rfl) (pure_field_rbox rfl rfl rfl rfl),
              dRun rfl rfl (decide_eq_false h4) (by kernel_rfl) (pure_load_rbox rfl rfl rfl),
              dRun rfl rfl (decide_eq_false h4) (by kernel_rfl) (pLen rfl rfl (List.length_map _)),
              dRun rfl rfl (decide_eq_false h4) (by kernel_rfl) (pure_bin rfl rfl rfl rfl),
              dPure rfl (pPf rfl rfl (decide_eq_false h4) rfl rfl),
              trivial⟩ ?_
          refine vpOps_nil ?_
          refine vIfN rfl (fun h5 => ?_) (fun h5 => ?_)
          · skip
            refine vp_seq ?_
            refine vp_region ?_
            refine vpOps_pure (x := .v (.bool (false))) (pAs rfl rfl rfl) rfl rfl rfl rfl ?_
            refine vpOps_nil ?_
            refine vp_ret ?_
            exact ⟨[.v (.bool (false))], [6], (.cons (.tmp rfl rfl) .nil), rfl, ⟨false, seen, (show (.v (.bool (false)) : PV) = .v (.bool (false)) from rfl), rfl, (by first | rfl | assumption | (rw [List.length_set]; assumption)), (by first | (exact (decide_eq_true ⟨hd, fun j hj => hA j (by omega)⟩).symm) | (exact (decide_eq_false (fun h => by obtain ⟨⟨⟨q1, q2⟩, q3, q4, q5⟩, q6⟩ := h; have q8 : k.cards.length = 0 := (by rw [q3, List.length_nil]); have q9 : k.values.length ≠ 0 := (fun e => q4 (List.length_eq_zero_iff.1 e)); omega)).symm) | (exact (decide_eq_false (fun h => by obtain ⟨⟨⟨q1, q2⟩, q3, q4, q5⟩, q6⟩ := h; have q8 : k.cards.length = 0 := (by rw [q3, List.length_nil]); have q9 : k.values.length ≠ 0 := (fun e => q4 (List.length_eq_zero_iff.1 e)); have q7 := q6 i (by omega); obtain ⟨r1, r2, r3, r4⟩ := q7; first | omega | (have r5 := r2 (by omega); omega))).symm)), (by first | (intro h; exact absurd h (by decide)) | (intro _; rw [hu, List.take_of_length_le (by have := hd.2.2.2; omega)])), (by first | (intro h; exact absurd h (by decide)) | (intro _ t; have h9 := hw t; have h8 := hd.2.2.2; omega))⟩⟩
          · skip
            refine vp_skip ?_
            refine vp_seq ?_
            refine vp_seq ?_
            refine vp_region ?_
            refine vpOps_pure (x := .v (.int .i64 0)) (pAs rfl rfl rfl) rfl rfl rfl rfl ?_
            refine vpOps_nil ?_
            refine vp_block ?_
            refine vLoop (α := Nat × List Int) (fun (i, s) => k.values.length - i) (fun (i, s) => (i ≤ k.values.length) ∧ (s.length = seen.length) ∧ (askHead k) ∧ (∀ j, j < i → arcAt k at_ seen.length j) ∧ (s = bump seen (k.next.take i)) ∧ (∀ t, 0 ≤ s.getD t default ∧ s.getD t default ≤ M + i) ∧ True) (fun (i, s) => [(0, .rbox [.v (.int .i16 k.field), .sh 1 (k.values.map i64c), .sh 1 (k.next.map i16c), .sh 1 (k.cards.map i64c)]), (1, .v (.int .i64 at_)), (2, .own 1 (s.map i64c)), (7, .v (.int .i64 ((i : Nat) : Int)))]) (fun ⟨_, _⟩ => rfl) (fun ⟨_, _⟩ => rfl) (0, seen) ⟨(by omega), (by rfl), (by refine ⟨⟨by omega, by omega⟩, ?_, ?_, by omega⟩ <;> simp_all [len_nil]), (by intro j hj; omega), (by rfl), (by intro t; have := hb t; omega), trivial⟩ ⟨rfl, rfl, rfl, rfl, trivial⟩ ?_
            rintro ⟨i, s⟩ ⟨hi, hsl, hd, hA, hu, hw, -⟩
            have hx := k.ok_len hk
            have hnl := hd.2.2.2
            have hni := getD_of hk.ns (by decide) i
            refine vp_seq ?_
            refine vp_seq ?_
            refine vp_region ?_
            refine vpOps_pure (x := .v (.int .i64 ((i : Nat) : Int))) (pMv rfl rfl rfl) rfl rfl rfl rfl ?_
            refine vpOps_pure (x := .rbox [.v (.int .i16 k.field), .sh 1 (k.values.map i64c), .sh 1 (k.next.map i16c), .sh 1 (k.cards.map i64c)]) (pMv rfl rfl rfl) rfl rfl rfl rfl ?_
            refine vpOps_pure (x := .rbox [.v (.int .i16 k.field), .sh 1 (k.values.map i64c), .sh 1 (k.next.map i16c), .sh 1 (k.cards.map i64c)]) (pure_nil_flat rfl rfl) rfl rfl rfl rfl ?_
            refine vpOps_pure (x := .rbox [.sh 1 (k.values.map i64c), .sh 1 (k.next.map i16c), .sh 1 (k.cards.map i64c)]) (pure_field_rbox rfl rfl rfl rfl) rfl rfl rfl rfl ?_
            refine vpOps_pure (x := .sh 1 (k.values.map i64c)) (pure_load_rbox rfl rfl rfl) rfl rfl rfl rfl ?_
            refine vpOps_pure (x := .v (.int .i64 ((k.values.length : Nat) : Int))) (pLen rfl rfl (List.length_map _)) rfl rfl rfl rfl ?_
            refine vpOps_pure (x := .v (.bool (decide (((i : Nat) : Int) < ((k.values.length : Nat) : Int))))) (pure_bin rfl rfl rfl rfl) rfl rfl rfl rfl ?_
            refine vpOps_nil ?_
            refine vIf rfl (fun h6 => ?_) (fun h6 => ?_)
            · skip
              refine vp_skip ?_
              refine vp_seq ?_
              refine vp_block ?_
              refine vp_seq ?_
              refine vp_seq ?_
              by_cases h7 : (k.values.getD i default) < (-2)
              · skip
                refine vRegD 55 ((58, .rbox [.v (.int .i16 k.field), .sh 1 (k.values.map i64c), .sh 1 (k.next.map i16c), .sh 1 (k.cards.map i64c)]) :: (59, .rbox [.v (.int .i16 k.field), .sh 1 (k.values.map i64c), .sh 1 (k.next.map i16c), .sh 1 (k.cards.map i64c)]) :: (60, .rbox [.sh 1 (k.values.map i64c), .sh 1 (k.next.map i16c), .sh 1 (k.cards.map i64c)]) :: (61, .sh 1 (k.values.map i64c)) :: (62, .v (.int .i64 ((i : Nat) : Int))) :: (63, .rbox [.v (.int .i64 (k.values.getD i default))]) :: (64, .v (.int .i64 (k.values.getD i default))) :: (65, .v (.bool (decide ((k.values.getD i default) < (-2))))) :: (66, .v (.bool (decide ((k.values.getD i default) < (-2))))) :: (67, .v undef) :: (68, .v undef) :: (69, .v undef) :: (70, .v undef) :: (71, .v undef) :: (72, .v undef) :: (73, .v undef) :: (74, .v undef) :: (75, .v undef) :: (76, .v undef) :: (77, .v undef) :: (78, .v undef) :: (79, .v undef) :: (80, .v undef) :: (81, .v undef) :: (82, .v undef) :: (83, .v undef) :: (84, .v undef) :: (85, .v undef) :: (86, .v undef) :: (87, .v (.bool (true))) :: (88, .v (.bool (true))) :: (89, .v undef) :: (90, .v undef) :: (91, .v undef) :: (92, .v undef) :: (93, .v undef) :: (94, .v undef) :: (95, .v undef) :: (96, .v undef) :: (97, .v undef) :: (98, .v undef) :: (99, .v (.bool (true))) :: (100, .v (.bool (true))) :: (101, .v undef) :: (102, .v undef) :: (103, .v undef) :: (104, .v undef) :: (105, .v undef) :: (106, .v undef) :: (107, .v undef) :: (108, .v undef) :: (109, .v undef) :: (110, .v undef) :: (111, .v undef) :: (112, .v (.bool (true))) :: []) (0 :: 1 :: 3 :: 7 :: 0 :: 31 :: 63 :: 127 :: 255 :: 511 :: 1023 :: 2047 :: 4095 :: 8191 :: 16383 :: 32767 :: 4095 :: 131071 :: 262143 :: 4095 :: 528383 :: 1576959 :: 3674111 :: 4095 :: 8392703 :: 33034239 :: 66588671 :: 134217727 :: 268435455 :: 536870911 :: 1073741823 :: 2147483647 :: 4294967295 :: 8589934591 :: 17179869183 :: 2147483647 :: 68719476735 :: 137438953471 :: 274877906943 :: 2147483647 :: 1099511627775 :: 2199023255551 :: 4398046511103 :: 8796093022207 :: 17592186044415 :: 35184372088831 :: 70368744177663 :: 8796093022207 :: 281474976710655 :: 562949953421311 :: 1125899906842623 :: 8796093022207 :: 2260595906707455 :: 9007199254740991 :: 18014398509481983 :: []) (by kernel_rfl) rfl (by kernel_rfl) (by kernel_rfl) (by kernel_rfl) (by kernel_rfl) (by kernel_rfl) ⟨
                    dPure rfl (pMv rfl rfl rfl),
                    dPure rfl (pure_nil_flat rfl rfl),
                    dPure rfl (pure_field_rbox rfl rfl rfl rfl),
                    dPure rfl (pure_load_rbox rfl rfl rfl),
                    dPure rfl (pMv rfl rfl rfl),
                    dPure rfl (pIx (m := i) rfl rfl rfl (by first | rfl | omega) (by omega) rfl),
                    dPure rfl (pure_load_rbox rfl rfl rfl),
                    dPure rfl (pure_bin rfl rfl rfl rfl),
                    dPure rfl (pMv rfl rfl rfl),
                    dPass rfl rfl (decide_eq_true h7) (by kernel_rfl) rfl,
                    dPass rfl rfl (decide_eq_true h7) (by kernel_rfl) rfl,
                    dPass rfl rfl (decide_eq_true h7) (by kernel_rfl) rfl,
                    dSkip rfl rfl (by kernel_rfl) rfl,
                    dSkip rfl rfl (by kernel_rfl) rfl,
                    dSkip rfl rfl (by kernel_rfl) rfl,
                    dSkip rfl rfl (by kernel_rfl) rfl,
                    dSkip rfl rfl (by kernel_rfl) rfl,
                    dSkip rfl rfl (by kernel_rfl) rfl,
                    dSkip rfl rfl (by kernel_rfl) rfl,
                    dSkip rfl rfl (by kernel_rfl) rfl,
                    dSkip rfl rfl (by kernel_rfl) rfl,
                    dSkip rfl rfl (by kernel_rfl) rfl,
                    dSkip rfl rfl (by kernel_rfl) rfl,
                    dSkip rfl rfl (by kernel_rfl) rfl,
                    dSkip rfl rfl (by kernel_rfl) rfl,
                    dSkip rfl rfl (by kernel_rfl) rfl,
                    dSkip rfl rfl (by kernel_rfl) rfl,
                    dSkip rfl rfl (by kernel_rfl) rfl,
                    dPass rfl rfl (decide_eq_true h7) (by kernel_rfl) rfl,
                    dPure rfl (pPt rfl rfl (decide_eq_true h7) rfl rfl),
                    dPure rfl (pMv rfl rfl rfl),
                    dPass rfl rfl rfl (by kernel_rfl) rfl,
                    dPass rfl rfl rfl (by kernel_rfl) rfl,
                    dPass rfl rfl rfl (by kernel_rfl) rfl,
                    dPass rfl rfl rfl (by kernel_rfl) rfl,
                    dPass rfl rfl rfl (by kernel_rfl) rfl,
                    dPass rfl rfl rfl (by kernel_rfl) rfl,
                    dPass rfl rfl rfl (by kernel_rfl) rfl,
                    dPass rfl rfl rfl (by kernel_rfl) rfl,
                    dPass rfl rfl rfl (by kernel_rfl) rfl,
                    dPass rfl rfl rfl (by kernel_rfl) rfl,
                    dPure rfl (pPt rfl rfl rfl rfl rfl),
                    dPure rfl (pMv rfl rfl rfl),
                    dPass rfl rfl rfl (by kernel_rfl) rfl,
                    dPass rfl rfl rfl (by kernel_rfl) rfl,
                    dPass rfl rfl rfl (by kernel_rfl) rfl,
                    dPass rfl rfl rfl (by kernel_rfl) rfl,
                    dPass rfl rfl rfl (by kernel_rfl) rfl,
                    dPass rfl rfl rfl (by kernel_rfl) rfl,
                    dPass rfl rfl rfl (by kernel_rfl) rfl,
                    dPass rfl rfl rfl (by kernel_rfl) rfl,
                    dPass rfl rfl rfl (by kernel_rfl) rfl,
                    dPass rfl rfl rfl (by kernel_rfl) rfl,
                    dPass rfl rfl rfl (by kernel_rfl) rfl,
                    dPure rfl (pPt rfl rfl rfl rfl rfl),
                    trivial⟩ ?_
                refine vpOps_nil ?_
                refine vIfT rfl rfl ?_
                refine vp_seq ?_
                refine vp_region ?_
                refine vpOps_pure (x := .v (.bool (false))) (pAs rfl rfl rfl) rfl rfl rfl rfl ?_
                refine vpOps_nil ?_
                refine vp_ret ?_
                exact ⟨[.v (.bool (false))], [6], (.cons (.tmp rfl rfl) .nil), rfl, ⟨false, s, (show (.v (.bool (false)) : PV) = .v (.bool (false)) from rfl), rfl, (by first | rfl | assumption | (rw [List.length_set]; assumption)), (by first | (exact (decide_eq_true ⟨hd, fun j hj => hA j (by omega)⟩).symm) | (exact (decide_eq_false (fun h => by obtain ⟨⟨⟨q1, q2⟩, q3, q4, q5⟩, q6⟩ := h; have q8 : k.cards.length = 0 := (by rw [q3, List.length_nil]); have q9 : k.values.length ≠ 0 := (fun e => q4 (List.length_eq_zero_iff.1 e)); omega)).symm) | (exact (decide_eq_false (fun h => by obtain ⟨⟨⟨q1, q2⟩, q3, q4, q5⟩, q6⟩ := h; have q8 : k.cards.length = 0 := (by rw [q3, List.length_nil]); have q9 : k.values.length ≠ 0 := (fun e => q4 (List.length_eq_zero_iff.1 e)); have q7 := q6 i (by omega); obtain ⟨r1, r2, r3, r4⟩ := q7; first | omega | (have r5 := r2 (by omega); omega))).symm)), (by first | (intro h; exact absurd h (by decide)) | (intro _; rw [hu, List.take_of_length_le (by have := hd.2.2.2; omega)])), (by first | (intro h; exact absurd h (by decide)) | (intro _ t; have h9 := hw t; have h8 := hd.2.2.2; omega))⟩⟩
              · skip
                by_cases h8 : 0 < ((i : Nat) : Int)
                · skip
                  by_cases h9 : (k.values.getD i default) ≤ (k.values.getD (i - 1) default)
                  · skip
                    refine vRegD 55 ((58, .rbox [.v (.int .i16 k.field), .sh 1 (k.values.map i64c), .sh 1 (k.next.map i16c), .sh 1 (k.cards.map i64c)]) :: (59, .rbox [.v (.int .i16 k.field), .sh 1 (k.values.map i64c), .sh 1 (k.next.map i16c), .sh 1 (k.cards.map i64c)]) :: (60, .rbox [.sh 1 (k.values.map i64c), .sh 1 (k.next.map i16c), .sh 1 (k.cards.map i64c)]) :: (61, .sh 1 (k.values.map i64c)) :: (62, .v (.int .i64 ((i : Nat) : Int))) :: (63, .rbox [.v (.int .i64 (k.values.getD i default))]) :: (64, .v (.int .i64 (k.values.getD i default))) :: (65, .v (.bool (decide ((k.values.getD i default) < (-2))))) :: (66, .v (.bool (decide ((k.values.getD i default) < (-2))))) :: (67, .v (.int .i64 ((i : Nat) : Int))) :: (68, .v (.bool (decide (0 < ((i : Nat) : Int))))) :: (69, .v (.bool (decide (0 < ((i : Nat) : Int))))) :: (70, .rbox [.v (.int .i16 k.field), .sh 1 (k.values.map i64c), .sh 1 (k.next.map i16c), .sh 1 (k.cards.map i64c)]) :: (71, .rbox [.v (.int .i16 k.field), .sh 1 (k.values.map i64c), .sh 1 (k.next.map i16c), .sh 1 (k.cards.map i64c)]) :: (72, .rbox [.sh 1 (k.values.map i64c), .sh 1 (k.next.map i16c), .sh 1 (k.cards.map i64c)]) :: (73, .sh 1 (k.values.map i64c)) :: (74, .v (.int .i64 ((i : Nat) : Int))) :: (75, .rbox [.v (.int .i64 (k.values.getD i default))]) :: (76, .v (.int .i64 (k.values.getD i default))) :: (77, .rbox [.v (.int .i16 k.field), .sh 1 (k.values.map i64c), .sh 1 (k.next.map i16c), .sh 1 (k.cards.map i64c)]) :: (78, .rbox [.v (.int .i16 k.field), .sh 1 (k.values.map i64c), .sh 1 (k.next.map i16c), .sh 1 (k.cards.map i64c)]) :: (79, .rbox [.sh 1 (k.values.map i64c), .sh 1 (k.next.map i16c), .sh 1 (k.cards.map i64c)]) :: (80, .sh 1 (k.values.map i64c)) :: (81, .v (.int .i64 ((i : Nat) : Int))) :: (82, .v (.int .i64 (((i : Nat) : Int) - 1))) :: (83, .rbox [.v (.int .i64 (k.values.getD (i - 1) default))]) :: (84, .v (.int .i64 (k.values.getD (i - 1) default))) :: (85, .v (.bool (decide ((k.values.getD i default) ≤ (k.values.getD (i - 1) default))))) :: (86, .v (.bool (decide ((k.values.getD i default) ≤ (k.values.getD (i - 1) default))))) :: (87, .v (.bool (decide ((k.values.getD i default) ≤ (k.values.getD (i - 1) default))))) :: (88, .v (.bool (decide ((k.values.getD i default) ≤ (k.values.getD (i - 1) default))))) :: (89, .v undef) :: (90, .v undef) :: (91, .v undef) :: (92, .v undef) :: (93, .v undef) :: (94, .v undef) :: (95, .v undef) :: (96, .v undef) :: (97, .v undef) :: (98, .v undef) :: (99, .v (.bool (true))) :: (100, .v (.bool (true))) :: (101, .v undef) :: (102, .v undef) :: (103, .v undef) :: (104, .v undef) :: (105, .v undef) :: (106, .v undef) :: (107, .v undef) :: (108, .v undef) :: (109, .v undef) :: (110, .v undef) :: (111, .v undef) :: (112, .v (.bool (true))) :: []) (0 :: 1 :: 3 :: 7 :: 0 :: 31 :: 63 :: 127 :: 255 :: 511 :: 1023 :: 2047 :: 4095 :: 8191 :: 16383 :: 32767 :: 4095 :: 131071 :: 262143 :: 4095 :: 528383 :: 1576959 :: 3674111 :: 4095 :: 8392703 :: 33034239 :: 66588671 :: 134217727 :: 268435455 :: 536870911 :: 1073741823 :: 2147483647 :: 4294967295 :: 8589934591 :: 17179869183 :: 2147483647 :: 68719476735 :: 137438953471 :: 274877906943 :: 2147483647 :: 1099511627775 :: 2199023255551 :: 4398046511103 :: 8796093022207 :: 17592186044415 :: 35184372088831 :: 70368744177663 :: 8796093022207 :: 281474976710655 :: 562949953421311 :: 1125899906842623 :: 8796093022207 :: 2260595906707455 :: 9007199254740991 :: 18014398509481983 :: []) (by kernel_rfl) rfl (by kernel_rfl) (by kernel_rfl) (by kernel_rfl) (by kernel_rfl) (by kernel_rfl) ⟨
                        dPure rfl (pMv rfl rfl rfl),
                        dPure rfl (pure_nil_flat rfl rfl),
                        dPure rfl (pure_field_rbox rfl rfl rfl rfl),
                        dPure rfl (pure_load_rbox rfl rfl rfl),
                        dPure rfl (pMv rfl rfl rfl),
                        dPure rfl (pIx (m := i) rfl rfl rfl (by first | rfl | omega) (by omega) rfl),
                        dPure rfl (pure_load_rbox rfl rfl rfl),
                        dPure rfl (pure_bin rfl rfl rfl rfl),
                        dPure rfl (pMv rfl rfl rfl),
                        dRun rfl rfl (decide_eq_false h7) (by kernel_rfl) (pMv rfl rfl rfl),
                        dRun rfl rfl (decide_eq_false h7) (by kernel_rfl) (pure_bin rfl rfl rfl rfl),
                        dRun rfl rfl (decide_eq_false h7) (by kernel_rfl) (pMv rfl rfl rfl),
                        dRun rfl rfl (decide_eq_true h8) (by kernel_rfl) (pMv rfl rfl rfl),
                        dRun rfl rfl (decide_eq_true h8) (by kernel_rfl) (pure_nil_flat rfl rfl),
                        dRun rfl rfl (decide_eq_true h8) (by kernel_rfl) (pure_field_rbox rfl rfl rfl rfl),
                        dRun rfl rfl (decide_eq_true h8) (by kernel_rfl) (pure_load_rbox rfl rfl rfl),
                        dRun rfl rfl (decide_eq_true h8) (by kernel_rfl) (pMv rfl rfl rfl),
                        dRun rfl rfl (decide_eq_true h8) (by kernel_rfl) (pIx (m := i) rfl rfl rfl (by first | rfl | omega) (by omega) rfl),
                        dRun rfl rfl (decide_eq_true h8) (by kernel_rfl) (pure_load_rbox rfl rfl rfl),
                        dRun rfl rfl (decide_eq_true h8) (by kernel_rfl) (pMv rfl rfl rfl),
                        dRun rfl rfl (decide_eq_true h8) (by kernel_rfl) (pure_nil_flat rfl rfl),
                        dRun rfl rfl (decide_eq_true h8) (by kernel_rfl) (pure_field_rbox rfl rfl rfl rfl),
                        dRun rfl rfl (decide_eq_true h8) (by kernel_rfl) (pure_load_rbox rfl rfl rfl),
                        dRun rfl rfl (decide_eq_true h8) (by kernel_rfl) (pMv rfl rfl rfl),
                        dRun rfl rfl (decide_eq_true h8) (by kernel_rfl) (pure_sub rfl rfl rfl (in64 (by omega) (by omega))),
                        dRun rfl rfl (decide_eq_true h8) (by kernel_rfl) (pIx (m := i - 1) rfl rfl rfl (by first | rfl | omega) (by omega) rfl),
                        dRun rfl rfl (decide_eq_true h8) (by kernel_rfl) (pure_load_rbox rfl rfl rfl),
                        dRun rfl rfl (decide_eq_true h8) (by kernel_rfl) (pure_bin rfl rfl rfl rfl),
                        dRun rfl rfl (decide_eq_false h7) (by kernel_rfl) (pPt rfl rfl (decide_eq_true h8) rfl rfl),
                        dPure rfl (pPf rfl rfl (decide_eq_false h7) rfl rfl),
                        dPure rfl (pMv rfl rfl rfl),
                        dPass rfl rfl (decide_eq_true h9) (by kernel_rfl) rfl,
                        dPass rfl rfl (decide_eq_true h9) (by kernel_rfl) rfl,
                        dPass rfl rfl (decide_eq_true h9) (by kernel_rfl) rfl,
                        dPass rfl rfl (decide_eq_true h9) (by kernel_rfl) rfl,
                        dPass rfl rfl (decide_eq_true h9) (by kernel_rfl) rfl,
                        dPass rfl rfl (decide_eq_true h9) (by kernel_rfl) rfl,
                        dPass rfl rfl (decide_eq_true h9) (by kernel_rfl) rfl,
                        dPass rfl rfl (decide_eq_true h9) (by kernel_rfl) rfl,
                        dPass rfl rfl (decide_eq_true h9) (by kernel_rfl) rfl,
                        dPass rfl rfl (decide_eq_true h9) (by kernel_rfl) rfl,
                        dPure rfl (pPt rfl rfl (decide_eq_true h9) rfl rfl),
                        dPure rfl (pMv rfl rfl rfl),
                        dPass rfl rfl rfl (by kernel_rfl) rfl,
                        dPass rfl rfl rfl (by kernel_rfl) rfl,
                        dPass rfl rfl rfl (by kernel_rfl) rfl,
                        dPass rfl rfl rfl (by kernel_rfl) rfl,
                        dPass rfl rfl rfl (by kernel_rfl) rfl,
                        dPass rfl rfl rfl (by kernel_rfl) rfl,
                        dPass rfl rfl rfl (by kernel_rfl) rfl,
                        dPass rfl rfl rfl (by kernel_rfl) rfl,
                        dPass rfl rfl rfl (by kernel_rfl) rfl,
                        dPass rfl rfl rfl (by kernel_rfl) rfl,
                        dPass rfl rfl rfl (by kernel_rfl) rfl,
                        dPure rfl (pPt rfl rfl rfl rfl rfl),
                        trivial⟩ ?_
                    refine vpOps_nil ?_
                    refine vIfT rfl rfl ?_
                    refine vp_seq ?_
                    refine vp_region ?_
                    refine vpOps_pure (x := .v (.bool (false))) (pAs rfl rfl rfl) rfl rfl rfl rfl ?_
                    refine vpOps_nil ?_
                    refine vp_ret ?_
                    exact ⟨[.v (.bool (false))], [6], (.cons (.tmp rfl rfl) .nil), rfl, ⟨false, s, (show (.v (.bool (false)) : PV) = .v (.bool (false)) from rfl), rfl, (by first | rfl | assumption | (rw [List.length_set]; assumption)), (by first | (exact (decide_eq_true ⟨hd, fun j hj => hA j (by omega)⟩).symm) | (exact (decide_eq_false (fun h => by obtain ⟨⟨⟨q1, q2⟩, q3, q4, q5⟩, q6⟩ := h; have q8 : k.cards.length = 0 := (by rw [q3, List.length_nil]); have q9 : k.values.length ≠ 0 := (fun e => q4 (List.length_eq_zero_iff.1 e)); omega)).symm) | (exact (decide_eq_false (fun h => by obtain ⟨⟨⟨q1, q2⟩, q3, q4, q5⟩, q6⟩ := h; have q8 : k.cards.length = 0 := (by rw [q3, List.length_nil]); have q9 : k.values.length ≠ 0 := (fun e => q4 (List.length_eq_zero_iff.1 e)); have q7 := q6 i (by omega); obtain ⟨r1, r2, r3, r4⟩ := q7; first | omega | (have r5 := r2 (by omega); omega))).symm)), (by first | (intro h; exact absurd h (by decide)) | (intro _; rw [hu, List.take_of_length_le (by have := hd.2.2.2; omega)])), (by first | (intro h; exact absurd h (by decide)) | (intro _ t; have h9 := hw t; have h8 := hd.2.2.2; omega))⟩⟩
                  · skip
                    by_cases h10 : (k.next.getD i default) ≤ at_
                    · skip
                      refine vRegD 55 ((58, .rbox [.v (.int .i16 k.field), .sh 1 (k.values.map i64c), .sh 1 (k.next.map i16c), .sh 1 (k.cards.map i64c)]) :: (59, .rbox [.v (.int .i16 k.field), .sh 1 (k.values.map i64c), .sh 1 (k.next.map i16c), .sh 1 (k.cards.map i64c)]) :: (60, .rbox [.sh 1 (k.values.map i64c), .sh 1 (k.next.map i16c), .sh 1 (k.cards.map i64c)]) :: (61, .sh 1 (k.values.map i64c)) :: (62, .v (.int .i64 ((i : Nat) : Int))) :: (63, .rbox [.v (.int .i64 (k.values.getD i default))]) :: (64, .v (.int .i64 (k.values.getD i default))) :: (65, .v (.bool (decide ((k.values.getD i default) < (-2))))) :: (66, .v (.bool (decide ((k.values.getD i default) < (-2))))) :: (67, .v (.int .i64 ((i : Nat) : Int))) :: (68, .v (.bool (decide (0 < ((i : Nat) : Int))))) :: (69, .v (.bool (decide (0 < ((i : Nat) : Int))))) :: (70, .rbox [.v (.int .i16 k.field), .sh 1 (k.values.map i64c), .sh 1 (k.next.map i16c), .sh 1 (k.cards.map i64c)]) :: (71, .rbox [.v (.int .i16 k.field), .sh 1 (k.values.map i64c), .sh 1 (k.next.map i16c), .sh 1 (k.cards.map i64c)]) :: (72, .rbox [.sh 1 (k.values.map i64c), .sh 1 (k.next.map i16c), .sh 1 (k.cards.map i64c)]) :: (73, .sh 1 (k.values.map i64c)) :: (74, .v (.int .i64 ((i : Nat) : Int))) :: (75, .rbox [.v (.int .i64 (k.values.getD i default))]) :: (76, .v (.int .i64 (k.values.getD i default))) :: (77, .rbox [.v (.int .i16 k.field), .sh 1 (k.values.map i64c), .sh 1 (k.next.map i16c), .sh 1 (k.cards.map i64c)]) :: (78, .rbox [.v (.int .i16 k.field), .sh 1 (k.values.map i64c), .sh 1 (k.next.map i16c), .sh 1 (k.cards.map i64c)]) :: (79, .rbox [.sh 1 (k.values.map i64c), .sh 1 (k.next.map i16c), .sh 1 (k.cards.map i64c)]) :: (80, .sh 1 (k.values.map i64c)) :: (81, .v (.int .i64 ((i : Nat) : Int))) :: (82, .v (.int .i64 (((i : Nat) : Int) - 1))) :: (83, .rbox [.v (.int .i64 (k.values.getD (i - 1) default))]) :: (84, .v (.int .i64 (k.values.getD (i - 1) default))) :: (85, .v (.bool (decide ((k.values.getD i default) ≤ (k.values.getD (i - 1) default))))) :: (86, .v (.bool (decide ((k.values.getD i default) ≤ (k.values.getD (i - 1) default))))) :: (87, .v (.bool (decide ((k.values.getD i default) ≤ (k.values.getD (i - 1) default))))) :: (88, .v (.bool (decide ((k.values.getD i default) ≤ (k.values.getD (i - 1) default))))) :: (89, .rbox [.v (.int .i16 k.field), .sh 1 (k.values.map i64c), .sh 1 (k.next.map i16c), .sh 1 (k.cards.map i64c)]) :: (90, .rbox [.v (.int .i16 k.field), .sh 1 (k.values.map i64c), .sh 1 (k.next.map i16c), .sh 1 (k.cards.map i64c)]) :: (91, .rbox [.sh 1 (k.next.map i16c), .sh 1 (k.cards.map i64c)]) :: (92, .sh 1 (k.next.map i16c)) :: (93, .v (.int .i64 ((i : Nat) : Int))) :: (94, .rbox [.v (.int .i16 (k.next.getD i default))]) :: (95, .v (.int .i16 (k.next.getD i default))) :: (96, .v (.int .i64 (k.next.getD i default))) :: (97, .v (.int .i64 at_)) :: (98, .v (.bool (decide ((k.next.getD i default) ≤ at_)))) :: (99, .v (.bool (decide ((k.next.getD i default) ≤ at_)))) :: (100, .v (.bool (decide ((k.next.getD i default) ≤ at_)))) :: (101, .v undef) :: (102, .v undef) :: (103, .v undef) :: (104, .v undef) :: (105, .v undef) :: (106, .v undef) :: (107, .v undef) :: (108, .v undef) :: (109, .v undef) :: (110, .v undef) :: (111, .v undef) :: (112, .v (.bool (true))) :: []) (0 :: 1 :: 3 :: 7 :: 0 :: 31 :: 63 :: 127 :: 255 :: 511 :: 1023 :: 2047 :: 4095 :: 8191 :: 16383 :: 32767 :: 4095 :: 131071 :: 262143 :: 4095 :: 528383 :: 1576959 :: 3674111 :: 4095 :: 8392703 :: 33034239 :: 66588671 :: 134217727 :: 268435455 :: 536870911 :: 1073741823 :: 2147483647 :: 4294967295 :: 8589934591 :: 17179869183 :: 2147483647 :: 68719476735 :: 137438953471 :: 274877906943 :: 2147483647 :: 1099511627775 :: 2199023255551 :: 4398046511103 :: 8796093022207 :: 17592186044415 :: 35184372088831 :: 70368744177663 :: 8796093022207 :: 281474976710655 :: 562949953421311 :: 1125899906842623 :: 8796093022207 :: 2260595906707455 :: 9007199254740991 :: 18014398509481983 :: []) (by kernel_rfl) rfl (by kernel_rfl) (by kernel_rfl) (by kernel_rfl) (by kernel_rfl) (by kernel_rfl) ⟨
                          dPure rfl (pMv rfl rfl rfl),
                          dPure rfl (pure_nil_flat rfl rfl),
                          dPure rfl (pure_field_rbox rfl rfl rfl rfl),
                          dPure rfl (pure_load_rbox rfl rfl rfl),
                          dPure rfl (pMv rfl rfl rfl),
                          dPure rfl (pIx (m := i) rfl rfl rfl (by first | rfl | omega) (by omega) rfl),
                          dPure rfl (pure_load_rbox rfl rfl rfl),
                          dPure rfl (pure_bin rfl rfl rfl rfl),
                          dPure rfl (pMv rfl rfl rfl),
                          dRun rfl rfl (decide_eq_false h7) (by kernel_rfl) (pMv rfl rfl rfl),
                          dRun rfl rfl (decide_eq_false h7) (by kernel_rfl) (pure_bin rfl rfl rfl rfl),
                          dRun rfl rfl (decide_eq_false h7) (by kernel_rfl) (pMv rfl rfl rfl),
                          dRun rfl rfl (decide_eq_true h8) (by kernel_rfl) (pMv rfl rfl rfl),
                          dRun rfl rfl (decide_eq_true h8) (by kernel_rfl) (pure_nil_flat rfl rfl),
                          dRun rfl rfl (decide_eq_true h8) (by kernel_rfl) (pure_field_rbox rfl rfl rfl rfl),
                          dRun rfl rfl (decide_eq_true h8) (by kernel_rfl) (pure_load_rbox rfl rfl rfl),
                          dRun rfl rfl (decide_eq_true h8) (by kernel_rfl) (pMv rfl rfl rfl),
                          dRun rfl rfl (decide_eq_true h8) (by kernel_rfl) (pIx (m := i) rfl rfl rfl (by first | rfl | omega) (by omega) rfl),
                          dRun rfl rfl (decide_eq_true h8) (by kernel_rfl) (pure_load_rbox rfl rfl rfl),
                          dRun rfl rfl (decide_eq_true h8) (by kernel_rfl) (pMv rfl rfl rfl),
                          dRun rfl rfl (decide_eq_true h8) (by kernel_rfl) (pure_nil_flat rfl rfl),
                          dRun rfl rfl (decide_eq_true h8) (by kernel_rfl) (pure_field_rbox rfl rfl rfl rfl),
                          dRun rfl rfl (decide_eq_true h8) (by kernel_rfl) (pure_load_rbox rfl rfl rfl),
                          dRun rfl rfl (decide_eq_true h8) (by kernel_rfl) (pMv rfl rfl rfl),
                          dRun rfl rfl (decide_eq_true h8) (by kernel_rfl) (pure_sub rfl rfl rfl (in64 (by omega) (by omega))),
                          dRun rfl rfl (decide_eq_true h8) (by kernel_rfl) (pIx (m := i - 1) rfl rfl rfl (by first | rfl | omega) (by omega) rfl),
                          dRun rfl rfl (decide_eq_true h8) (by kernel_rfl) (pure_load_rbox rfl rfl rfl),
                          dRun rfl rfl (decide_eq_true h8) (by kernel_rfl) (pure_bin rfl rfl rfl rfl),
                          dRun rfl rfl (decide_eq_false h7) (by kernel_rfl) (pPt rfl rfl (decide_eq_true h8) rfl rfl),
                          dPure rfl (pPf rfl rfl (decide_eq_false h7) rfl rfl),
                          dPure rfl (pMv rfl rfl rfl),
                          dRun rfl rfl (decide_eq_false h9) (by kernel_rfl) (pMv rfl rfl rfl),
                          dRun rfl rfl (decide_eq_false h9) (by kernel_rfl) (pure_nil_flat rfl rfl),
                          dRun rfl rfl (decide_eq_false h9) (by kernel_rfl) (pure_field_rbox rfl rfl rfl rfl),
                          dRun rfl rfl (decide_eq_false h9) (by kernel_rfl) (pure_load_rbox rfl rfl rfl),
                          dRun rfl rfl (decide_eq_false h9) (by kernel_rfl) (pMv rfl rfl rfl),
                          dRun rfl rfl (decide_eq_false h9) (by kernel_rfl) (pIx (m := i) rfl rfl rfl (by first | rfl | omega) (by omega) rfl),
                          dRun rfl rfl (decide_eq_false h9) (by kernel_rfl) (pure_load_rbox rfl rfl rfl),
                          dRun rfl rfl (decide_eq_false h9) (by kernel_rfl) (pure_conv_in rfl rfl (in64 (by omega) (by omega))),
                          dRun rfl rfl (decide_eq_false h9) (by kernel_rfl) (pMv rfl rfl rfl),
                          dRun rfl rfl (decide_eq_false h9) (by kernel_rfl) (pure_bin rfl rfl rfl rfl),
                          dPure rfl (pPf rfl rfl (decide_eq_false h9) rfl rfl),
                          dPure rfl (pMv rfl rfl rfl),
                          dPass rfl rfl (decide_eq_true h10) (by kernel_rfl) rfl,
                          dPass rfl rfl (decide_eq_true h10) (by kernel_rfl) rfl,
                          dPass rfl rfl (decide_eq_true h10) (by kernel_rfl) rfl,
                          dPass rfl rfl (decide_eq_true h10) (by kernel_rfl) rfl,
                          dPass rfl rfl (decide_eq_true h10) (by kernel_rfl) rfl,
                          dPass rfl rfl (decide_eq_true h10) (by kernel_rfl) rfl,
                          dPass rfl rfl (decide_eq_true h10) (by kernel_rfl) rfl,
                          dPass rfl rfl (decide_eq_true h10) (by kernel_rfl) rfl,
                          dPass rfl rfl (decide_eq_true h10) (by kernel_rfl) rfl,
                          dPass rfl rfl (decide_eq_true h10) (by kernel_rfl) rfl,
                          dPass rfl rfl (decide_eq_true h10) (by kernel_rfl) rfl,
                          dPure rfl (pPt rfl rfl (decide_eq_true h10) rfl rfl),
                          trivial⟩ ?_
                      refine vpOps_nil ?_
                      refine vIfT rfl rfl ?_
                      refine vp_seq ?_
                      refine vp_region ?_
                      refine vpOps_pure (x := .v (.bool (false))) (pAs rfl rfl rfl) rfl rfl rfl rfl ?_
                      refine vpOps_nil ?_
                      refine vp_ret ?_
                      exact ⟨[.v (.bool (false))], [6], (.cons (.tmp rfl rfl) .nil), rfl, ⟨false, s, (show (.v (.bool (false)) : PV) = .v (.bool (false)) from rfl), rfl, (by first | rfl | assumption | (rw [List.length_set]; assumption)), (by first | (exact (decide_eq_true ⟨hd, fun j hj => hA j (by omega)⟩).symm) | (exact (decide_eq_false (fun h => by obtain ⟨⟨⟨q1, q2⟩, q3, q4, q5⟩, q6⟩ := h; have q8 : k.cards.length = 0 := (by rw [q3, List.length_nil]); have q9 : k.values.length ≠ 0 := (fun e => q4 (List.length_eq_zero_iff.1 e)); omega)).symm) | (exact (decide_eq_false (fun h => by obtain ⟨⟨⟨q1, q2⟩, q3, q4, q5⟩, q6⟩ := h; have q8 : k.cards.length = 0 := (by rw [q3, List.length_nil]); have q9 : k.values.length ≠ 0 := (fun e => q4 (List.length_eq_zero_iff.1 e)); have q7 := q6 i (by omega); obtain ⟨r1, r2, r3, r4⟩ := q7; first | omega | (have r5 := r2 (by omega); omega))).symm)), (by first | (intro h; exact absurd h (by decide)) | (intro _; rw [hu, List.take_of_length_le (by have := hd.2.2.2; omega)])), (by first | (intro h; exact absurd h (by decide)) | (intro _ t; have h9 := hw t; have h8 := hd.2.2.2; omega))⟩⟩
                    · skip
                      refine vRegD 55 ((58, .rbox [.v (.int .i16 k.field), .sh 1 (k.values.map i64c), .sh 1 (k.next.map i16c), .sh 1 (k.cards.map i64c)]) :: (59, .rbox [.v (.int .i16 k.field), .sh 1 (k.values.map i64c), .sh 1 (k.next.map i16c), .sh 1 (k.cards.map i64c)]) :: (60, .rbox [.sh 1 (k.values.map i64c), .sh 1 (k.next.map i16c), .sh 1 (k.cards.map i64c)]) :: (61, .sh 1 (k.values.map i64c)) :: (62, .v (.int .i64 ((i : Nat) : Int))) :: (63, .rbox [.v (.int .i64 (k.values.getD i default))]) :: (64, .v (.int .i64 (k.values.getD i default))) :: (65, .v (.bool (decide ((k.values.getD i default) < (-2))))) :: (66, .v (.bool (decide ((k.values.getD i default) < (-2))))) :: (67, .v (.int .i64 ((i : Nat) : Int))) :: (68, .v (.bool (decide (0 < ((i : Nat) : Int))))) :: (69, .v (.bool (decide (0 < ((i : Nat) : Int))))) :: (70, .rbox [.v (.int .i16 k.field), .sh 1 (k.values.map i64c), .sh 1 (k.next.map i16c), .sh 1 (k.cards.map i64c)]) :: (71, .rbox [.v (.int .i16 k.field), .sh 1 (k.values.map i64c), .sh 1 (k.next.map i16c), .sh 1 (k.cards.map i64c)]) :: (72, .rbox [.sh 1 (k.values.map i64c), .sh 1 (k.next.map i16c), .sh 1 (k.cards.map i64c)]) :: (73, .sh 1 (k.values.map i64c)) :: (74, .v (.int .i64 ((i : Nat) : Int))) :: (75, .rbox [.v (.int .i64 (k.values.getD i default))]) :: (76, .v (.int .i64 (k.values.getD i default))) :: (77, .rbox [.v (.int .i16 k.field), .sh 1 (k.values.map i64c), .sh 1 (k.next.map i16c), .sh 1 (k.cards.map i64c)]) :: (78, .rbox [.v (.int .i16 k.field), .sh 1 (k.values.map i64c), .sh 1 (k.next.map i16c), .sh 1 (k.cards.map i64c)]) :: (79, .rbox [.sh 1 (k.values.map i64c), .sh 1 (k.next.map i16c), .sh 1 (k.cards.map i64c)]) :: (80, .sh 1 (k.values.map i64c)) :: (81, .v (.int .i64 ((i : Nat) : Int))) :: (82, .v (.int .i64 (((i : Nat) : Int) - 1))) :: (83, .rbox [.v (.int .i64 (k.values.getD (i - 1) default))]) :: (84, .v (.int .i64 (k.values.getD (i - 1) default))) :: (85, .v (.bool (decide ((k.values.getD i default) ≤ (k.values.getD (i - 1) default))))) :: (86, .v (.bool (decide ((k.values.getD i default) ≤ (k.values.getD (i - 1) default))))) :: (87, .v (.bool (decide ((k.values.getD i default) ≤ (k.values.getD (i - 1) default))))) :: (88, .v (.bool (decide ((k.values.getD i default) ≤ (k.values.getD (i - 1) default))))) :: (89, .rbox [.v (.int .i16 k.field), .sh 1 (k.values.map i64c), .sh 1 (k.next.map i16c), .sh 1 (k.cards.map i64c)]) :: (90, .rbox [.v (.int .i16 k.field), .sh 1 (k.values.map i64c), .sh 1 (k.next.map i16c), .sh 1 (k.cards.map i64c)]) :: (91, .rbox [.sh 1 (k.next.map i16c), .sh 1 (k.cards.map i64c)]) :: (92, .sh 1 (k.next.map i16c)) :: (93, .v (.int .i64 ((i : Nat) : Int))) :: (94, .rbox [.v (.int .i16 (k.next.getD i default))]) :: (95, .v (.int .i16 (k.next.getD i default))) :: (96, .v (.int .i64 (k.next.getD i default))) :: (97, .v (.int .i64 at_)) :: (98, .v (.bool (decide ((k.next.getD i default) ≤ at_)))) :: (99, .v (.bool (decide ((k.next.getD i default) ≤ at_)))) :: (100, .v (.bool (decide ((k.next.getD i default) ≤ at_)))) :: (101, .rbox [.v (.int .i16 k.field), .sh 1 (k.values.map i64c), .sh 1 (k.next.map i16c), .sh 1 (k.cards.map i64c)]) :: (102, .rbox [.v (.int .i16 k.field), .sh 1 (k.values.map i64c), .sh 1 (k.next.map i16c), .sh 1 (k.cards.map i64c)]) :: (103, .rbox [.sh 1 (k.next.map i16c), .sh 1 (k.cards.map i64c)]) :: (104, .sh 1 (k.next.map i16c)) :: (105, .v (.int .i64 ((i : Nat) : Int))) :: (106, .rbox [.v (.int .i16 (k.next.getD i default))]) :: (107, .v (.int .i16 (k.next.getD i default))) :: (108, .v (.int .i64 (k.next.getD i default))) :: (109, .lv 2 []) :: (110, .v (.int .i64 ((s.length : Nat) : Int))) :: (111, .v (.bool (decide (((s.length : Nat) : Int) ≤ (k.next.getD i default))))) :: (112, .v (.bool (decide (((s.length : Nat) : Int) ≤ (k.next.getD i default))))) :: []) (0 :: 1 :: 3 :: 7 :: 0 :: 31 :: 63 :: 127 :: 255 :: 511 :: 1023 :: 2047 :: 4095 :: 8191 :: 16383 :: 32767 :: 4095 :: 131071 :: 262143 :: 4095 :: 528383 :: 1576959 :: 3674111 :: 4095 :: 8392703 :: 33034239 :: 66588671 :: 134217727 :: 268435455 :: 536870911 :: 1073741823 :: 2147483647 :: 4294967295 :: 8589934591 :: 17179869183 :: 2147483647 :: 68719476735 :: 137438953471 :: 274877906943 :: 2147483647 :: 1099511627775 :: 2199023255551 :: 4398046511103 :: 8796093022207 :: 17592186044415 :: 35184372088831 :: 70368744177663 :: 8796093022207 :: 281474976710655 :: 562949953421311 :: 1125899906842623 :: 8796093022207 :: 2260595906707455 :: 9007199254740991 :: 18014398509481983 :: []) (by kernel_rfl) rfl (by kernel_rfl) (by kernel_rfl) (by kernel_rfl) (by kernel_rfl) (by kernel_rfl) ⟨
                          dPure rfl (pMv rfl rfl rfl),
                          dPure rfl (pure_nil_flat rfl rfl),
                          dPure rfl (pure_field_rbox rfl rfl rfl rfl),
                          dPure rfl (pure_load_rbox rfl rfl rfl),
                          dPure rfl (pMv rfl rfl rfl),
                          dPure rfl (pIx (m := i) rfl rfl rfl (by first | rfl | omega) (by omega) rfl),
                          dPure rfl (pure_load_rbox rfl rfl rfl),
                          dPure rfl (pure_bin rfl rfl rfl rfl),
                          dPure rfl (pMv rfl rfl rfl),
                          dRun rfl rfl (decide_eq_false h7) (by kernel_rfl) (pMv rfl rfl rfl),
                          dRun rfl rfl (decide_eq_false h7) (by kernel_rfl) (pure_bin rfl rfl rfl rfl),
                          dRun rfl rfl (decide_eq_false h7) (by kernel_rfl) (pMv rfl rfl rfl),
                          dRun rfl rfl (decide_eq_true h8) (by kernel_rfl) (pMv rfl rfl rfl),
                          dRun rfl rfl (decide_eq_true h8) (by kernel_rfl) (pure_nil_flat rfl rfl),
                          dRun rfl rfl (decide_eq_true h8) (by kernel_rfl) (pure_field_rbox rfl rfl rfl rfl),
                          dRun rfl rfl (decide_eq_true h8) (by kernel_rfl) (pure_load_rbox rfl rfl rfl),
                          dRun rfl rfl (decide_eq_true h8) (by kernel_rfl) (pMv rfl rfl rfl),
                          dRun rfl rfl (decide_eq_true h8) (by kernel_rfl) (pIx (m := i) rfl rfl rfl (by first | rfl | omega) (by omega) rfl),
                          dRun rfl rfl (decide_eq_true h8) (by kernel_rfl) (pure_load_rbox rfl rfl rfl),
                          dRun rfl rfl (decide_eq_true h8) (by kernel_rfl) (pMv rfl rfl rfl),
                          dRun rfl rfl (decide_eq_true h8) (by kernel_rfl) (pure_nil_flat rfl rfl),
                          dRun rfl rfl (decide_eq_true h8) (by kernel_rfl) (pure_field_rbox rfl rfl rfl rfl),
                          dRun rfl rfl (decide_eq_true h8) (by kernel_rfl) (pure_load_rbox rfl rfl rfl),
                          dRun rfl rfl (decide_eq_true h8) (by kernel_rfl) (pMv rfl rfl rfl),
                          dRun rfl rfl (decide_eq_true h8) (by kernel_rfl) (pure_sub rfl rfl rfl (in64 (by omega) (by omega))),
                          dRun rfl rfl (decide_eq_true h8) (by kernel_rfl) (pIx (m := i - 1) rfl rfl rfl (by first | rfl | omega) (by omega) rfl),
                          dRun rfl rfl (decide_eq_true h8) (by kernel_rfl) (pure_load_rbox rfl rfl rfl),
                          dRun rfl rfl (decide_eq_true h8) (by kernel_rfl) (pure_bin rfl rfl rfl rfl),
                          dRun rfl rfl (decide_eq_false h7) (by kernel_rfl) (pPt rfl rfl (decide_eq_true h8) rfl rfl),
                          dPure rfl (pPf rfl rfl (decide_eq_false h7) rfl rfl),
                          dPure rfl (pMv rfl rfl rfl),
                          dRun rfl rfl (decide_eq_false h9) (by kernel_rfl) (pMv rfl rfl rfl),
                          dRun rfl rfl (decide_eq_false h9) (by kernel_rfl) (pure_nil_flat rfl rfl),
                          dRun rfl rfl (decide_eq_false h9) (by kernel_rfl) (pure_field_rbox rfl rfl rfl rfl),
                          dRun rfl rfl (decide_eq_false h9) (by kernel_rfl) (pure_load_rbox rfl rfl rfl),
                          dRun rfl rfl (decide_eq_false h9) (by kernel_rfl) (pMv rfl rfl rfl),
                          dRun rfl rfl (decide_eq_false h9) (by kernel_rfl) (pIx (m := i) rfl rfl rfl (by first | rfl | omega) (by omega) rfl),
                          dRun rfl rfl (decide_eq_false h9) (by kernel_rfl) (pure_load_rbox rfl rfl rfl),
                          dRun rfl rfl (decide_eq_false h9) (by kernel_rfl) (pure_conv_in rfl rfl (in64 (by omega) (by omega))),
                          dRun rfl rfl (decide_eq_false h9) (by kernel_rfl) (pMv rfl rfl rfl),
                          dRun rfl rfl (decide_eq_false h9) (by kernel_rfl) (pure_bin rfl rfl rfl rfl),
                          dPure rfl (pPf rfl rfl (decide_eq_false h9) rfl rfl),
                          dPure rfl (pMv rfl rfl rfl),
                          dRun rfl rfl (decide_eq_false h10) (by kernel_rfl) (pMv rfl rfl rfl),
                          dRun rfl rfl (decide_eq_false h10) (by kernel_rfl) (pure_nil_flat rfl rfl),
                          dRun rfl rfl (decide_eq_false h10) (by kernel_rfl) (pure_field_rbox rfl rfl rfl rfl),
                          dRun rfl rfl (decide_eq_false h10) (by kernel_rfl) (pure_load_rbox rfl rfl rfl),
                          dRun rfl rfl (decide_eq_false h10) (by kernel_rfl) (pMv rfl rfl rfl),
                          dRun rfl rfl (decide_eq_false h10) (by kernel_rfl) (pIx (m := i) rfl rfl rfl (by first | rfl | omega) (by omega) rfl),
                          dRun rfl rfl (decide_eq_false h10) (by kernel_rfl) (pure_load_rbox rfl rfl rfl),
                          dRun rfl rfl (decide_eq_false h10) (by kernel_rfl) (pure_conv_in rfl rfl (in64 (by omega) (by omega))),
                          dRun rfl rfl (decide_eq_false h10) (by kernel_rfl) (pure_move_lv rfl),
                          dRun rfl rfl (decide_eq_false h10) (by kernel_rfl) (pLenR rfl rfl rfl rfl rfl (List.length_map _)),
                          dRun rfl rfl (decide_eq_false h10) (by kernel_rfl) (pure_bin rfl rfl rfl rfl),
                          dPure rfl (pPf rfl rfl (decide_eq_false h10) rfl rfl),
                          trivial⟩ ?_
                      refine vpOps_nil ?_
                      refine vIf rfl (fun h11 => ?_) (fun h11 => ?_)
                      · skip
                        refine vp_seq ?_
                        refine vp_region ?_
                        refine vpOps_pure (x := .v (.bool (false))) (pAs rfl rfl rfl) rfl rfl rfl rfl ?_
                        refine vpOps_nil ?_
                        refine vp_ret ?_
                        exact ⟨[.v (.bool (false))], [6], (.cons (.tmp rfl rfl) .nil), rfl, ⟨false, s, (show (.v (.bool (false)) : PV) = .v (.bool (false)) from rfl), rfl, (by first | rfl | assumption | (rw [List.length_set]; assumption)), (by first | (exact (decide_eq_true ⟨hd, fun j hj => hA j (by omega)⟩).symm) | (exact (decide_eq_false (fun h => by obtain ⟨⟨⟨q1, q2⟩, q3, q4, q5⟩, q6⟩ := h; have q8 : k.cards.length = 0 := (by rw [q3, List.length_nil]); have q9 : k.values.length ≠ 0 := (fun e => q4 (List.length_eq_zero_iff.1 e)); omega)).symm) | (exact (decide_eq_false (fun h => by obtain ⟨⟨⟨q1, q2⟩, q3, q4, q5⟩, q6⟩ := h; have q8 : k.cards.length = 0 := (by rw [q3, List.length_nil]); have q9 : k.values.length ≠ 0 := (fun e => q4 (List.length_eq_zero_iff.1 e)); have q7 := q6 i (by omega); obtain ⟨r1, r2, r3, r4⟩ := q7; first | omega | (have r5 := r2 (by omega); omega))).symm)), (by first | (intro h; exact absurd h (by decide)) | (intro _; rw [hu, List.take_of_length_le (by have := hd.2.2.2; omega)])), (by first | (intro h; exact absurd h (by decide)) | (intro _ t; have h9 := hw t; have h8 := hd.2.2.2; omega))⟩⟩
                      · skip
                        refine vp_skip ?_
                        refine vp_region ?_
                        refine vpOps_pure (x := .lv 2 []) (pure_move_lv rfl) rfl rfl rfl rfl ?_
                        refine vpOps_pure (x := .rbox [.v (.int .i16 k.field), .sh 1 (k.values.map i64c), .sh 1 (k.next.map i16c), .sh 1 (k.cards.map i64c)]) (pMv rfl rfl rfl) rfl rfl rfl rfl ?_
                        refine vpOps_pure (x := .rbox [.v (.int .i16 k.field), .sh 1 (k.values.map i64c), .sh 1 (k.next.map i16c), .sh 1 (k.cards.map i64c)]) (pure_nil_flat rfl rfl) rfl rfl rfl rfl ?_
                        refine vpOps_pure (x := .rbox [.sh 1 (k.next.map i16c), .sh 1 (k.cards.map i64c)]) (pure_field_rbox rfl rfl rfl rfl) rfl rfl rfl rfl ?_
                        refine vpOps_pure (x := .sh 1 (k.next.map i16c)) (pure_load_rbox rfl rfl rfl) rfl rfl rfl rfl ?_
                        refine vpOps_pure (x := .v (.int .i64 ((i : Nat) : Int))) (pMv rfl rfl rfl) rfl rfl rfl rfl ?_
                        refine vpOps_pure (x := .rbox [.v (.int .i16 (k.next.getD i default))]) (pIx (m := i) rfl rfl rfl (by first | rfl | omega) (by omega) rfl) rfl rfl rfl rfl ?_
                        refine vpOps_pure (x := .v (.int .i16 (k.next.getD i default))) (pure_load_rbox rfl rfl rfl) rfl rfl rfl rfl ?_
                        refine vpOps_pure (x := .pl 2 [⟨(k.next.getD i default).toNat, 0, 1⟩]) (pIxR (m := (k.next.getD i default).toNat) rfl rfl rfl rfl rfl rfl (by first | rfl | omega) (by rw [List.length_map]; omega) rfl) rfl rfl rfl rfl ?_
                        refine vpOps_pure (x := .v (.int .i64 (s.getD ((k.next.getD i default).toNat) default))) (pure_load_pl rfl rfl rfl rfl rfl (row_map (by omega)) rfl trivial rfl) rfl rfl rfl rfl ?_
                        have hwi := hw (k.next.getD i default).toNat
                        refine vpOps_pure (x := .v (.int .i64 ((s.getD ((k.next.getD i default).toNat) default) + 1))) (pure_add rfl rfl rfl (in64 (by omega) (by omega))) rfl rfl rfl rfl ?_
                        refine vpOps_pure (x := .pl 2 [⟨(k.next.getD i default).toNat, 0, 1⟩]) (pIxR (m := (k.next.getD i default).toNat) rfl rfl rfl rfl rfl rfl (by first | rfl | omega) (by rw [List.length_map]; omega) rfl) rfl rfl rfl rfl ?_
                        refine vSt (f := i64c) (xs := s) (x := .v (.int .i64 ((s.getD ((k.next.getD i default).toNat) default) + 1))) (x' := (s.getD ((k.next.getD i default).toNat) default) + 1) rfl rfl rfl rfl rfl rfl rfl rfl rfl rfl (by omega) (Nat.le_of_ble_eq_true rfl) rfl ?_
                        refine vpOps_nil ?_
                        refine vp_region ?_
                        refine vpOps_pure (x := .v (.int .i64 ((i : Nat) : Int))) (pMv rfl rfl rfl) rfl rfl rfl rfl ?_
                        refine vpOps_pure (x := .v (.int .i64 (((i : Nat) : Int) + 1))) (pure_add rfl rfl rfl (in64 (by omega) (by omega))) rfl rfl rfl rfl ?_
                        refine vpOps_pure (x := .v (.int .i64 (((i : Nat) : Int) + 1))) (pAs rfl rfl rfl) rfl rfl rfl rfl ?_
                        refine vpOps_nil ?_
                        exact ⟨(i + 1, s.set ((k.next.getD i default).toNat) ((s.getD ((k.next.getD i default).toNat) default) + 1)), (by first | omega | (dsimp only; omega)), ⟨(by omega), (by rw [List.length_set]; assumption), (by assumption), (by intro j hj; rcases Nat.lt_or_ge j i with hji | hji; exact hA j hji; rw [show j = i by omega]; refine ⟨by omega, ?_, by omega, by omega⟩; first | (intro hj0; omega) | (intro hj0; assumption)), (by rw [bump_step _ _ (by omega), ← hu]; rfl), (by intro t; have := bump1_bound hw t (t := k.next.getD i default); unfold bump1 at this; omega), trivial⟩, ⟨rfl, rfl, rfl, rfl, trivial⟩⟩
                · skip
                  by_cases h12 : (k.next.getD i default) ≤ at_
                  · skip
                    refine vRegD 55 ((58, .rbox [.v (.int .i16 k.field), .sh 1 (k.values.map i64c), .sh 1 (k.next.map i16c), .sh 1 (k.cards.map i64c)]) :: (59, .rbox [.v (.int .i16 k.field), .sh 1 (k.values.map i64c), .sh 1 (k.next.map i16c), .sh 1 (k.cards.map i64c)]) :: (60, .rbox [.sh 1 (k.values.map i64c), .sh 1 (k.next.map i16c), .sh 1 (k.cards.map i64c)]) :: (61, .sh 1 (k.values.map i64c)) :: (62, .v (.int .i64 ((i : Nat) : Int))) :: (63, .rbox [.v (.int .i64 (k.values.getD i default))]) :: (64, .v (.int .i64 (k.values.getD i default))) :: (65, .v (.bool (decide ((k.values.getD i default) < (-2))))) :: (66, .v (.bool (decide ((k.values.getD i default) < (-2))))) :: (67, .v (.int .i64 ((i : Nat) : Int))) :: (68, .v (.bool (decide (0 < ((i : Nat) : Int))))) :: (69, .v (.bool (decide (0 < ((i : Nat) : Int))))) :: (70, .v undef) :: (71, .v undef) :: (72, .v undef) :: (73, .v undef) :: (74, .v undef) :: (75, .v undef) :: (76, .v undef) :: (77, .v undef) :: (78, .v undef) :: (79, .v undef) :: (80, .v undef) :: (81, .v undef) :: (82, .v undef) :: (83, .v undef) :: (84, .v undef) :: (85, .v undef) :: (86, .v (.bool (false))) :: (87, .v (.bool (false))) :: (88, .v (.bool (false))) :: (89, .rbox [.v (.int .i16 k.field), .sh 1 (k.values.map i64c), .sh 1 (k.next.map i16c), .sh 1 (k.cards.map i64c)]) :: (90, .rbox [.v (.int .i16 k.field), .sh 1 (k.values.map i64c), .sh 1 (k.next.map i16c), .sh 1 (k.cards.map i64c)]) :: (91, .rbox [.sh 1 (k.next.map i16c), .sh 1 (k.cards.map i64c)]) :: (92, .sh 1 (k.next.map i16c)) :: (93, .v (.int .i64 ((i : Nat) : Int))) :: (94, .rbox [.v (.int .i16 (k.next.getD i default))]) :: (95, .v (.int .i16 (k.next.getD i default))) :: (96, .v (.int .i64 (k.next.getD i default))) :: (97, .v (.int .i64 at_)) :: (98, .v (.bool (decide ((k.next.getD i default) ≤ at_)))) :: (99, .v (.bool (decide ((k.next.getD i default) ≤ at_)))) :: (100, .v (.bool (decide ((k.next.getD i default) ≤ at_)))) :: (101, .v undef) :: (102, .v undef) :: (103, .v undef) :: (104, .v undef) :: (105, .v undef) :: (106, .v undef) :: (107, .v undef) :: (108, .v undef) :: (109, .v undef) :: (110, .v undef) :: (111, .v undef) :: (112, .v (.bool (true))) :: []) (0 :: 1 :: 3 :: 7 :: 0 :: 31 :: 63 :: 127 :: 255 :: 511 :: 1023 :: 2047 :: 4095 :: 8191 :: 16383 :: 32767 :: 4095 :: 131071 :: 262143 :: 4095 :: 528383 :: 1576959 :: 3674111 :: 4095 :: 8392703 :: 33034239 :: 66588671 :: 134217727 :: 268435455 :: 536870911 :: 1073741823 :: 2147483647 :: 4294967295 :: 8589934591 :: 17179869183 :: 2147483647 :: 68719476735 :: 137438953471 :: 274877906943 :: 2147483647 :: 1099511627775 :: 2199023255551 :: 4398046511103 :: 8796093022207 :: 17592186044415 :: 35184372088831 :: 70368744177663 :: 8796093022207 :: 281474976710655 :: 562949953421311 :: 1125899906842623 :: 8796093022207 :: 2260595906707455 :: 9007199254740991 :: 18014398509481983 :: []) (by kernel_rfl) rfl (by kernel_rfl) (by kernel_rfl) (by kernel_rfl) (by kernel_rfl) (by kernel_rfl) ⟨
                        dPure rfl (pMv rfl rfl rfl),
                        dPure rfl (pure_nil_flat rfl rfl),
                        dPure rfl (pure_field_rbox rfl rfl rfl rfl),
                        dPure rfl (pure_load_rbox rfl rfl rfl),
                        dPure rfl (pMv rfl rfl rfl),
                        dPure rfl (pIx (m := i) rfl rfl rfl (by first | rfl | omega) (by omega) rfl),
                        dPure rfl (pure_load_rbox rfl rfl rfl),
                        dPure rfl (pure_bin rfl rfl rfl rfl),
                        dPure rfl (pMv rfl rfl rfl),
                        dRun rfl rfl (decide_eq_false h7) (by kernel_rfl) (pMv rfl rfl rfl),
                        dRun rfl rfl (decide_eq_false h7) (by kernel_rfl) (pure_bin rfl rfl rfl rfl),
                        dRun rfl rfl (decide_eq_false h7) (by kernel_rfl) (pMv rfl rfl rfl),
                        dPass rfl rfl (decide_eq_false h8) (by kernel_rfl) rfl,
                        dPass rfl rfl (decide_eq_false h8) (by kernel_rfl) rfl,
                        dPass rfl rfl (decide_eq_false h8) (by kernel_rfl) rfl,
                        dPass rfl rfl (decide_eq_false h8) (by kernel_rfl) rfl,
                        dPass rfl rfl (decide_eq_false h8) (by kernel_rfl) rfl,
                        dPass rfl rfl (decide_eq_false h8) (by kernel_rfl) rfl,
                        dPass rfl rfl (decide_eq_false h8) (by kernel_rfl) rfl,
                        dPass rfl rfl (decide_eq_false h8) (by kernel_rfl) rfl,
                        dPass rfl rfl (decide_eq_false h8) (by kernel_rfl) rfl,
                        dPass rfl rfl (decide_eq_false h8) (by kernel_rfl) rfl,
                        dPass rfl rfl (decide_eq_false h8) (by kernel_rfl) rfl,
                        dPass rfl rfl (decide_eq_false h8) (by kernel_rfl) rfl,
                        dPass rfl rfl (decide_eq_false h8) (by kernel_rfl) rfl,
                        dPass rfl rfl (decide_eq_false h8) (by kernel_rfl) rfl,
                        dPass rfl rfl (decide_eq_false h8) (by kernel_rfl) rfl,
                        dPass rfl rfl (decide_eq_false h8) (by kernel_rfl) rfl,
                        dRun rfl rfl (decide_eq_false h7) (by kernel_rfl) (pPf rfl rfl (decide_eq_false h8) rfl rfl),
                        dPure rfl (pPf rfl rfl (decide_eq_false h7) rfl rfl),
                        dPure rfl (pMv rfl rfl rfl),
                        dRun rfl rfl rfl (by kernel_rfl) (pMv rfl rfl rfl),
                        dRun rfl rfl rfl (by kernel_rfl) (pure_nil_flat rfl rfl),
                        dRun rfl rfl rfl (by kernel_rfl) (pure_field_rbox rfl rfl rfl rfl),
                        dRun rfl rfl rfl (by kernel_rfl) (pure_load_rbox rfl rfl rfl),
                        dRun rfl rfl rfl (by kernel_rfl) (pMv rfl rfl rfl),
                        dRun rfl rfl rfl (by kernel_rfl) (pIx (m := i) rfl rfl rfl (by first | rfl | omega) (by omega) rfl),
                        dRun rfl rfl rfl (by kernel_rfl) (pure_load_rbox rfl rfl rfl),
                        dRun rfl rfl rfl (by kernel_rfl) (pure_conv_in rfl rfl (in64 (by omega) (by omega))),
                        dRun rfl rfl rfl (by kernel_rfl) (pMv rfl rfl rfl),
                        dRun rfl rfl rfl (by kernel_rfl) (pure_bin rfl rfl rfl rfl),
                        dPure rfl (pPf rfl rfl rfl rfl rfl),
                        dPure rfl (pMv rfl rfl rfl),
                        dPass rfl rfl (decide_eq_true h12) (by kernel_rfl) rfl,
                        dPass rfl rfl (decide_eq_true h12) (by kernel_rfl) rfl,
                        dPass rfl rfl (decide_eq_true h12) (by kernel_rfl) rfl,
                        dPass rfl rfl (decide_eq_true h12) (by kernel_rfl) rfl,
                        dPass rfl rfl (decide_eq_true h12) (by kernel_rfl) rfl,
                        dPass rfl rfl (decide_eq_true h12) (by kernel_rfl) rfl,
                        dPass rfl rfl (decide_eq_true h12) (by kernel_rfl) rfl,
                        dPass rfl rfl (decide_eq_true h12) (by kernel_rfl) rfl,
                        dPass rfl rfl (decide_eq_true h12) (by kernel_rfl) rfl,
                        dPass rfl rfl (decide_eq_true h12) (by kernel_rfl) rfl,
                        dPass rfl rfl (decide_eq_true h12) (by kernel_rfl) rfl,
                        dPure rfl (pPt rfl rfl (decide_eq_true h12) rfl rfl),
                        trivial⟩ ?_
                    refine vpOps_nil ?_
                    refine vIfT rfl rfl ?_
                    refine vp_seq ?_
                    refine vp_region ?_
                    refine vpOps_pure (x := .v (.bool (false))) (pAs rfl rfl rfl) rfl rfl rfl rfl ?_
                    refine vpOps_nil ?_
                    refine vp_ret ?_
                    exact ⟨[.v (.bool (false))], [6], (.cons (.tmp rfl rfl) .nil), rfl, ⟨false, s, (show (.v (.bool (false)) : PV) = .v (.bool (false)) from rfl), rfl, (by first | rfl | assumption | (rw [List.length_set]; assumption)), (by first | (exact (decide_eq_true ⟨hd, fun j hj => hA j (by omega)⟩).symm) | (exact (decide_eq_false (fun h => by obtain ⟨⟨⟨q1, q2⟩, q3, q4, q5⟩, q6⟩ := h; have q8 : k.cards.length = 0 := (by rw [q3, List.length_nil]); have q9 : k.values.length ≠ 0 := (fun e => q4 (List.length_eq_zero_iff.1 e)); omega)).symm) | (exact (decide_eq_false (fun h => by obtain ⟨⟨⟨q1, q2⟩, q3, q4, q5⟩, q6⟩ := h; have q8 : k.cards.length = 0 := (by rw [q3, List.length_nil]); have q9 : k.values.length ≠ 0 := (fun e => q4 (List.length_eq_zero_iff.1 e)); have q7 := q6 i (by omega); obtain ⟨r1, r2, r3, r4⟩ := q7; first | omega | (have r5 := r2 (by omega); omega))).symm)), (by first | (intro h; exact absurd h (by decide)) | (intro _; rw [hu, List.take_of_length_le (by have := hd.2.2.2; omega)])), (by first | (intro h; exact absurd h (by decide)) | (intro _ t; have h9 := hw t; have h8 := hd.2.2.2; omega))⟩⟩
                  · skip
                    refine vRegD 55 ((58, .rbox [.v (.int .i16 k.field), .sh 1 (k.values.map i64c), .sh 1 (k.next.map i16c), .sh 1 (k.cards.map i64c)]) :: (59, .rbox [.v (.int .i16 k.field), .sh 1 (k.values.map i64c), .sh 1 (k.next.map i16c), .sh 1 (k.cards.map i64c)]) :: (60, .rbox [.sh 1 (k.values.map i64c), .sh 1 (k.next.map i16c), .sh 1 (k.cards.map i64c)]) :: (61, .sh 1 (k.values.map i64c)) :: (62, .v (.int .i64 ((i : Nat) : Int))) :: (63, .rbox [.v (.int .i64 (k.values.getD i default))]) :: (64, .v (.int .i64 (k.values.getD i default))) :: (65, .v (.bool (decide ((k.values.getD i default) < (-2))))) :: (66, .v (.bool (decide ((k.values.getD i default) < (-2))))) :: (67, .v (.int .i64 ((i : Nat) : Int))) :: (68, .v (.bool (decide (0 < ((i : Nat) : Int))))) :: (69, .v (.bool (decide (0 < ((i : Nat) : Int))))) :: (70, .v undef) :: (71, .v undef) :: (72, .v undef) :: (73, .v undef) :: (74, .v undef) :: (75, .v undef) :: (76, .v undef) :: (77, .v undef) :: (78, .v undef) :: (79, .v undef) :: (80, .v undef) :: (81, .v undef) :: (82, .v undef) :: (83, .v undef) :: (84, .v undef) :: (85, .v undef) :: (86, .v (.bool (false))) :: (87, .v (.bool (false))) :: (88, .v (.bool (false))) :: (89, .rbox [.v (.int .i16 k.field), .sh 1 (k.values.map i64c), .sh 1 (k.next.map i16c), .sh 1 (k.cards.map i64c)]) :: (90, .rbox [.v (.int .i16 k.field), .sh 1 (k.values.map i64c), .sh 1 (k.next.map i16c), .sh 1 (k.cards.map i64c)]) :: (91, .rbox [.sh 1 (k.next.map i16c), .sh 1 (k.cards.map i64c)]) :: (92, .sh 1 (k.next.map i16c)) :: (93, .v (.int .i64 ((i : Nat) : Int))) :: (94, .rbox [.v (.int .i16 (k.next.getD i default))]) :: (95, .v (.int .i16 (k.next.getD i default))) :: (96, .v (.int .i64 (k.next.getD i default))) :: (97, .v (.int .i64 at_)) :: (98, .v (.bool (decide ((k.next.getD i default) ≤ at_)))) :: (99, .v (.bool (decide ((k.next.getD i default) ≤ at_)))) :: (100, .v (.bool (decide ((k.next.getD i default) ≤ at_)))) :: (101, .rbox [.v (.int .i16 k.field), .sh 1 (k.values.map i64c), .sh 1 (k.next.map i16c), .sh 1 (k.cards.map i64c)]) :: (102, .rbox [.v (.int .i16 k.field), .sh 1 (k.values.map i64c), .sh 1 (k.next.map i16c), .sh 1 (k.cards.map i64c)]) :: (103, .rbox [.sh 1 (k.next.map i16c), .sh 1 (k.cards.map i64c)]) :: (104, .sh 1 (k.next.map i16c)) :: (105, .v (.int .i64 ((i : Nat) : Int))) :: (106, .rbox [.v (.int .i16 (k.next.getD i default))]) :: (107, .v (.int .i16 (k.next.getD i default))) :: (108, .v (.int .i64 (k.next.getD i default))) :: (109, .lv 2 []) :: (110, .v (.int .i64 ((s.length : Nat) : Int))) :: (111, .v (.bool (decide (((s.length : Nat) : Int) ≤ (k.next.getD i default))))) :: (112, .v (.bool (decide (((s.length : Nat) : Int) ≤ (k.next.getD i default))))) :: []) (0 :: 1 :: 3 :: 7 :: 0 :: 31 :: 63 :: 127 :: 255 :: 511 :: 1023 :: 2047 :: 4095 :: 8191 :: 16383 :: 32767 :: 4095 :: 131071 :: 262143 :: 4095 :: 528383 :: 1576959 :: 3674111 :: 4095 :: 8392703 :: 33034239 :: 66588671 :: 134217727 :: 268435455 :: 536870911 :: 1073741823 :: 2147483647 :: 4294967295 :: 8589934591 :: 17179869183 :: 2147483647 :: 68719476735 :: 137438953471 :: 274877906943 :: 2147483647 :: 1099511627775 :: 2199023255551 :: 4398046511103 :: 8796093022207 :: 17592186044415 :: 35184372088831 :: 70368744177663 :: 8796093022207 :: 281474976710655 :: 562949953421311 :: 1125899906842623 :: 8796093022207 :: 2260595906707455 :: 9007199254740991 :: 18014398509481983 :: []) (by kernel_rfl) rfl (by kernel_rfl) (by kernel_rfl) (by kernel_rfl) (by kernel_rfl) (by kernel_rfl) ⟨
                        dPure rfl (pMv rfl rfl rfl),
                        dPure rfl (pure_nil_flat rfl rfl),
                        dPure rfl (pure_field_rbox rfl rfl rfl rfl),
                        dPure rfl (pure_load_rbox rfl rfl rfl),
                        dPure rfl (pMv rfl rfl rfl),
                        dPure rfl (pIx (m := i) rfl rfl rfl (by first | rfl | omega) (by omega) rfl),
                        dPure rfl (pure_load_rbox rfl rfl rfl),
                        dPure rfl (pure_bin rfl rfl rfl rfl),
                        dPure rfl (pMv rfl rfl rfl),
                        dRun rfl rfl (decide_eq_false h7) (by kernel_rfl) (pMv rfl rfl rfl),
                        dRun rfl rfl (decide_eq_false h7) (by kernel_rfl) (pure_bin rfl rfl rfl rfl),
                        dRun rfl rfl (decide_eq_false h7) (by kernel_rfl) (pMv rfl rfl rfl),
                        dPass rfl rfl (decide_eq_false h8) (by kernel_rfl) rfl,
                        dPass rfl rfl (decide_eq_false h8) (by kernel_rfl) rfl,
                        dPass rfl rfl (decide_eq_false h8) (by kernel_rfl) rfl,
                        dPass rfl rfl (decide_eq_false h8) (by kernel_rfl) rfl,
                        dPass rfl rfl (decide_eq_false h8) (by kernel_rfl) rfl,
                        dPass rfl rfl (decide_eq_false h8) (by kernel_rfl) rfl,
                        dPass rfl rfl (decide_eq_false h8) (by kernel_rfl) rfl,
                        dPass rfl rfl (decide_eq_false h8) (by kernel_rfl) rfl,
                        dPass rfl rfl (decide_eq_false h8) (by kernel_rfl) rfl,
                        dPass rfl rfl (decide_eq_false h8) (by kernel_rfl) rfl,
                        dPass rfl rfl (decide_eq_false h8) (by kernel_rfl) rfl,
                        dPass rfl rfl (decide_eq_false h8) (by kernel_rfl) rfl,
                        dPass rfl rfl (decide_eq_false h8) (by kernel_rfl) rfl,
                        dPass rfl rfl (decide_eq_false h8) (by kernel_rfl) rfl,
                        dPass rfl rfl (decide_eq_false h8) (by kernel_rfl) rfl,
                        dPass rfl rfl (decide_eq_false h8) (by kernel_rfl) rfl,
                        dRun rfl rfl (decide_eq_false h7) (by kernel_rfl) (pPf rfl rfl (decide_eq_false h8) rfl rfl),
                        dPure rfl (pPf rfl rfl (decide_eq_false h7) rfl rfl),
                        dPure rfl (pMv rfl rfl rfl),
                        dRun rfl rfl rfl (by kernel_rfl) (pMv rfl rfl rfl),
                        dRun rfl rfl rfl (by kernel_rfl) (pure_nil_flat rfl rfl),
                        dRun rfl rfl rfl (by kernel_rfl) (pure_field_rbox rfl rfl rfl rfl),
                        dRun rfl rfl rfl (by kernel_rfl) (pure_load_rbox rfl rfl rfl),
                        dRun rfl rfl rfl (by kernel_rfl) (pMv rfl rfl rfl),
                        dRun rfl rfl rfl (by kernel_rfl) (pIx (m := i) rfl rfl rfl (by first | rfl | omega) (by omega) rfl),
                        dRun rfl rfl rfl (by kernel_rfl) (pure_load_rbox rfl rfl rfl),
                        dRun rfl rfl rfl (by kernel_rfl) (pure_conv_in rfl rfl (in64 (by omega) (by omega))),
                        dRun rfl rfl rfl (by kernel_rfl) (pMv rfl rfl rfl),
                        dRun rfl rfl rfl (by kernel_rfl) (pure_bin rfl rfl rfl rfl),
                        dPure rfl (pPf rfl rfl rfl rfl rfl),
                        dPure rfl (pMv rfl rfl rfl),
                        dRun rfl rfl (decide_eq_false h12) (by kernel_rfl) (pMv rfl rfl rfl),
                        dRun rfl rfl (decide_eq_false h12) (by kernel_rfl) (pure_nil_flat rfl rfl),
                        dRun rfl rfl (decide_eq_false h12) (by kernel_rfl) (pure_field_rbox rfl rfl rfl rfl),
                        dRun rfl rfl (decide_eq_false h12) (by kernel_rfl) (pure_load_rbox rfl rfl rfl),
                        dRun rfl rfl (decide_eq_false h12) (by kernel_rfl) (pMv rfl rfl rfl),
                        dRun rfl rfl (decide_eq_false h12) (by kernel_rfl) (pIx (m := i) rfl rfl rfl (by first | rfl | omega) (by omega) rfl),
                        dRun rfl rfl (decide_eq_false h12) (by kernel_rfl) (pure_load_rbox rfl rfl rfl),
                        dRun rfl rfl (decide_eq_false h12) (by kernel_rfl) (pure_conv_in rfl rfl (in64 (by omega) (by omega))),
                        dRun rfl rfl (decide_eq_false h12) (by kernel_rfl) (pure_move_lv rfl),
                        dRun rfl rfl (decide_eq_false h12) (by kernel_rfl) (pLenR rfl rfl rfl rfl rfl (List.length_map _)),
                        dRun rfl rfl (decide_eq_false h12) (by kernel_rfl) (pure_bin rfl rfl rfl rfl),
                        dPure rfl (pPf rfl rfl (decide_eq_false h12) rfl rfl),
                        trivial⟩ ?_
                    refine vpOps_nil ?_
                    refine vIf rfl (fun h13 => ?_) (fun h13 => ?_)
                    · skip
                      refine vp_seq ?_
                      refine vp_region ?_
                      refine vpOps_pure (x := .v (.bool (false))) (pAs rfl rfl rfl) rfl rfl rfl rfl ?_
                      refine vpOps_nil ?_
                      refine vp_ret ?_
                      exact ⟨[.v (.bool (false))], [6], (.cons (.tmp rfl rfl) .nil), rfl, ⟨false, s, (show (.v (.bool (false)) : PV) = .v (.bool (false)) from rfl), rfl, (by first | rfl | assumption | (rw [List.length_set]; assumption)), (by first | (exact (decide_eq_true ⟨hd, fun j hj => hA j (by omega)⟩).symm) | (exact (decide_eq_false (fun h => by obtain ⟨⟨⟨q1, q2⟩, q3, q4, q5⟩, q6⟩ := h; have q8 : k.cards.length = 0 := (by rw [q3, List.length_nil]); have q9 : k.values.length ≠ 0 := (fun e => q4 (List.length_eq_zero_iff.1 e)); omega)).symm) | (exact (decide_eq_false (fun h => by obtain ⟨⟨⟨q1, q2⟩, q3, q4, q5⟩, q6⟩ := h; have q8 : k.cards.length = 0 := (by rw [q3, List.length_nil]); have q9 : k.values.length ≠ 0 := (fun e => q4 (List.length_eq_zero_iff.1 e)); have q7 := q6 i (by omega); obtain ⟨r1, r2, r3, r4⟩ := q7; first | omega | (have r5 := r2 (by omega); omega))).symm)), (by first | (intro h; exact absurd h (by decide)) | (intro _; rw [hu, List.take_of_length_le (by have := hd.2.2.2; omega)])), (by first | (intro h; exact absurd h (by decide)) | (intro _ t; have h9 := hw t; have h8 := hd.2.2.2; omega))⟩⟩
                    · skip
                      refine vp_skip ?_
                      refine vp_region ?_
                      refine vpOps_pure (x := .lv 2 []) (pure_move_lv rfl) rfl rfl rfl rfl ?_
                      refine vpOps_pure (x := .rbox [.v (.int .i16 k.field), .sh 1 (k.values.map i64c), .sh 1 (k.next.map i16c), .sh 1 (k.cards.map i64c)]) (pMv rfl rfl rfl) rfl rfl rfl rfl ?_
                      refine vpOps_pure (x := .rbox [.v (.int .i16 k.field), .sh 1 (k.values.map i64c), .sh 1 (k.next.map i16c), .sh 1 (k.cards.map i64c)]) (pure_nil_flat rfl rfl) rfl rfl rfl rfl ?_
                      refine vpOps_pure (x := .rbox [.sh 1 (k.next.map i16c), .sh 1 (k.cards.map i64c)]) (pure_field_rbox rfl rfl rfl rfl) rfl rfl rfl rfl ?_
                      refine vpOps_pure (x := .sh 1 (k.next.map i16c)) (pure_load_rbox rfl rfl rfl) rfl rfl rfl rfl ?_
                      refine vpOps_pure (x := .v (.int .i64 ((i : Nat) : Int))) (pMv rfl rfl rfl) rfl rfl rfl rfl ?_
                      refine vpOps_pure (x := .rbox [.v (.int .i16 (k.next.getD i default))]) (pIx (m := i) rfl rfl rfl (by first | rfl | omega) (by omega) rfl) rfl rfl rfl rfl ?_
                      refine vpOps_pure (x := .v (.int .i16 (k.next.getD i default))) (pure_load_rbox rfl rfl rfl) rfl rfl rfl rfl ?_
                      refine vpOps_pure (x := .pl 2 [⟨(k.next.getD i default).toNat, 0, 1⟩]) (pIxR (m := (k.next.getD i default).toNat) rfl rfl rfl rfl rfl rfl (by first | rfl | omega) (by rw [List.length_map]; omega) rfl) rfl rfl rfl rfl ?_
                      refine vpOps_pure (x := .v (.int .i64 (s.getD ((k.next.getD i default).toNat) default))) (pure_load_pl rfl rfl rfl rfl rfl (row_map (by omega)) rfl trivial rfl) rfl rfl rfl rfl ?_
                      have hwi := hw (k.next.getD i default).toNat
                      refine vpOps_pure (x := .v (.int .i64 ((s.getD ((k.next.getD i default).toNat) default) + 1))) (pure_add rfl rfl rfl (in64 (by omega) (by omega))) rfl rfl rfl rfl ?_
                      refine vpOps_pure (x := .pl 2 [⟨(k.next.getD i default).toNat, 0, 1⟩]) (pIxR (m := (k.next.getD i default).toNat) rfl rfl rfl rfl rfl rfl (by first | rfl | omega) (by rw [List.length_map]; omega) rfl) rfl rfl rfl rfl ?_
                      refine vSt (f := i64c) (xs := s) (x := .v (.int .i64 ((s.getD ((k.next.getD i default).toNat) default) + 1))) (x' := (s.getD ((k.next.getD i default).toNat) default) + 1) rfl rfl rfl rfl rfl rfl rfl rfl rfl rfl (by omega) (Nat.le_of_ble_eq_true rfl) rfl ?_
                      refine vpOps_nil ?_
                      refine vp_region ?_
                      refine vpOps_pure (x := .v (.int .i64 ((i : Nat) : Int))) (pMv rfl rfl rfl) rfl rfl rfl rfl ?_
                      refine vpOps_pure (x := .v (.int .i64 (((i : Nat) : Int) + 1))) (pure_add rfl rfl rfl (in64 (by omega) (by omega))) rfl rfl rfl rfl ?_
                      refine vpOps_pure (x := .v (.int .i64 (((i : Nat) : Int) + 1))) (pAs rfl rfl rfl) rfl rfl rfl rfl ?_
                      refine vpOps_nil ?_
                      exact ⟨(i + 1, s.set ((k.next.getD i default).toNat) ((s.getD ((k.next.getD i default).toNat) default) + 1)), (by first | omega | (dsimp only; omega)), ⟨(by omega), (by rw [List.length_set]; assumption), (by assumption), (by intro j hj; rcases Nat.lt_or_ge j i with hji | hji; exact hA j hji; rw [show j = i by omega]; refine ⟨by omega, ?_, by omega, by omega⟩; first | (intro hj0; omega) | (intro hj0; assumption)), (by rw [bump_step _ _ (by omega), ← hu]; rfl), (by intro t; have := bump1_bound hw t (t := k.next.getD i default); unfold bump1 at this; omega), trivial⟩, ⟨rfl, rfl, rfl, rfl, trivial⟩⟩
            · skip
              refine vp_exit ?_
              refine vp_seq ?_
              refine vp_region ?_
              refine vpOps_pure (x := .v (.bool (true))) (pAs rfl rfl rfl) rfl rfl rfl rfl ?_
              refine vpOps_nil ?_
              refine vp_ret ?_
              exact ⟨[.v (.bool (true))], [6], (.cons (.tmp rfl rfl) .nil), rfl, ⟨true, s, (show (.v (.bool (true)) : PV) = .v (.bool (true)) from rfl), rfl, (by first | rfl | assumption | (rw [List.length_set]; assumption)), (by first | (exact (decide_eq_true ⟨hd, fun j hj => hA j (by omega)⟩).symm) | (exact (decide_eq_false (fun h => by obtain ⟨⟨⟨q1, q2⟩, q3, q4, q5⟩, q6⟩ := h; have q8 : k.cards.length = 0 := (by rw [q3, List.length_nil]); have q9 : k.values.length ≠ 0 := (fun e => q4 (List.length_eq_zero_iff.1 e)); omega)).symm) | (exact (decide_eq_false (fun h => by obtain ⟨⟨⟨q1, q2⟩, q3, q4, q5⟩, q6⟩ := h; have q8 : k.cards.length = 0 := (by rw [q3, List.length_nil]); have q9 : k.values.length ≠ 0 := (fun e => q4 (List.length_eq_zero_iff.1 e)); have q7 := q6 i (by omega); obtain ⟨r1, r2, r3, r4⟩ := q7; first | omega | (have r5 := r2 (by omega); omega))).symm)), (by first | (intro h; exact absurd h (by decide)) | (intro _; rw [hu, List.take_of_length_le (by have := hd.2.2.2; omega)])), (by first | (intro h; exact absurd h (by decide)) | (intro _ t; have h9 := hw t; have h8 := hd.2.2.2; omega))⟩⟩

/-- spec.l06Ok -/
theorem c_l06Ok {G : World → Prop} (ks : List Knot) (hk : ∀ k ∈ ks, k.ok) (hn : ks.length ≤ 1048576) : CallsV Tryd.prog G 10 [.sh 4 (ks.map knotc)] (fun r outs => r = .v (.bool (decide (treeOk ks))) ∧ outs = [.junk]) := by
  refine callsV_enter [] Tryd.func10 rfl rfl rfl ?_
  refine vp_seq ?_
  refine vp_region ?_
  refine vpOps_pure (x := .v (.bool (false))) (pAs rfl rfl rfl) rfl rfl rfl rfl ?_
  refine vpOps_nil ?_
  refine vp_seq ?_
  refine vp_seq ?_
  refine vp_region ?_
  refine vpOps_pure (x := .sh 4 (ks.map knotc)) (pMv rfl rfl rfl) rfl rfl rfl rfl ?_
  refine vpOps_pure (x := .v (.int .i64 ((ks.length : Nat) : Int))) (pLen rfl rfl (List.length_map _)) rfl rfl rfl rfl ?_
  refine vpOps_call (gs := [⟨.tmp 7, .v (.int .i64 ((ks.length : Nat) : Int)), none, none⟩, ⟨.const (.int .i64 1), .v (.int .i64 1), none, none⟩, ⟨.const (.int .i64 120), .v (.int .i64 120), none, none⟩]) (c_l00In ((ks.length : Nat) : Int) 1 120 ) rfl rfl rfl rfl rfl trivial (by kernel_rfl) rfl rfl (gives_cons (gC rfl rfl) (gives_cons (gC rfl rfl) (gives_cons (gC rfl rfl) gives_nil))) rfl (fun _ _ _ => .inl rfl) ?_
  rintro _ _ ⟨rfl, rfl⟩
  refine vpOps_pure (x := .v (.bool (!decide (1 ≤ ((ks.length : Nat) : Int) ∧ ((ks.length : Nat) : Int) ≤ 120)))) (pure_not rfl rfl) rfl rfl rfl rfl ?_
  refine vpOps_nil ?_
  refine vIfN rfl (fun h1 => ?_) (fun h1 => ?_)
  · skip
    refine vp_seq ?_
    refine vp_region ?_
    refine vpOps_pure (x := .v (.bool (false))) (pAs rfl rfl rfl) rfl rfl rfl rfl ?_
    refine vpOps_nil ?_
    refine vp_ret ?_
    exact ⟨[.v (.bool (false))], [2], (.cons (.tmp rfl rfl) .nil), rfl, ⟨(show (.v (.bool (false)) : PV) = .v (.bool (decide (treeOk ks))) from (by first | exact dec_f (fun h => by obtain ⟨h1, h2, h3⟩ := h; omega) | exact dec_f (fun h => by have q := h.2.1 i (by omega); rw [kOk, if_pos (by assumption)] at q; contradiction) | exact dec_f (fun h => by have q := h.2.1 i (by omega); rw [kOk, if_neg (by assumption)] at q; simp_all; done) | exact dec_f (fun h => by have q := h.2.2 j (by omega); rw [show ks.length = i by omega, ← hu] at q; contradiction) | exact dec_t ⟨hd, fun j hj => hA j (by omega), fun m hm => by rw [show ks.length = i by omega, ← hu]; exact hJ m (by omega)⟩)), rfl⟩⟩
  · skip
    refine vp_skip ?_
    refine vp_seq ?_
    refine vp_region ?_
    refine vpOps_pure (x := .sh 4 (ks.map knotc)) (pMv rfl rfl rfl) rfl rfl rfl rfl ?_
    refine vpOps_pure (x := .v (.int .i64 ((ks.length : Nat) : Int))) (pLen rfl rfl (List.length_map _)) rfl rfl rfl rfl ?_
    refine vpOps_pure (x := .own 1 ((List.replicate ks.length 0).map i64c)) (pMkM (m := ks.length) rfl rfl rfl (by first | rfl | omega) (by omega) (by omega) rfl rfl (map_rep rfl)) rfl rfl rfl rfl ?_
    refine vpOps_assign rfl rfl rfl rfl rfl rfl rfl ?_
    refine vpOps_nil ?_
    refine vp_seq ?_
    refine vp_region ?_
    refine vpOps_pure (x := .lv 3 []) (pure_move_lv rfl) rfl rfl rfl rfl ?_
    have hrl : (List.replicate ks.length (0 : Int)).length = ks.length := List.length_replicate
    refine vpOps_pure (x := .pl 3 [⟨0, 0, 1⟩]) (pIxR (m := 0) rfl rfl rfl rfl rfl rfl (by first | rfl | omega) (by rw [List.length_map]; omega) rfl) rfl rfl rfl rfl ?_
    refine vSt (f := i64c) (xs := (List.replicate ks.length 0)) (x := .v (.int .i64 1)) (x' := 1) rfl rfl rfl rfl rfl rfl rfl rfl rfl rfl (by omega) (Nat.le_of_ble_eq_true rfl) rfl ?_
    refine vpOps_nil ?_
    refine vp_seq ?_
    refine vp_seq ?_
    refine vp_region ?_
    refine vpOps_pure (x := .v (.int .i64 0)) (pAs rfl rfl rfl) rfl rfl rfl rfl ?_
    refine vpOps_nil ?_
    refine vp_block ?_
    refine vLoop (α := Nat × List Int) (fun (i, s) => ks.length - i) (fun (i, s) => (i ≤ ks.length) ∧ (s.length = ks.length) ∧ (∀ j, j < i → kOk ks j) ∧ (s = seenTo ks i) ∧ (∀ t, 0 ≤ s.getD t default ∧ s.getD t default ≤ 1 + 1048576 * i) ∧ (1 ≤ (ks.length : Int) ∧ (ks.length : Int) ≤ 120) ∧ True) (fun (i, s) => [(0, .sh 4 (ks.map knotc)), (3, .own 1 (s.map i64c)), (4, .v (.int .i64 ((i : Nat) : Int)))]) (fun ⟨_, _⟩ => rfl) (fun ⟨_, _⟩ => rfl) (0, (List.replicate ks.length 0).set 0 1) ⟨(by omega), (by rw [List.length_set, List.length_replicate]), (by intro j hj; omega), (by rfl), (by intro t; have := seen0_bound ks.length t; omega), (by first | assumption | omega), trivial⟩ ⟨rfl, rfl, rfl, trivial⟩ ?_
    rintro ⟨i, s⟩ ⟨hi, hsl, hA, hu, hw, hd, -⟩
    have hki := getD_of hk Knot.ok_default i
    have hni := hki.n
    refine vp_seq ?_
    refine vp_seq ?_
    refine vp_region ?_
    refine vpOps_pure (x := .v (.int .i64 ((i : Nat) : Int))) (pMv rfl rfl rfl) rfl rfl rfl rfl ?_
    refine vpOps_pure (x := .sh 4 (ks.map knotc)) (pMv rfl rfl rfl) rfl rfl rfl rfl ?_
    refine vpOps_pure (x := .v (.int .i64 ((ks.length : Nat) : Int))) (pLen rfl rfl (List.length_map _)) rfl rfl rfl rfl ?_
    refine vpOps_pure (x := .v (.bool (decide (((i : Nat) : Int) < ((ks.length : Nat) : Int))))) (pure_bin rfl rfl rfl rfl) rfl rfl rfl rfl ?_
    refine vpOps_nil ?_
    refine vIf rfl (fun h2 => ?_) (fun h2 => ?_)
    · skip
      refine vp_skip ?_
      refine vp_seq ?_
      refine vp_block ?_
      refine vp_seq ?_
      refine vp_region ?_
      refine vpOps_pure (x := .sh 4 (ks.map knotc)) (pMv rfl rfl rfl) rfl rfl rfl rfl ?_
      refine vpOps_pure (x := .v (.int .i64 ((i : Nat) : Int))) (pMv rfl rfl rfl) rfl rfl rfl rfl ?_
      refine vpOps_pure (x := .rbox [.v (.int .i16 ((ks.getD i default).field)), .sh 1 (((ks.getD i default).values).map i64c), .sh 1 (((ks.getD i default).next).map i16c), .sh 1 (((ks.getD i default).cards).map i64c)]) (pIx (m := i) rfl rfl rfl (by first | rfl | omega) (by omega) rfl) rfl rfl rfl rfl ?_
      refine vpOps_pure (x := .rbox [.v (.int .i16 ((ks.getD i default).field)), .sh 1 (((ks.getD i default).values).map i64c), .sh 1 (((ks.getD i default).next).map i16c), .sh 1 (((ks.getD i default).cards).map i64c)]) (pure_field_rbox rfl rfl rfl rfl) rfl rfl rfl rfl ?_
      refine vpOps_pure (x := .v (.int .i16 ((ks.getD i default).field))) (pure_load_rbox rfl rfl rfl) rfl rfl rfl rfl ?_
      refine vpOps_pure (x := .v (.bool (decide (((ks.getD i default).field) = (-1))))) (pure_bin rfl rfl rfl rfl) rfl rfl rfl rfl ?_
      refine vpOps_nil ?_
      refine vIf rfl (fun h3 => ?_) (fun h3 => ?_)
      · skip
        refine vp_seq ?_
        refine vp_region ?_
        refine vpOps_pure (x := .sh 4 (ks.map knotc)) (pMv rfl rfl rfl) rfl rfl rfl rfl ?_
        refine vpOps_pure (x := .v (.int .i64 ((i : Nat) : Int))) (pMv rfl rfl rfl) rfl rfl rfl rfl ?_
        refine vpOps_pure (x := .rbox [.v (.int .i16 ((ks.getD i default).field)), .sh 1 (((ks.getD i default).values).map i64c), .sh 1 (((ks.getD i default).next).map i16c), .sh 1 (((ks.getD i default).cards).map i64c)]) (pIx (m := i) rfl rfl rfl (by first | rfl | omega) (by omega) rfl) rfl rfl rfl rfl ?_
        refine vpOps_call (gs := [⟨.tmp 29, .rbox [.v (.int .i16 ((ks.getD i default).field)), .sh 1 (((ks.getD i default).values).map i64c), .sh 1 (((ks.getD i default).next).map i16c), .sh 1 (((ks.getD i default).cards).map i64c)], none, none⟩]) (c_l06Leaf (ks.getD i default) (by first | assumption | exact getD_of hk Knot.ok_default _ | omega)) rfl rfl rfl rfl rfl trivial (by kernel_rfl) rfl rfl (gives_cons (gC rfl rfl) gives_nil) rfl (fun _ _ _ => .inl rfl) ?_
        rintro _ _ ⟨rfl, rfl⟩
        refine vpOps_pure (x := .v (.bool (!decide (leafOk (ks.getD i default))))) (pure_not rfl rfl) rfl rfl rfl rfl ?_
        refine vpOps_nil ?_
        refine vIfN rfl (fun h4 => ?_) (fun h4 => ?_)
        · skip
          refine vp_seq ?_
          refine vp_region ?_
          refine vpOps_pure (x := .v (.bool (false))) (pAs rfl rfl rfl) rfl rfl rfl rfl ?_
          refine vpOps_nil ?_
          refine vp_ret ?_
          exact ⟨[.v (.bool (false))], [2], (.cons (.tmp rfl rfl) .nil), rfl, ⟨(show (.v (.bool (false)) : PV) = .v (.bool (decide (treeOk ks))) from (by first | exact dec_f (fun h => by obtain ⟨h1, h2, h3⟩ := h; omega) | exact dec_f (fun h => by have q := h.2.1 i (by omega); rw [kOk, if_pos (by assumption)] at q; contradiction) | exact dec_f (fun h => by have q := h.2.1 i (by omega); rw [kOk, if_neg (by assumption)] at q; simp_all; done) | exact dec_f (fun h => by have q := h.2.2 j (by omega); rw [show ks.length = i by omega, ← hu] at q; contradiction) | exact dec_t ⟨hd, fun j hj => hA j (by omega), fun m hm => by rw [show ks.length = i by omega, ← hu]; exact hJ m (by omega)⟩)), rfl⟩⟩
        · skip
          refine vp_skip ?_
          refine vp_region ?_
          refine vpOps_pure (x := .v (.int .i64 ((i : Nat) : Int))) (pMv rfl rfl rfl) rfl rfl rfl rfl ?_
          refine vpOps_pure (x := .v (.int .i64 (((i : Nat) : Int) + 1))) (pure_add rfl rfl rfl (in64 (by omega) (by omega))) rfl rfl rfl rfl ?_
          refine vpOps_pure (x := .v (.int .i64 (((i : Nat) : Int) + 1))) (pAs rfl rfl rfl) rfl rfl rfl rfl ?_
          refine vpOps_nil ?_
          exact ⟨(i + 1, s), (by first | omega | (dsimp only; omega)), ⟨(by omega), (by omega), (by intro j hj; rcases Nat.lt_or_ge j i with hji | hji; exact hA j hji; rw [show j = i by omega, kOk]; first | (rw [if_pos (by assumption)]; assumption) | (rw [if_neg (by assumption)]; simp_all; done)), (by rw [seenTo]; first | (rw [if_pos (by assumption)]; assumption) | (rw [if_neg (by assumption), ← hu]; simp_all; done)), (by first | (intro t; have := hw t; omega) | (intro t; have := hm_3 (by assumption) t; omega)), (by first | assumption | omega), trivial⟩, ⟨rfl, rfl, rfl, trivial⟩⟩
      · skip
        refine vp_seq ?_
        refine vp_region ?_
        refine vpOps_pure (x := .sh 4 (ks.map knotc)) (pMv rfl rfl rfl) rfl rfl rfl rfl ?_
        refine vpOps_pure (x := .v (.int .i64 ((i : Nat) : Int))) (pMv rfl rfl rfl) rfl rfl rfl rfl ?_
        refine vpOps_pure (x := .rbox [.v (.int .i16 ((ks.getD i default).field)), .sh 1 (((ks.getD i default).values).map i64c), .sh 1 (((ks.getD i default).next).map i16c), .sh 1 (((ks.getD i default).cards).map i64c)]) (pIx (m := i) rfl rfl rfl (by first | rfl | omega) (by omega) rfl) rfl rfl rfl rfl ?_
        refine vpOps_pure (x := .v (.int .i64 ((i : Nat) : Int))) (pMv rfl rfl rfl) rfl rfl rfl rfl ?_
        refine vpOps_pure (x := .lv 3 []) (pure_move_lv rfl) rfl rfl rfl rfl ?_
        refine vpOps_call (gs := [⟨.tmp 34, .rbox [.v (.int .i16 ((ks.getD i default).field)), .sh 1 (((ks.getD i default).values).map i64c), .sh 1 (((ks.getD i default).next).map i16c), .sh 1 (((ks.getD i default).cards).map i64c)], none, none⟩, ⟨.tmp 35, .v (.int .i64 ((i : Nat) : Int)), none, none⟩, ⟨.tmp 36, .own 1 (s.map i64c), some (3, id), none⟩]) (c_l06Asker (ks.getD i default) ((i : Nat) : Int) s (1 + 1048576 * ((i : Nat) : Int)) (by first | assumption | exact getD_of hk Knot.ok_default _ | omega) (by first | assumption | exact getD_of hk Knot.ok_default _ | omega) (by first | assumption | exact getD_of hk Knot.ok_default _ | omega) (by first | assumption | exact getD_of hk Knot.ok_default _ | omega) (by first | assumption | exact getD_of hk Knot.ok_default _ | omega)) rfl rfl rfl rfl rfl trivial (by kernel_rfl) rfl rfl (gives_cons (gC rfl rfl) (gives_cons (gC rfl rfl) (gives_cons (give_lendLv rfl rfl rfl) gives_nil))) rfl (fun _ _ _ => .inl rfl) ?_
        rintro _ _ ⟨b_3, out_3, rfl, rfl, hl_3, hB_3, ho_3, hm_3⟩
        refine vpOps_pure (x := .v (.bool (!b_3))) (pure_not rfl rfl) rfl rfl rfl rfl ?_
        refine vpOps_nil ?_
        refine vIfBN rfl (fun h5 => ?_) (fun h5 => ?_)
        · skip
          refine vp_seq ?_
          refine vp_region ?_
          refine vpOps_pure (x := .v (.bool (false))) (pAs rfl rfl rfl) rfl rfl rfl rfl ?_
          refine vpOps_nil ?_
          refine vp_ret ?_
          exact ⟨[.v (.bool (false))], [2], (.cons (.tmp rfl rfl) .nil), rfl, ⟨(show (.v (.bool (false)) : PV) = .v (.bool (decide (treeOk ks))) from (by first | exact dec_f (fun h => by obtain ⟨h1, h2, h3⟩ := h; omega) | exact dec_f (fun h => by have q := h.2.1 i (by omega); rw [kOk, if_pos (by assumption)] at q; contradiction) | exact dec_f (fun h => by have q := h.2.1 i (by omega); rw [kOk, if_neg (by assumption)] at q; simp_all; done) | exact dec_f (fun h => by have q := h.2.2 j (by omega); rw [show ks.length = i by omega, ← hu] at q; contradiction) | exact dec_t ⟨hd, fun j hj => hA j (by omega), fun m hm => by rw [show ks.length = i by omega, ← hu]; exact hJ m (by omega)⟩)), rfl⟩⟩
        · skip
          refine vp_skip ?_
          refine vp_region ?_
          refine vpOps_pure (x := .v (.int .i64 ((i : Nat) : Int))) (pMv rfl rfl rfl) rfl rfl rfl rfl ?_
          refine vpOps_pure (x := .v (.int .i64 (((i : Nat) : Int) + 1))) (pure_add rfl rfl rfl (in64 (by omega) (by omega))) rfl rfl rfl rfl ?_
          refine vpOps_pure (x := .v (.int .i64 (((i : Nat) : Int) + 1))) (pAs rfl rfl rfl) rfl rfl rfl rfl ?_
          refine vpOps_nil ?_
          exact ⟨(i + 1, out_3), (by first | omega | (dsimp only; omega)), ⟨(by omega), (by omega), (by intro j hj; rcases Nat.lt_or_ge j i with hji | hji; exact hA j hji; rw [show j = i by omega, kOk]; first | (rw [if_pos (by assumption)]; assumption) | (rw [if_neg (by assumption)]; simp_all; done)), (by rw [seenTo]; first | (rw [if_pos (by assumption)]; assumption) | (rw [if_neg (by assumption), ← hu]; simp_all; done)), (by first | (intro t; have := hw t; omega) | (intro t; have := hm_3 (by assumption) t; omega)), (by first | assumption | omega), trivial⟩, ⟨rfl, rfl, rfl, trivial⟩⟩
    · skip
      refine vp_exit ?_
      refine vp_seq ?_
      refine vp_seq ?_
      refine vp_region ?_
      refine vpOps_pure (x := .v (.int .i64 0)) (pAs rfl rfl rfl) rfl rfl rfl rfl ?_
      refine vpOps_nil ?_
      refine vp_block ?_
      refine vLoop (α := Nat) (fun j => ks.length - j) (fun j => (j ≤ ks.length) ∧ (∀ m, m < j → s.getD m default = 1) ∧ True) (fun j => [(0, .sh 4 (ks.map knotc)), (3, .own 1 (s.map i64c)), (4, .v (.int .i64 ((i : Nat) : Int))), (5, .v (.int .i64 ((j : Nat) : Int)))]) (fun _ => rfl) (fun _ => rfl) 0 ⟨(by omega), (by intro m hm; omega), trivial⟩ ⟨rfl, rfl, rfl, rfl, trivial⟩ ?_
      rintro j ⟨hj, hJ, -⟩
      refine vp_seq ?_
      refine vp_seq ?_
      refine vp_region ?_
      refine vpOps_pure (x := .v (.int .i64 ((j : Nat) : Int))) (pMv rfl rfl rfl) rfl rfl rfl rfl ?_
      refine vpOps_pure (x := .lv 3 []) (pure_move_lv rfl) rfl rfl rfl rfl ?_
      refine vpOps_pure (x := .v (.int .i64 ((s.length : Nat) : Int))) (pLenR rfl rfl rfl rfl rfl (List.length_map _)) rfl rfl rfl rfl ?_
      refine vpOps_pure (x := .v (.bool (decide (((j : Nat) : Int) < ((s.length : Nat) : Int))))) (pure_bin rfl rfl rfl rfl) rfl rfl rfl rfl ?_
      refine vpOps_nil ?_
      refine vIf rfl (fun h6 => ?_) (fun h6 => ?_)
      · skip
        refine vp_skip ?_
        refine vp_seq ?_
        refine vp_block ?_
        refine vp_seq ?_
        refine vp_region ?_
        refine vpOps_pure (x := .lv 3 []) (pure_move_lv rfl) rfl rfl rfl rfl ?_
        refine vpOps_pure (x := .v (.int .i64 ((j : Nat) : Int))) (pMv rfl rfl rfl) rfl rfl rfl rfl ?_
        refine vpOps_pure (x := .pl 3 [⟨j, 0, 1⟩]) (pIxR (m := j) rfl rfl rfl rfl rfl rfl (by first | rfl | omega) (by rw [List.length_map]; omega) rfl) rfl rfl rfl rfl ?_
        refine vpOps_pure (x := .v (.int .i64 (s.getD j default))) (pure_load_pl rfl rfl rfl rfl rfl (row_map (by omega)) rfl trivial rfl) rfl rfl rfl rfl ?_
        refine vpOps_pure (x := .v (.bool (!decide ((s.getD j default) = 1)))) (pure_bin rfl rfl rfl rfl) rfl rfl rfl rfl ?_
        refine vpOps_nil ?_
        refine vIfN rfl (fun h7 => ?_) (fun h7 => ?_)
        · skip
          refine vp_seq ?_
          refine vp_region ?_
          refine vpOps_pure (x := .v (.bool (false))) (pAs rfl rfl rfl) rfl rfl rfl rfl ?_
          refine vpOps_nil ?_
          refine vp_ret ?_
          exact ⟨[.v (.bool (false))], [2], (.cons (.tmp rfl rfl) .nil), rfl, ⟨(show (.v (.bool (false)) : PV) = .v (.bool (decide (treeOk ks))) from (by first | exact dec_f (fun h => by obtain ⟨h1, h2, h3⟩ := h; omega) | exact dec_f (fun h => by have q := h.2.1 i (by omega); rw [kOk, if_pos (by assumption)] at q; contradiction) | exact dec_f (fun h => by have q := h.2.1 i (by omega); rw [kOk, if_neg (by assumption)] at q; simp_all; done) | exact dec_f (fun h => by have q := h.2.2 j (by omega); rw [show ks.length = i by omega, ← hu] at q; contradiction) | exact dec_t ⟨hd, fun j hj => hA j (by omega), fun m hm => by rw [show ks.length = i by omega, ← hu]; exact hJ m (by omega)⟩)), rfl⟩⟩
        · skip
          refine vp_skip ?_
          refine vp_region ?_
          refine vpOps_pure (x := .v (.int .i64 ((j : Nat) : Int))) (pMv rfl rfl rfl) rfl rfl rfl rfl ?_
          refine vpOps_pure (x := .v (.int .i64 (((j : Nat) : Int) + 1))) (pure_add rfl rfl rfl (in64 (by omega) (by omega))) rfl rfl rfl rfl ?_
          refine vpOps_pure (x := .v (.int .i64 (((j : Nat) : Int) + 1))) (pAs rfl rfl rfl) rfl rfl rfl rfl ?_
          refine vpOps_nil ?_
          exact ⟨j + 1, (by first | omega | (dsimp only; omega)), ⟨(by omega), (by intro m hm; rcases Nat.lt_or_ge m j with h | h; exact hJ m h; rw [show m = j by omega]; assumption), trivial⟩, ⟨rfl, rfl, rfl, rfl, trivial⟩⟩
      · skip
        refine vp_exit ?_
        refine vp_seq ?_
        refine vp_region ?_
        refine vpOps_pure (x := .v (.bool (true))) (pAs rfl rfl rfl) rfl rfl rfl rfl ?_
        refine vpOps_nil ?_
        refine vp_ret ?_
        exact ⟨[.v (.bool (true))], [2], (.cons (.tmp rfl rfl) .nil), rfl, ⟨(show (.v (.bool (true)) : PV) = .v (.bool (decide (treeOk ks))) from (by first | exact dec_f (fun h => by obtain ⟨h1, h2, h3⟩ := h; omega) | exact dec_f (fun h => by have q := h.2.1 i (by omega); rw [kOk, if_pos (by assumption)] at q; contradiction) | exact dec_f (fun h => by have q := h.2.1 i (by omega); rw [kOk, if_neg (by assumption)] at q; simp_all; done) | exact dec_f (fun h => by have q := h.2.2 j (by omega); rw [show ks.length = i by omega, ← hu] at q; contradiction) | exact dec_t ⟨hd, fun j hj => hA j (by omega), fun m hm => by rw [show ks.length = i by omega, ← hu]; exact hJ m (by omega)⟩)), rfl⟩⟩

end Go.Vr
