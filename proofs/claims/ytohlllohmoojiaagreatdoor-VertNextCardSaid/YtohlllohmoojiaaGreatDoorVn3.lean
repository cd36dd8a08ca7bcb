/- What an operation on vertices asks next, or answers, is as the document says, whatever it was told. (Part 3 of 10.) -/
import Derived.Test.YtohlllohmoojiaaGreatDoorVn2
import Derived.Laws.BitsAllLaws
namespace Go.Proofs.YtohlllohmoojiaaGreatDoor
open Go Go.RowKit
set_option maxRecDepth 100000
set_option maxHeartbeats 16000000
section
set_option maxRecDepth 100000
instance ty3 : TyA Tryz.prog 3 false 1 := ⟨fun _ => by kernel_rfl, fun _ => by kernel_rfl⟩
instance un3 : Und Tryz.prog 3 (.int .i64) := ⟨Tryz.underlying3⟩
instance ze3 : ZeroA Tryz.prog 3 (Value.int .i64 0) := ⟨fun _ => by kernel_rfl⟩
instance ty4 : TyA Tryz.prog 4 false 1 := ⟨fun _ => by kernel_rfl, fun _ => by kernel_rfl⟩
instance un4 : Und Tryz.prog 4 (.bool) := ⟨Tryz.underlying4⟩
instance ze4 : ZeroA Tryz.prog 4 (Value.bool false) := ⟨fun _ => by kernel_rfl⟩
instance ty5 : TyA Tryz.prog 5 false 1 := ⟨fun _ => by kernel_rfl, fun _ => by kernel_rfl⟩
instance un5 : Und Tryz.prog 5 (.int .u8) := ⟨Tryz.underlying5⟩
instance in5 : InfoA Tryz.prog 5 (Value.int .u8 0) 1 1 := ⟨by kernel_rfl⟩
instance un9 : Und Tryz.prog 9 (.string) := ⟨Tryz.underlying9⟩
instance ty22 : TyA Tryz.prog 22 false 1 := ⟨fun _ => by kernel_rfl, fun _ => by kernel_rfl⟩
instance un22 : Und Tryz.prog 22 (.int .u64) := ⟨Tryz.underlying22⟩
instance ze22 : ZeroA Tryz.prog 22 (Value.int .u64 0) := ⟨fun _ => by kernel_rfl⟩
instance in22 : InfoA Tryz.prog 22 (Value.int .u64 0) 1 8 := ⟨by kernel_rfl⟩
instance ty24 : TyA Tryz.prog 24 true 4 := ⟨fun _ => by kernel_rfl, fun _ => by kernel_rfl⟩
instance bu24 : BuildA Tryz.prog 24 [(0, 1), (1, 1), (2, 1), (3, 1)] := ⟨by kernel_rfl, by kernel_rfl⟩
instance fi24_0 : FieldA Tryz.prog 24 0 0 := ⟨fun _ _ _ => by kernel_rfl⟩
instance fi24_1 : FieldA Tryz.prog 24 1 1 := ⟨fun _ _ _ => by kernel_rfl⟩
instance ze24 : ZeroA Tryz.prog 24 (Value.agg #[Value.int .i64 0, Value.int .i64 0, Value.int .i64 0, Value.int .u64 0]) := ⟨fun _ => by kernel_rfl⟩
instance ty25 : TyA Tryz.prog 25 false 1 := ⟨fun _ => by kernel_rfl, fun _ => by kernel_rfl⟩
instance un25 : Und Tryz.prog 25 (.slice 125) := ⟨Tryz.underlying25⟩
instance ty31 : TyA Tryz.prog 31 false 1 := ⟨fun _ => by kernel_rfl, fun _ => by kernel_rfl⟩
instance un31 : Und Tryz.prog 31 (.slice 5) := ⟨Tryz.underlying31⟩
instance ty32 : TyA Tryz.prog 32 false 1 := ⟨fun _ => by kernel_rfl, fun _ => by kernel_rfl⟩
instance un32 : Und Tryz.prog 32 (.slice 22) := ⟨Tryz.underlying32⟩
instance ty34 : TyA Tryz.prog 34 true 6 := ⟨fun _ => by kernel_rfl, fun _ => by kernel_rfl⟩
instance bu34 : BuildA Tryz.prog 34 [(0, 1), (1, 1), (2, 1), (3, 1), (4, 1), (5, 1)] := ⟨by kernel_rfl, by kernel_rfl⟩
instance fi34_0 : FieldA Tryz.prog 34 0 0 := ⟨fun _ _ _ => by kernel_rfl⟩
instance fi34_1 : FieldA Tryz.prog 34 1 1 := ⟨fun _ _ _ => by kernel_rfl⟩
instance fi34_2 : FieldA Tryz.prog 34 2 2 := ⟨fun _ _ _ => by kernel_rfl⟩
instance fi34_3 : FieldA Tryz.prog 34 3 3 := ⟨fun _ _ _ => by kernel_rfl⟩
instance fi34_4 : FieldA Tryz.prog 34 4 4 := ⟨fun _ _ _ => by kernel_rfl⟩
instance fi34_5 : FieldA Tryz.prog 34 5 5 := ⟨fun _ _ _ => by kernel_rfl⟩
instance ze34 : ZeroA Tryz.prog 34 (Value.agg #[Value.int .i64 0, Value.int .i64 0, Value.int .u64 0, Value.int .u64 0, Value.slice none 0 0, Value.slice none 0 0]) := ⟨fun _ => by kernel_rfl⟩
instance in34 : InfoA Tryz.prog 34 (Value.agg #[Value.int .i64 0, Value.int .i64 0, Value.int .u64 0, Value.int .u64 0, Value.slice none 0 0, Value.slice none 0 0]) 6 80 := ⟨by kernel_rfl⟩
instance ty35 : TyA Tryz.prog 35 false 1 := ⟨fun _ => by kernel_rfl, fun _ => by kernel_rfl⟩
instance ty36 : TyA Tryz.prog 36 false 1 := ⟨fun _ => by kernel_rfl, fun _ => by kernel_rfl⟩
instance un36 : Und Tryz.prog 36 (.slice 3) := ⟨Tryz.underlying36⟩
instance ty38 : TyA Tryz.prog 38 true 5 := ⟨fun _ => by kernel_rfl, fun _ => by kernel_rfl⟩
instance bu38 : BuildA Tryz.prog 38 [(0, 1), (1, 1), (2, 1), (3, 1), (4, 1)] := ⟨by kernel_rfl, by kernel_rfl⟩
instance fi38_0 : FieldA Tryz.prog 38 0 0 := ⟨fun _ _ _ => by kernel_rfl⟩
instance fi38_1 : FieldA Tryz.prog 38 1 1 := ⟨fun _ _ _ => by kernel_rfl⟩
instance fi38_2 : FieldA Tryz.prog 38 2 2 := ⟨fun _ _ _ => by kernel_rfl⟩
instance fi38_3 : FieldA Tryz.prog 38 3 3 := ⟨fun _ _ _ => by kernel_rfl⟩
instance fi38_4 : FieldA Tryz.prog 38 4 4 := ⟨fun _ _ _ => by kernel_rfl⟩
instance ze38 : ZeroA Tryz.prog 38 (Value.agg #[Value.int .i64 0, Value.bool false, Value.int .i64 0, Value.int .u64 0, Value.slice none 0 0]) := ⟨fun _ => by kernel_rfl⟩
instance fi45_0 : FieldA Tryz.prog 45 0 0 := ⟨fun _ _ _ => by kernel_rfl⟩
instance fi45_1 : FieldA Tryz.prog 45 1 1 := ⟨fun _ _ _ => by kernel_rfl⟩
instance fi45_2 : FieldA Tryz.prog 45 2 2 := ⟨fun _ _ _ => by kernel_rfl⟩
instance fi45_3 : FieldA Tryz.prog 45 3 3 := ⟨fun _ _ _ => by kernel_rfl⟩
instance fi45_4 : FieldA Tryz.prog 45 4 7 := ⟨fun _ _ _ => by kernel_rfl⟩
instance ty53 : TyA Tryz.prog 53 true 3 := ⟨fun _ => by kernel_rfl, fun _ => by kernel_rfl⟩
instance bu53 : BuildA Tryz.prog 53 [(0, 1), (1, 1), (2, 1)] := ⟨by kernel_rfl, by kernel_rfl⟩
instance fi53_0 : FieldA Tryz.prog 53 0 0 := ⟨fun _ _ _ => by kernel_rfl⟩
instance fi53_1 : FieldA Tryz.prog 53 1 1 := ⟨fun _ _ _ => by kernel_rfl⟩
instance fi53_2 : FieldA Tryz.prog 53 2 2 := ⟨fun _ _ _ => by kernel_rfl⟩
instance ze53 : ZeroA Tryz.prog 53 (Value.agg #[Value.int .i64 0, Value.int .i64 0, Value.slice none 0 0]) := ⟨fun _ => by kernel_rfl⟩
instance ty54 : TyA Tryz.prog 54 false 1 := ⟨fun _ => by kernel_rfl, fun _ => by kernel_rfl⟩
instance un54 : Und Tryz.prog 54 (.slice 236) := ⟨Tryz.underlying54⟩
instance un55 : Und Tryz.prog 55 (.array 2 54) := ⟨Tryz.underlying55⟩
instance ty57 : TyA Tryz.prog 57 true 3 := ⟨fun _ => by kernel_rfl, fun _ => by kernel_rfl⟩
instance fi57_0 : FieldA Tryz.prog 57 0 0 := ⟨fun _ _ _ => by kernel_rfl⟩
instance fi57_1 : FieldA Tryz.prog 57 1 1 := ⟨fun _ _ _ => by kernel_rfl⟩
instance ze57 : ZeroA Tryz.prog 57 (Value.agg #[Value.int .u64 0, Value.slice none 0 0, Value.slice none 0 0]) := ⟨fun _ => by kernel_rfl⟩
instance ty59 : TyA Tryz.prog 59 true 6 := ⟨fun _ => by kernel_rfl, fun _ => by kernel_rfl⟩
instance bu59 : BuildA Tryz.prog 59 [(0, 3), (3, 3)] := ⟨by kernel_rfl, by kernel_rfl⟩
instance fi59_0 : FieldA Tryz.prog 59 0 0 := ⟨fun _ _ _ => by kernel_rfl⟩
instance fi59_1 : FieldA Tryz.prog 59 1 3 := ⟨fun _ _ _ => by kernel_rfl⟩
instance ze59 : ZeroA Tryz.prog 59 (Value.agg #[Value.int .i64 0, Value.int .i64 0, Value.slice none 0 0, Value.int .u64 0, Value.slice none 0 0, Value.slice none 0 0]) := ⟨fun _ => by kernel_rfl⟩
instance ty66 : TyA Tryz.prog 66 false 1 := ⟨fun _ => by kernel_rfl, fun _ => by kernel_rfl⟩
instance ty76 : TyA Tryz.prog 76 true 9 := ⟨fun _ => by kernel_rfl, fun _ => by kernel_rfl⟩
instance bu76 : BuildA Tryz.prog 76 [(0, 1), (1, 1), (2, 1), (3, 6)] := ⟨by kernel_rfl, by kernel_rfl⟩
instance fi76_0 : FieldA Tryz.prog 76 0 0 := ⟨fun _ _ _ => by kernel_rfl⟩
instance fi76_1 : FieldA Tryz.prog 76 1 1 := ⟨fun _ _ _ => by kernel_rfl⟩
instance fi76_2 : FieldA Tryz.prog 76 2 2 := ⟨fun _ _ _ => by kernel_rfl⟩
instance fi76_3 : FieldA Tryz.prog 76 3 3 := ⟨fun _ _ _ => by kernel_rfl⟩
instance ze76 : ZeroA Tryz.prog 76 (Value.agg #[Value.slice none 0 0, Value.int .i64 0, Value.bool false, Value.int .i64 0, Value.int .i64 0, Value.int .u64 0, Value.int .u64 0, Value.slice none 0 0, Value.slice none 0 0]) := ⟨fun _ => by kernel_rfl⟩
instance ty87 : TyA Tryz.prog 87 true 4 := ⟨fun _ => by kernel_rfl, fun _ => by kernel_rfl⟩
instance bu87 : BuildA Tryz.prog 87 [(0, 1), (1, 1), (2, 1), (3, 1)] := ⟨by kernel_rfl, by kernel_rfl⟩
instance fi87_0 : FieldA Tryz.prog 87 0 0 := ⟨fun _ _ _ => by kernel_rfl⟩
instance fi87_1 : FieldA Tryz.prog 87 1 1 := ⟨fun _ _ _ => by kernel_rfl⟩
instance fi87_2 : FieldA Tryz.prog 87 2 2 := ⟨fun _ _ _ => by kernel_rfl⟩
instance fi87_3 : FieldA Tryz.prog 87 3 3 := ⟨fun _ _ _ => by kernel_rfl⟩
instance ze87 : ZeroA Tryz.prog 87 (Value.agg #[Value.nilFunc, Value.int .i64 0, Value.int .i64 0, Value.int .u64 0]) := ⟨fun _ => by kernel_rfl⟩
instance un88 : Und Tryz.prog 88 (.map 3 84) := ⟨Tryz.underlying88⟩
instance ty125 : TyA Tryz.prog 125 true 3 := ⟨fun _ => by kernel_rfl, fun _ => by kernel_rfl⟩
instance bu125 : BuildA Tryz.prog 125 [(0, 1), (1, 1), (2, 1)] := ⟨by kernel_rfl, by kernel_rfl⟩
instance fv125_0 : FieldT Tryz.prog 125 0 22 0 := ⟨by kernel_rfl, by kernel_rfl⟩
instance fv125_2 : FieldT Tryz.prog 125 2 4 2 := ⟨by kernel_rfl, by kernel_rfl⟩
instance fi125_0 : FieldA Tryz.prog 125 0 0 := ⟨fun _ _ _ => by kernel_rfl⟩
instance fi125_2 : FieldA Tryz.prog 125 2 2 := ⟨fun _ _ _ => by kernel_rfl⟩
instance ze125 : ZeroA Tryz.prog 125 (Value.agg #[Value.int .u64 0, Value.slice none 0 0, Value.bool false]) := ⟨fun _ => by kernel_rfl⟩
instance in125 : InfoA Tryz.prog 125 (Value.agg #[Value.int .u64 0, Value.slice none 0 0, Value.bool false]) 3 40 := ⟨by kernel_rfl⟩
instance ty129 : TyA Tryz.prog 129 true 6 := ⟨fun _ => by kernel_rfl, fun _ => by kernel_rfl⟩
instance bu129 : BuildA Tryz.prog 129 [(0, 6)] := ⟨by kernel_rfl, by kernel_rfl⟩
instance fi129_0 : FieldA Tryz.prog 129 0 0 := ⟨fun _ _ _ => by kernel_rfl⟩
instance ze129 : ZeroA Tryz.prog 129 (Value.agg #[Value.int .i64 0, Value.int .i64 0, Value.int .u64 0, Value.int .u64 0, Value.slice none 0 0, Value.slice none 0 0]) := ⟨fun _ => by kernel_rfl⟩
instance ty131 : TyA Tryz.prog 131 false 1 := ⟨fun _ => by kernel_rfl, fun _ => by kernel_rfl⟩
instance ze131 : ZeroA Tryz.prog 131 (Value.pointer none) := ⟨fun _ => by kernel_rfl⟩
instance bu133 : BuildA Tryz.prog 133 [(0, 1), (1, 1), (2, 1), (3, 1)] := ⟨by kernel_rfl, by kernel_rfl⟩
instance fi133_0 : FieldA Tryz.prog 133 0 0 := ⟨fun _ _ _ => by kernel_rfl⟩
instance fi133_1 : FieldA Tryz.prog 133 1 1 := ⟨fun _ _ _ => by kernel_rfl⟩
instance fi133_2 : FieldA Tryz.prog 133 2 2 := ⟨fun _ _ _ => by kernel_rfl⟩
instance fi133_3 : FieldA Tryz.prog 133 3 3 := ⟨fun _ _ _ => by kernel_rfl⟩
instance ze133 : ZeroA Tryz.prog 133 (Value.agg #[Value.nilFunc, Value.int .i64 0, Value.int .i64 0, Value.int .i64 0]) := ⟨fun _ => by kernel_rfl⟩
instance ty158 : TyA Tryz.prog 158 true 6 := ⟨fun _ => by kernel_rfl, fun _ => by kernel_rfl⟩
instance bu158 : BuildA Tryz.prog 158 [(0, 1), (1, 1), (2, 1), (3, 1), (4, 1), (5, 1)] := ⟨by kernel_rfl, by kernel_rfl⟩
instance eq158 : EqA Tryz.prog 158 6 := ⟨by kernel_rfl, by kernel_rfl, by kernel_rfl, by kernel_rfl, by kernel_rfl⟩
instance fi158_0 : FieldA Tryz.prog 158 0 0 := ⟨fun _ _ _ => by kernel_rfl⟩
instance fi158_1 : FieldA Tryz.prog 158 1 1 := ⟨fun _ _ _ => by kernel_rfl⟩
instance fi158_2 : FieldA Tryz.prog 158 2 2 := ⟨fun _ _ _ => by kernel_rfl⟩
instance fi158_3 : FieldA Tryz.prog 158 3 3 := ⟨fun _ _ _ => by kernel_rfl⟩
instance fi158_4 : FieldA Tryz.prog 158 4 4 := ⟨fun _ _ _ => by kernel_rfl⟩
instance fi158_5 : FieldA Tryz.prog 158 5 5 := ⟨fun _ _ _ => by kernel_rfl⟩
instance ze158 : ZeroA Tryz.prog 158 (Value.agg #[Value.int .i64 0, Value.int .u64 0, Value.int .u64 0, Value.int .u64 0, Value.int .u64 0, Value.int .u64 0]) := ⟨fun _ => by kernel_rfl⟩
instance ty201 : TyA Tryz.prog 201 true 2 := ⟨fun _ => by kernel_rfl, fun _ => by kernel_rfl⟩
instance bu201 : BuildA Tryz.prog 201 [(0, 1), (1, 1)] := ⟨by kernel_rfl, by kernel_rfl⟩
instance fi201_0 : FieldA Tryz.prog 201 0 0 := ⟨fun _ _ _ => by kernel_rfl⟩
instance fi201_1 : FieldA Tryz.prog 201 1 1 := ⟨fun _ _ _ => by kernel_rfl⟩
instance ze201 : ZeroA Tryz.prog 201 (Value.agg #[Value.int .i64 0, Value.int .u64 0]) := ⟨fun _ => by kernel_rfl⟩
instance in201 : InfoA Tryz.prog 201 (Value.agg #[Value.int .i64 0, Value.int .u64 0]) 2 16 := ⟨by kernel_rfl⟩
instance un202 : Und Tryz.prog 202 (.array 6 201) := ⟨Tryz.underlying202⟩
instance ze202 : ZeroA Tryz.prog 202 (Value.agg #[Value.int .i64 0, Value.int .u64 0, Value.int .i64 0, Value.int .u64 0, Value.int .i64 0, Value.int .u64 0, Value.int .i64 0, Value.int .u64 0, Value.int .i64 0, Value.int .u64 0, Value.int .i64 0, Value.int .u64 0]) := ⟨fun _ => by kernel_rfl⟩
instance un221 : Und Tryz.prog 221 (.slice 225) := ⟨Tryz.underlying221⟩
instance ty225 : TyA Tryz.prog 225 true 2 := ⟨fun _ => by kernel_rfl, fun _ => by kernel_rfl⟩
instance fi225_0 : FieldA Tryz.prog 225 0 0 := ⟨fun _ _ _ => by kernel_rfl⟩
instance fi225_1 : FieldA Tryz.prog 225 1 1 := ⟨fun _ _ _ => by kernel_rfl⟩
instance ze225 : ZeroA Tryz.prog 225 (Value.agg #[Value.int .i64 0, Value.nilFunc]) := ⟨fun _ => by kernel_rfl⟩
instance in225 : InfoA Tryz.prog 225 (Value.agg #[Value.int .i64 0, Value.nilFunc]) 2 16 := ⟨by kernel_rfl⟩
instance ty236 : TyA Tryz.prog 236 true 2 := ⟨fun _ => by kernel_rfl, fun _ => by kernel_rfl⟩
instance fi236_0 : FieldA Tryz.prog 236 0 0 := ⟨fun _ _ _ => by kernel_rfl⟩
instance fi236_1 : FieldA Tryz.prog 236 1 1 := ⟨fun _ _ _ => by kernel_rfl⟩
instance ze236 : ZeroA Tryz.prog 236 (Value.agg #[Value.slice none 0 0, Value.int .i64 0]) := ⟨fun _ => by kernel_rfl⟩
instance in236 : InfoA Tryz.prog 236 (Value.agg #[Value.slice none 0 0, Value.int .i64 0]) 2 32 := ⟨by kernel_rfl⟩
instance un246 : Und Tryz.prog 246 (.slice 34) := ⟨Tryz.underlying246⟩
instance ty251 : TyA Tryz.prog 251 false 1 := ⟨fun _ => by kernel_rfl, fun _ => by kernel_rfl⟩
instance un251 : Und Tryz.prog 251 (.int .u32) := ⟨Tryz.underlying251⟩
instance un253 : Und Tryz.prog 253 (.slice 256) := ⟨Tryz.underlying253⟩
instance ty256 : TyA Tryz.prog 256 false 1 := ⟨fun _ => by kernel_rfl, fun _ => by kernel_rfl⟩
instance un262 : Und Tryz.prog 262 (.array 16 251) := ⟨Tryz.underlying262⟩
instance hf8 : HasFn Tryz.prog 8 := ⟨fun _ _ => by kernel_rfl⟩
instance hf12 : HasFn Tryz.prog 12 := ⟨fun _ _ => by kernel_rfl⟩
instance hf13 : HasFn Tryz.prog 13 := ⟨fun _ _ => by kernel_rfl⟩
instance hf14 : HasFn Tryz.prog 14 := ⟨fun _ _ => by kernel_rfl⟩
instance hf15 : HasFn Tryz.prog 15 := ⟨fun _ _ => by kernel_rfl⟩
instance hf16 : HasFn Tryz.prog 16 := ⟨fun _ _ => by kernel_rfl⟩
instance hf23 : HasFn Tryz.prog 23 := ⟨fun _ _ => by kernel_rfl⟩
instance hf24 : HasFn Tryz.prog 24 := ⟨fun _ _ => by kernel_rfl⟩
instance hf26 : HasFn Tryz.prog 26 := ⟨fun _ _ => by kernel_rfl⟩
instance hf28 : HasFn Tryz.prog 28 := ⟨fun _ _ => by kernel_rfl⟩
instance hf29 : HasFn Tryz.prog 29 := ⟨fun _ _ => by kernel_rfl⟩
instance hf30 : HasFn Tryz.prog 30 := ⟨fun _ _ => by kernel_rfl⟩
instance hf31 : HasFn Tryz.prog 31 := ⟨fun _ _ => by kernel_rfl⟩
instance hf32 : HasFn Tryz.prog 32 := ⟨fun _ _ => by kernel_rfl⟩
instance hf33 : HasFn Tryz.prog 33 := ⟨fun _ _ => by kernel_rfl⟩
instance hf34 : HasFn Tryz.prog 34 := ⟨fun _ _ => by kernel_rfl⟩
instance hf35 : HasFn Tryz.prog 35 := ⟨fun _ _ => by kernel_rfl⟩
instance hf36 : HasFn Tryz.prog 36 := ⟨fun _ _ => by kernel_rfl⟩
instance hf37 : HasFn Tryz.prog 37 := ⟨fun _ _ => by kernel_rfl⟩
instance hf38 : HasFn Tryz.prog 38 := ⟨fun _ _ => by kernel_rfl⟩
instance hf39 : HasFn Tryz.prog 39 := ⟨fun _ _ => by kernel_rfl⟩
instance hf40 : HasFn Tryz.prog 40 := ⟨fun _ _ => by kernel_rfl⟩
instance hf41 : HasFn Tryz.prog 41 := ⟨fun _ _ => by kernel_rfl⟩
instance hf42 : HasFn Tryz.prog 42 := ⟨fun _ _ => by kernel_rfl⟩
instance hf43 : HasFn Tryz.prog 43 := ⟨fun _ _ => by kernel_rfl⟩
instance hf44 : HasFn Tryz.prog 44 := ⟨fun _ _ => by kernel_rfl⟩
instance hf45 : HasFn Tryz.prog 45 := ⟨fun _ _ => by kernel_rfl⟩
instance hf46 : HasFn Tryz.prog 46 := ⟨fun _ _ => by kernel_rfl⟩
instance hf47 : HasFn Tryz.prog 47 := ⟨fun _ _ => by kernel_rfl⟩
instance hf48 : HasFn Tryz.prog 48 := ⟨fun _ _ => by kernel_rfl⟩
instance hf49 : HasFn Tryz.prog 49 := ⟨fun _ _ => by kernel_rfl⟩
instance hf50 : HasFn Tryz.prog 50 := ⟨fun _ _ => by kernel_rfl⟩
instance hf51 : HasFn Tryz.prog 51 := ⟨fun _ _ => by kernel_rfl⟩
instance hf52 : HasFn Tryz.prog 52 := ⟨fun _ _ => by kernel_rfl⟩
instance hf53 : HasFn Tryz.prog 53 := ⟨fun _ _ => by kernel_rfl⟩
instance hf70 : HasFn Tryz.prog 70 := ⟨fun _ _ => by kernel_rfl⟩
instance hf71 : HasFn Tryz.prog 71 := ⟨fun _ _ => by kernel_rfl⟩
instance hf72 : HasFn Tryz.prog 72 := ⟨fun _ _ => by kernel_rfl⟩
instance hf73 : HasFn Tryz.prog 73 := ⟨fun _ _ => by kernel_rfl⟩
instance hf74 : HasFn Tryz.prog 74 := ⟨fun _ _ => by kernel_rfl⟩
instance hf75 : HasFn Tryz.prog 75 := ⟨fun _ _ => by kernel_rfl⟩
instance hf76 : HasFn Tryz.prog 76 := ⟨fun _ _ => by kernel_rfl⟩
instance hf77 : HasFn Tryz.prog 77 := ⟨fun _ _ => by kernel_rfl⟩
instance hf78 : HasFn Tryz.prog 78 := ⟨fun _ _ => by kernel_rfl⟩
instance hf79 : HasFn Tryz.prog 79 := ⟨fun _ _ => by kernel_rfl⟩
instance hf80 : HasFn Tryz.prog 80 := ⟨fun _ _ => by kernel_rfl⟩
instance hf81 : HasFn Tryz.prog 81 := ⟨fun _ _ => by kernel_rfl⟩
instance hf82 : HasFn Tryz.prog 82 := ⟨fun _ _ => by kernel_rfl⟩
instance hf83 : HasFn Tryz.prog 83 := ⟨fun _ _ => by kernel_rfl⟩
instance hf84 : HasFn Tryz.prog 84 := ⟨fun _ _ => by kernel_rfl⟩
instance hf85 : HasFn Tryz.prog 85 := ⟨fun _ _ => by kernel_rfl⟩
instance hf86 : HasFn Tryz.prog 86 := ⟨fun _ _ => by kernel_rfl⟩
instance hf87 : HasFn Tryz.prog 87 := ⟨fun _ _ => by kernel_rfl⟩
instance hf88 : HasFn Tryz.prog 88 := ⟨fun _ _ => by kernel_rfl⟩
instance hf89 : HasFn Tryz.prog 89 := ⟨fun _ _ => by kernel_rfl⟩
instance hf90 : HasFn Tryz.prog 90 := ⟨fun _ _ => by kernel_rfl⟩
instance hf91 : HasFn Tryz.prog 91 := ⟨fun _ _ => by kernel_rfl⟩
instance hf92 : HasFn Tryz.prog 92 := ⟨fun _ _ => by kernel_rfl⟩
instance hf93 : HasFn Tryz.prog 93 := ⟨fun _ _ => by kernel_rfl⟩
instance hf94 : HasFn Tryz.prog 94 := ⟨fun _ _ => by kernel_rfl⟩
instance hf95 : HasFn Tryz.prog 95 := ⟨fun _ _ => by kernel_rfl⟩
instance hf96 : HasFn Tryz.prog 96 := ⟨fun _ _ => by kernel_rfl⟩
instance hf97 : HasFn Tryz.prog 97 := ⟨fun _ _ => by kernel_rfl⟩
instance hf98 : HasFn Tryz.prog 98 := ⟨fun _ _ => by kernel_rfl⟩
instance hf99 : HasFn Tryz.prog 99 := ⟨fun _ _ => by kernel_rfl⟩
instance hf100 : HasFn Tryz.prog 100 := ⟨fun _ _ => by kernel_rfl⟩
instance hf101 : HasFn Tryz.prog 101 := ⟨fun _ _ => by kernel_rfl⟩
instance hf102 : HasFn Tryz.prog 102 := ⟨fun _ _ => by kernel_rfl⟩
instance hf103 : HasFn Tryz.prog 103 := ⟨fun _ _ => by kernel_rfl⟩
instance hf104 : HasFn Tryz.prog 104 := ⟨fun _ _ => by kernel_rfl⟩
instance hf105 : HasFn Tryz.prog 105 := ⟨fun _ _ => by kernel_rfl⟩
instance hf106 : HasFn Tryz.prog 106 := ⟨fun _ _ => by kernel_rfl⟩
instance hf107 : HasFn Tryz.prog 107 := ⟨fun _ _ => by kernel_rfl⟩
instance hf108 : HasFn Tryz.prog 108 := ⟨fun _ _ => by kernel_rfl⟩
instance hf109 : HasFn Tryz.prog 109 := ⟨fun _ _ => by kernel_rfl⟩
instance hf110 : HasFn Tryz.prog 110 := ⟨fun _ _ => by kernel_rfl⟩
instance hf111 : HasFn Tryz.prog 111 := ⟨fun _ _ => by kernel_rfl⟩
instance hf112 : HasFn Tryz.prog 112 := ⟨fun _ _ => by kernel_rfl⟩
instance hf113 : HasFn Tryz.prog 113 := ⟨fun _ _ => by kernel_rfl⟩
instance hf114 : HasFn Tryz.prog 114 := ⟨fun _ _ => by kernel_rfl⟩
instance hf140 : HasFn Tryz.prog 140 := ⟨fun _ _ => by kernel_rfl⟩
instance hf141 : HasFn Tryz.prog 141 := ⟨fun _ _ => by kernel_rfl⟩
instance hf142 : HasFn Tryz.prog 142 := ⟨fun _ _ => by kernel_rfl⟩
instance hf143 : HasFn Tryz.prog 143 := ⟨fun _ _ => by kernel_rfl⟩
instance hf144 : HasFn Tryz.prog 144 := ⟨fun _ _ => by kernel_rfl⟩
instance hf145 : HasFn Tryz.prog 145 := ⟨fun _ _ => by kernel_rfl⟩
instance hf146 : HasFn Tryz.prog 146 := ⟨fun _ _ => by kernel_rfl⟩
instance hf147 : HasFn Tryz.prog 147 := ⟨fun _ _ => by kernel_rfl⟩
instance hf148 : HasFn Tryz.prog 148 := ⟨fun _ _ => by kernel_rfl⟩
instance hf149 : HasFn Tryz.prog 149 := ⟨fun _ _ => by kernel_rfl⟩
instance hf150 : HasFn Tryz.prog 150 := ⟨fun _ _ => by kernel_rfl⟩
instance hf151 : HasFn Tryz.prog 151 := ⟨fun _ _ => by kernel_rfl⟩
instance hf152 : HasFn Tryz.prog 152 := ⟨fun _ _ => by kernel_rfl⟩
instance hf153 : HasFn Tryz.prog 153 := ⟨fun _ _ => by kernel_rfl⟩
instance hf154 : HasFn Tryz.prog 154 := ⟨fun _ _ => by kernel_rfl⟩
instance hf155 : HasFn Tryz.prog 155 := ⟨fun _ _ => by kernel_rfl⟩
instance hf156 : HasFn Tryz.prog 156 := ⟨fun _ _ => by kernel_rfl⟩
instance hf157 : HasFn Tryz.prog 157 := ⟨fun _ _ => by kernel_rfl⟩
instance hf158 : HasFn Tryz.prog 158 := ⟨fun _ _ => by kernel_rfl⟩
instance hf159 : HasFn Tryz.prog 159 := ⟨fun _ _ => by kernel_rfl⟩
instance hf160 : HasFn Tryz.prog 160 := ⟨fun _ _ => by kernel_rfl⟩
instance hf161 : HasFn Tryz.prog 161 := ⟨fun _ _ => by kernel_rfl⟩
instance hf162 : HasFn Tryz.prog 162 := ⟨fun _ _ => by kernel_rfl⟩
instance hf163 : HasFn Tryz.prog 163 := ⟨fun _ _ => by kernel_rfl⟩
instance hf164 : HasFn Tryz.prog 164 := ⟨fun _ _ => by kernel_rfl⟩
instance hf165 : HasFn Tryz.prog 165 := ⟨fun _ _ => by kernel_rfl⟩
instance hf166 : HasFn Tryz.prog 166 := ⟨fun _ _ => by kernel_rfl⟩
instance hf167 : HasFn Tryz.prog 167 := ⟨fun _ _ => by kernel_rfl⟩
instance hf168 : HasFn Tryz.prog 168 := ⟨fun _ _ => by kernel_rfl⟩
instance hf169 : HasFn Tryz.prog 169 := ⟨fun _ _ => by kernel_rfl⟩
instance hf170 : HasFn Tryz.prog 170 := ⟨fun _ _ => by kernel_rfl⟩
instance hf171 : HasFn Tryz.prog 171 := ⟨fun _ _ => by kernel_rfl⟩
instance hf182 : HasFn Tryz.prog 182 := ⟨fun _ _ => by kernel_rfl⟩
instance hf183 : HasFn Tryz.prog 183 := ⟨fun _ _ => by kernel_rfl⟩
instance hf184 : HasFn Tryz.prog 184 := ⟨fun _ _ => by kernel_rfl⟩
instance hf188 : HasFn Tryz.prog 188 := ⟨fun _ _ => by kernel_rfl⟩
instance hf189 : HasFn Tryz.prog 189 := ⟨fun _ _ => by kernel_rfl⟩
instance hf190 : HasFn Tryz.prog 190 := ⟨fun _ _ => by kernel_rfl⟩
instance hf191 : HasFn Tryz.prog 191 := ⟨fun _ _ => by kernel_rfl⟩
instance hf192 : HasFn Tryz.prog 192 := ⟨fun _ _ => by kernel_rfl⟩
instance hf193 : HasFn Tryz.prog 193 := ⟨fun _ _ => by kernel_rfl⟩
instance hf194 : HasFn Tryz.prog 194 := ⟨fun _ _ => by kernel_rfl⟩
instance hf195 : HasFn Tryz.prog 195 := ⟨fun _ _ => by kernel_rfl⟩
instance hf196 : HasFn Tryz.prog 196 := ⟨fun _ _ => by kernel_rfl⟩
instance hf197 : HasFn Tryz.prog 197 := ⟨fun _ _ => by kernel_rfl⟩
instance hf199 : HasFn Tryz.prog 199 := ⟨fun _ _ => by kernel_rfl⟩
instance hf200 : HasFn Tryz.prog 200 := ⟨fun _ _ => by kernel_rfl⟩
instance hf201 : HasFn Tryz.prog 201 := ⟨fun _ _ => by kernel_rfl⟩
instance hf202 : HasFn Tryz.prog 202 := ⟨fun _ _ => by kernel_rfl⟩
instance hf203 : HasFn Tryz.prog 203 := ⟨fun _ _ => by kernel_rfl⟩
instance hf205 : HasFn Tryz.prog 205 := ⟨fun _ _ => by kernel_rfl⟩
instance hf206 : HasFn Tryz.prog 206 := ⟨fun _ _ => by kernel_rfl⟩
instance hf207 : HasFn Tryz.prog 207 := ⟨fun _ _ => by kernel_rfl⟩
instance hf208 : HasFn Tryz.prog 208 := ⟨fun _ _ => by kernel_rfl⟩
instance hf209 : HasFn Tryz.prog 209 := ⟨fun _ _ => by kernel_rfl⟩
instance hf210 : HasFn Tryz.prog 210 := ⟨fun _ _ => by kernel_rfl⟩
instance hf211 : HasFn Tryz.prog 211 := ⟨fun _ _ => by kernel_rfl⟩
instance hf212 : HasFn Tryz.prog 212 := ⟨fun _ _ => by kernel_rfl⟩
instance hf213 : HasFn Tryz.prog 213 := ⟨fun _ _ => by kernel_rfl⟩
instance hf214 : HasFn Tryz.prog 214 := ⟨fun _ _ => by kernel_rfl⟩
instance hf215 : HasFn Tryz.prog 215 := ⟨fun _ _ => by kernel_rfl⟩
instance hf216 : HasFn Tryz.prog 216 := ⟨fun _ _ => by kernel_rfl⟩
instance hf217 : HasFn Tryz.prog 217 := ⟨fun _ _ => by kernel_rfl⟩
instance hf218 : HasFn Tryz.prog 218 := ⟨fun _ _ => by kernel_rfl⟩
instance hf219 : HasFn Tryz.prog 219 := ⟨fun _ _ => by kernel_rfl⟩
instance hf220 : HasFn Tryz.prog 220 := ⟨fun _ _ => by kernel_rfl⟩
instance hf221 : HasFn Tryz.prog 221 := ⟨fun _ _ => by kernel_rfl⟩
instance hf222 : HasFn Tryz.prog 222 := ⟨fun _ _ => by kernel_rfl⟩
instance hf223 : HasFn Tryz.prog 223 := ⟨fun _ _ => by kernel_rfl⟩
instance hf224 : HasFn Tryz.prog 224 := ⟨fun _ _ => by kernel_rfl⟩
instance hf225 : HasFn Tryz.prog 225 := ⟨fun _ _ => by kernel_rfl⟩
instance hf226 : HasFn Tryz.prog 226 := ⟨fun _ _ => by kernel_rfl⟩
instance hf227 : HasFn Tryz.prog 227 := ⟨fun _ _ => by kernel_rfl⟩
instance hf228 : HasFn Tryz.prog 228 := ⟨fun _ _ => by kernel_rfl⟩
instance hf229 : HasFn Tryz.prog 229 := ⟨fun _ _ => by kernel_rfl⟩
instance hf230 : HasFn Tryz.prog 230 := ⟨fun _ _ => by kernel_rfl⟩
instance hf231 : HasFn Tryz.prog 231 := ⟨fun _ _ => by kernel_rfl⟩
instance hf233 : HasFn Tryz.prog 233 := ⟨fun _ _ => by kernel_rfl⟩
end
section
section
variable {P : Program} {n : Nat} {ops : Array Oper} {o : Oper} {rest : List Oper} {S S1 : AS} {d : Nat} {K : Exit → AS → Prop}
end
end
section
section
variable {P : Program} {n id : Nat} {ops : Array Oper} {l l' os os' : List Oper} {S0 S S' S1 : AS} {o : Oper} {d : Nat} {K : Exit → AS → Prop}
variable {bs : List Nat} {av : AV} {b : Blk}
theorem flA {p : Prop} (_ : True) (h : p) : p := h
theorem bA {a b : Bool} (h : a = b := by first | assumption | with_reducible rfl) : a = b := h
theorem v2_1 (h : zV P n o S bs av none := by exact w_load1 rfl rfl rfl rfl (by decide)) : zV P n o S bs av none := h
theorem zL (h : zV P n o S bs av none := by exact yG rfl rfl rfl rfl rfl (by decide)) : zV P n o S bs av none := h
theorem xC (h : zV P n o S bs av none := by exact xX rfl rfl rfl (by rfl) (by rfl) rfl (by decide)) : zV P n o S bs av none := h
theorem v2_7 (h : zV P n o S bs av none := by exact w_loadN rfl rfl (by exact Nat.le_of_ble_eq_true rfl) rfl (by decide)) : zV P n o S bs av none := h
theorem v2_8 (h : zV P n o S bs av none := by exact w_loadO rfl rfl rfl rfl rfl (by decide)) : zV P n o S bs av none := h
theorem v2_12 (h : zV P n o S bs av none := by exact w_loadP rfl rfl rfl rfl rfl (by decide)) : zV P n o S bs av none := h
theorem vQ (h : zV P n o S bs av none := by exact yS rfl rfl rfl rfl rfl (by decide)) : zV P n o S bs av none := h
theorem v2_14 (h : zV P n o S bs av none := by exact w_loadVN rfl rfl rfl (by assumption) rfl (by assumption) rfl (by decide)) : zV P n o S bs av none := h
theorem v2_19 (h : zV P n o S bs av none := by exact w_loadAg rfl rfl rfl (by rfl) (by rfl) rfl (by decide)) : zV P n o S bs av none := h
theorem zH (h : zV P n o S bs av none := by exact wY rfl rfl rfl (by decide)) : zV P n o S bs av none := h
theorem yZ (h : zV P n o S bs av none := by exact a_extract rfl rfl rfl rfl (by decide)) : zV P n o S bs av none := h
theorem v9_2 (h : zV P n o S bs av none := by exact w_extractAg rfl rfl rfl rfl (by decide)) : zV P n o S bs av none := h
theorem zX (h : zV P n o S bs av none := by exact a_moveP rfl rfl rfl (by decide)) : zV P n o S bs av none := h
theorem v0_1 (h : zV P n o S bs av none := by exact a_moveO rfl rfl rfl (by decide)) : zV P n o S bs av none := h
theorem yY (h : zV P n o S bs av none := by exact a_moveR rfl rfl rfl (by decide)) : zV P n o S bs av none := h
theorem wW (h : zV P n o S bs av none := by exact a_moveT rfl rfl rfl (by decide)) : zV P n o S bs av none := h
theorem xI (h : zV P n o S bs av none := by exact a_moveC rfl rfl rfl (by decide)) : zV P n o S bs av none := h
theorem zW (h : zV P n o S bs av none := by exact a_assignP rfl rfl rfl (by decide)) : zV P n o S bs av none := h
theorem v1_1 (h : zV P n o S bs av none := by exact a_assignO rfl rfl rfl (by decide)) : zV P n o S bs av none := h
theorem v1_2 (h : zV P n o S bs av none := by exact a_assignR rfl rfl rfl (by decide)) : zV P n o S bs av none := h
theorem v1_5 (h : zV P n o S bs av none := by exact a_assignC rfl rfl rfl (by decide)) : zV P n o S bs av none := h
theorem qH (h : zV P n o S bs av none := by exact w_conv rfl rfl (by with_reducible assumption) rfl (by decide)) : zV P n o S bs av none := h
theorem v6_2 (h : zV P n o S bs av none := by exact w_conv rfl rfl (by apply F2 <;> assumption) rfl (by decide)) : zV P n o S bs av none := h
theorem v6_5 (h : zV P n o S bs av none := by exact w_conv rfl rfl (by first | exact wrap_i64 _ (by omega) | exact wrap_u64 _ (by omega) | exact wrap_u8 _ (by omega) | exact wrap_u32 _ (by omega) | exact wrap_i32 _ (by omega) | exact wrap_u16 _ (by omega)) rfl (by decide)) : zV P n o S bs av none := h
theorem v6_6 (h : zV P n o S bs av none := by exact w_conv rfl rfl rfl rfl (by decide)) : zV P n o S bs av none := h
theorem xD (h : zV P n o S bs av none := by exact a_nilR rfl rfl rfl (by decide)) : zV P n o S bs av none := h
theorem v7_4 (h : zV P n o S bs av none := by exact w_indexB rfl rfl rfl (by omega) rfl (by decide)) : zV P n o S bs av none := h
theorem v7_18 (h : zV P n o S bs av none := by exact w_indexS rfl rfl rfl (by with_reducible assumption) (by with_reducible assumption) rfl (by decide)) : zV P n o S bs av none := h
theorem v7_34 (h : zV P n o S bs av none := by exact w_indexG rfl rfl rfl rfl rfl (by first | decide | omega) (by with_reducible assumption) rfl (by decide)) : zV P n o S bs av none := h
theorem v7_38 (h : zV P n o S bs av none := by exact w_indexV rfl rfl rfl rfl (by with_reducible assumption) rfl (by decide)) : zV P n o S bs av none := h
theorem v7_48 (h : zV P n o S bs av none := by exact w_idxArr rfl rfl rfl (by omega) rfl (by decide)) : zV P n o S bs av none := h
theorem v41_0 (h : zV P n o S bs av none := by exact r_eql rfl rfl rfl (by with_reducible assumption) rfl (by decide)) : zV P n o S bs av none := h
theorem v41_4 (h : zV P n o S bs av none := by exact r_eql rfl rfl rfl (bT (by decide)) rfl (by decide)) : zV P n o S bs av none := h
theorem v41_5 (h : zV P n o S bs av none := by exact r_eql rfl rfl rfl (bF (by decide)) rfl (by decide)) : zV P n o S bs av none := h
theorem wT (h : zV P n o S bs av none := by exact r_eql rfl rfl rfl rfl rfl (by decide)) : zV P n o S bs av none := h
theorem v41_9 (h : zV P n o S bs av none := by exact r_eqlB rfl rfl rfl (by with_reducible assumption) rfl (by decide)) : zV P n o S bs av none := h
theorem v41_35 (h : zV P n o S bs av none := by exact r_eqlT rfl rfl rfl rfl rfl rfl (by rfl) rfl rfl (by decide)) : zV P n o S bs av none := h
theorem v41_41 (h : zV P n o S bs av none := by exact r_eqlNil rfl rfl rfl (by assumption) (bF (by decide)) rfl (by decide)) : zV P n o S bs av none := h
theorem vY (h : zV P n o S bs av none := by exact r_neq rfl rfl rfl (by with_reducible assumption) rfl (by decide)) : zV P n o S bs av none := h
theorem v42_4 (h : zV P n o S bs av none := by exact r_neq rfl rfl rfl (bT (by decide)) rfl (by decide)) : zV P n o S bs av none := h
theorem v42_5 (h : zV P n o S bs av none := by exact r_neq rfl rfl rfl (bF (by decide)) rfl (by decide)) : zV P n o S bs av none := h
theorem kE (h : zV P n o S bs av none := by exact r_neq rfl rfl rfl rfl rfl (by decide)) : zV P n o S bs av none := h
theorem v42_17 (h : zV P n o S bs av none := by exact r_neqB rfl rfl rfl rfl rfl (by decide)) : zV P n o S bs av none := h
theorem yU (h : zV P n o S bs av none := by exact r_lss rfl rfl rfl (by with_reducible assumption) rfl (by decide)) : zV P n o S bs av none := h
theorem v43_1 (h : zV P n o S bs av none := by exact r_lss rfl rfl rfl (by apply F1 <;> assumption) rfl (by decide)) : zV P n o S bs av none := h
theorem v43_4 (h : zV P n o S bs av none := by exact r_lss rfl rfl rfl (bT (by decide)) rfl (by decide)) : zV P n o S bs av none := h
theorem v43_5 (h : zV P n o S bs av none := by exact r_lss rfl rfl rfl (bF (by decide)) rfl (by decide)) : zV P n o S bs av none := h
theorem v43_8 (h : zV P n o S bs av none := by exact r_lss rfl rfl rfl rfl rfl (by decide)) : zV P n o S bs av none := h
theorem yH (h : zV P n o S bs av none := by exact w_pickY rfl rfl bA rfl rfl (by decide)) : zV P n o S bs av none := h
theorem yP (h : zV P n o S bs av none := by exact w_pickN rfl rfl bA rfl rfl (by decide)) : zV P n o S bs av none := h
theorem vK (h : zV P n o S bs av none := by exact r_notB rfl rfl (by with_reducible assumption) rfl (by decide)) : zV P n o S bs av none := h
theorem qI (h : zV P n o S bs av none := by exact r_notB rfl rfl (bT (by decide)) rfl (by decide)) : zV P n o S bs av none := h
theorem vS (h : zV P n o S bs av none := by exact r_notB rfl rfl (bF (by decide)) rfl (by decide)) : zV P n o S bs av none := h
theorem wU (h : zV P n o S bs av none := by exact r_notB rfl rfl rfl rfl (by decide)) : zV P n o S bs av none := h
theorem qQ (h : zV P n o S bs av none := by exact a_add rfl rfl rfl (by with_reducible assumption) rfl (by decide)) : zV P n o S bs av none := h
theorem v30_1 (h : zV P n o S bs av none := by exact a_add rfl rfl rfl (by apply F1 <;> assumption) rfl (by decide)) : zV P n o S bs av none := h
theorem v30_2 (h : zV P n o S bs av none := by exact a_add rfl rfl rfl (by apply F2 <;> assumption) rfl (by decide)) : zV P n o S bs av none := h
theorem v30_5 (h : zV P n o S bs av none := by exact a_add rfl rfl rfl (by first | exact wrap_i64 _ (by omega) | exact wrap_u64 _ (by omega) | exact wrap_u8 _ (by omega) | exact wrap_u32 _ (by omega) | exact wrap_i32 _ (by omega) | exact wrap_u16 _ (by omega)) rfl (by decide)) : zV P n o S bs av none := h
theorem v30_6 (h : zV P n o S bs av none := by exact a_add rfl rfl rfl rfl rfl (by decide)) : zV P n o S bs av none := h
theorem v57_0 (h : zV P n o S bs av none := by exact w_lenP rfl rfl rfl (by decide)) : zV P n o S bs av none := h
theorem v57_1 (h : zV P n o S bs av none := by exact w_lenS rfl rfl rfl (by decide)) : zV P n o S bs av none := h
theorem v57_2 (h : zV P n o S bs av none := by exact w_lenN rfl rfl rfl (by decide)) : zV P n o S bs av none := h
theorem v11_0 (h : zV P n o S bs av none := by exact w_field1 rfl rfl rfl rfl (by decide)) : zV P n o S bs av none := h
theorem v12_4 (h : zV P n o S bs av none := by exact w_idxN rfl rfl rfl (by omega) rfl (by decide)) : zV P n o S bs av none := h
theorem v13_0 (h : zV P n o S bs av none := by exact w_iface (by kernel_rfl) rfl rfl rfl (by decide)) : zV P n o S bs av none := h
theorem v14_0 (h : zV P n o S bs av none := by exact w_mkFunc rfl (by rfl) rfl (by decide)) : zV P n o S bs av none := h
theorem v44_0 (h : zV P n o S bs av none := by exact r_leq rfl rfl rfl (by with_reducible assumption) rfl (by decide)) : zV P n o S bs av none := h
theorem v44_8 (h : zV P n o S bs av none := by exact r_leq rfl rfl rfl rfl rfl (by decide)) : zV P n o S bs av none := h
theorem v45_0 (h : zV P n o S bs av none := by exact r_gtr rfl rfl rfl (by with_reducible assumption) rfl (by decide)) : zV P n o S bs av none := h
theorem v45_5 (h : zV P n o S bs av none := by exact r_gtr rfl rfl rfl (bF (by decide)) rfl (by decide)) : zV P n o S bs av none := h
theorem v45_8 (h : zV P n o S bs av none := by exact r_gtr rfl rfl rfl rfl rfl (by decide)) : zV P n o S bs av none := h
theorem v46_0 (h : zV P n o S bs av none := by exact r_geq rfl rfl rfl (by with_reducible assumption) rfl (by decide)) : zV P n o S bs av none := h
theorem v46_4 (h : zV P n o S bs av none := by exact r_geq rfl rfl rfl (bT (by decide)) rfl (by decide)) : zV P n o S bs av none := h
theorem v46_8 (h : zV P n o S bs av none := by exact r_geq rfl rfl rfl rfl rfl (by decide)) : zV P n o S bs av none := h
theorem v31_0 (h : zV P n o S bs av none := by exact a_sub rfl rfl rfl (by with_reducible assumption) rfl (by decide)) : zV P n o S bs av none := h
theorem v31_5 (h : zV P n o S bs av none := by exact a_sub rfl rfl rfl (by first | exact wrap_i64 _ (by omega) | exact wrap_u64 _ (by omega) | exact wrap_u8 _ (by omega) | exact wrap_u32 _ (by omega) | exact wrap_i32 _ (by omega) | exact wrap_u16 _ (by omega)) rfl (by decide)) : zV P n o S bs av none := h
theorem v32_0 (h : zV P n o S bs av none := by exact a_mul rfl rfl rfl (by with_reducible assumption) rfl (by decide)) : zV P n o S bs av none := h
theorem v32_5 (h : zV P n o S bs av none := by exact a_mul rfl rfl rfl (by first | exact wrap_i64 _ (by omega) | exact wrap_u64 _ (by omega) | exact wrap_u8 _ (by omega) | exact wrap_u32 _ (by omega) | exact wrap_i32 _ (by omega) | exact wrap_u16 _ (by omega)) rfl (by decide)) : zV P n o S bs av none := h
theorem v33_0 (h : zV P n o S bs av none := by exact a_quo rfl rfl rfl (by first | decide | omega) (by with_reducible assumption) rfl (by decide)) : zV P n o S bs av none := h
theorem kF (h : zV P n o S bs av none := by exact a_rem rfl rfl rfl (by first | decide | omega) (by with_reducible assumption) rfl (by decide)) : zV P n o S bs av none := h
theorem v34_1 (h : zV P n o S bs av none := by exact a_rem rfl rfl rfl (by first | decide | omega) (by apply F1 <;> assumption) rfl (by decide)) : zV P n o S bs av none := h
theorem v34_3 (h : zV P n o S bs av none := by exact a_rem rfl rfl rfl (by first | decide | omega) rfl rfl (by decide)) : zV P n o S bs av none := h
theorem v35_0 (h : zV P n o S bs av none := by exact a_and rfl rfl rfl (by with_reducible assumption) rfl (by decide)) : zV P n o S bs av none := h
theorem v35_3 (h : zV P n o S bs av none := by exact a_and rfl rfl rfl rfl rfl (by decide)) : zV P n o S bs av none := h
theorem v36_0 (h : zV P n o S bs av none := by exact a_or rfl rfl rfl (by with_reducible assumption) rfl (by decide)) : zV P n o S bs av none := h
theorem v36_1 (h : zV P n o S bs av none := by exact a_or rfl rfl rfl (by apply F1 <;> assumption) rfl (by decide)) : zV P n o S bs av none := h
theorem v37_0 (h : zV P n o S bs av none := by exact a_xor rfl rfl rfl (by with_reducible assumption) rfl (by decide)) : zV P n o S bs av none := h
theorem v51_0 (h : zV P n o S bs av none := by exact a_cmpl rfl rfl rfl (by with_reducible assumption) rfl (by decide)) : zV P n o S bs av none := h
theorem v39_0 (h : zV P n o S bs av none := by exact a_shr rfl rfl rfl (by first | decide | omega) (by first | decide | (simp only [IntKind.bits]; omega)) (by with_reducible assumption) rfl (by decide)) : zV P n o S bs av none := h
theorem v39_1 (h : zV P n o S bs av none := by exact a_shr rfl rfl rfl (by first | decide | omega) (by first | decide | (simp only [IntKind.bits]; omega)) (by simp only [Int.reduceToNat, Int.reducePow]; rfl) rfl (by decide)) : zV P n o S bs av none := h
theorem v38_0 (h : zV P n o S bs av none := by exact a_shl rfl rfl rfl (by first | decide | omega) (by first | decide | (simp only [IntKind.bits]; omega)) (by with_reducible assumption) rfl (by decide)) : zV P n o S bs av none := h
theorem yD (h : zV P n o S bs av none := by exact w_build rfl (by rfl) (by rfl) (by rfl) (by rfl) rfl (by decide)) : zV P n o S bs av none := h
theorem v10_1 (h : zV P n o S bs av none := by exact w_buildArr rfl (by rfl) (by rfl) (by rfl) (by rfl) rfl (by decide)) : zV P n o S bs av none := h
theorem v10_2 (h : zV P n o S bs av none := by exact w_buildAg0 rfl (by rfl) (by rfl) (by rfl) (by rfl) rfl (by decide)) : zV P n o S bs av none := h
theorem v20_0 (h : zV P n o S bs av none := by exact flA ps_ (w_buildSl rfl (by decide) (by decide) (by decide) (by decide) (by rfl) (by rfl) (by rfl) (by rfl) (by rfl) (by rfl) (by rfl) rfl (by decide))) : zV P n o S bs av none := h
theorem yI (h : zV P n o S bs av (some b) := by exact w_boxA rfl rfl rfl (by decide)) : zV P n o S bs av (some b) := h
theorem m18_1 (h : zV P n o S bs av (some b) := by exact w_boxV rfl rfl rfl rfl (by decide)) : zV P n o S bs av (some b) := h
theorem m18_2 (h : zV P n o S bs av (some b) := by exact w_boxS rfl rfl rfl (by decide)) : zV P n o S bs av (some b) := h
theorem m18_3 (h : zV P n o S bs av (some b) := by exact w_boxC rfl rfl rfl (by decide)) : zV P n o S bs av (some b) := h
theorem m18_6 (h : zV P n o S bs av (some b) := by exact w_boxAg rfl rfl rfl (by decide)) : zV P n o S bs av (some b) := h
theorem zT (h : zV P n o S bs av (some b) := by exact w_alloc rfl (by decide) rfl (by decide)) : zV P n o S bs av (some b) := h
theorem m20_0 (h : zV P n o S bs av (some b) := by exact w_build0V rfl rfl (by decide)) : zV P n o S bs av (some b) := h
theorem m20_2 (h : zV P n o S bs av (some b) := by exact w_buildB rfl (by decide) (by decide) (by decide) (by decide) (by rfl) (by rfl) (by rfl) (by rfl) rfl (by decide)) : zV P n o S bs av (some b) := h
theorem m21_0 (h : zV P n o S bs av (some b) := by exact w_makeV1 rfl rfl rfl (by assumption) rfl (by decide) rfl (by rfl) rfl (by decide)) : zV P n o S bs av (some b) := h
theorem m22_0 (h : zV P n o S bs av (some b) := by exact w_makeMap rfl rfl (by decide)) : zV P n o S bs av (some b) := h
theorem w24_0 (h : Step P n o S S1 := by exact w_storeO rfl rfl rfl rfl rfl rfl (by first | exact Nat.le_of_ble_eq_true rfl | assumption) rfl rfl) : Step P n o S S1 := h
theorem w24_1 (h : Step P n o S S1 := by exact w_storeV rfl rfl rfl rfl rfl (by assumption) (by rfl) rfl (by assumption) rfl) : Step P n o S S1 := h
theorem zO (h : Step P n o S S1 := by exact y8 rfl rfl rfl rfl rfl (by rfl) (by first | exact Nat.le_of_ble_eq_true rfl | assumption) rfl rfl) : Step P n o S S1 := h
theorem w55_0 (h : Step P n o S S1 := by exact w_appB rfl rfl rfl rfl (by first | assumption |  (simp only [List.length_append, List.length_cons, List.length_nil, *]; omega)) rfl rfl (by decide)) : Step P n o S S1 := h
theorem w55_1 (h : Step P n o S S1 := by exact w_appOB rfl rfl rfl rfl rfl (by first | assumption |  (simp only [List.length_append, List.length_cons, List.length_nil, *]; omega)) rfl rfl (by decide)) : Step P n o S S1 := h
theorem w55_2 (h : Step P n o S S1 := by exact w_appV rfl rfl rfl rfl (by assumption) (by assumption) rfl (by decide) rfl (by decide)) : Step P n o S S1 := h
theorem w55_3 (h : Step P n o S S1 := by exact s_appL rfl rfl rfl rfl (by assumption) (by assumption) rfl (by decide) rfl (by decide)) : Step P n o S S1 := h
class GD (o : Oper) (d : outParam Nat) : Prop where
  g : o.guard = none
  d : o.dst = some d
instance {d : Nat} {x : Op} {t : TypeId} {p : String} {a : Array Edge} : GD { dst := some d, op := x, type := t, pos := p, after := a, guard := none } d := ⟨rfl, rfl⟩
class GN (o : Oper) : Prop where
  g : o.guard = none
instance {d : Option Nat} {x : Op} {t : TypeId} {p : String} {a : Array Edge} : GN { dst := d, op := x, type := t, pos := p, after := a, guard := none } := ⟨rfl⟩
class GG (o : Oper) (j : outParam Nat) (want : outParam Bool) : Prop where
  g : o.guard = some (j, want)
instance {d : Option Nat} {x : Op} {t : TypeId} {p : String} {a : Array Edge} {j : Nat} {want : Bool} : GG { dst := d, op := x, type := t, pos := p, after := a, guard := some (j, want) } j want := ⟨rfl⟩
class GP (o : Oper) (d : outParam Nat) : Prop where
  d : o.dst = some d
instance {d : Nat} {x : Op} {t : TypeId} {p : String} {a : Array Edge} {g : Option (Nat × Bool)} : GP { dst := some d, op := x, type := t, pos := p, after := a, guard := g } d := ⟨rfl⟩
structure Run (P : Program) (n : Nat) (ops : Array Oper) (l : List Oper) (S : AS) (l' : List Oper) (S' : AS) : Prop where
  h : ∀ K : Exit → AS → Prop, zY P n ops l' S' K → zY P n ops l S K
theorem Run.e : Run P n ops l S l S := ⟨fun _ h => h⟩
theorem Run.v [gd : GD o d] {bs : List Nat} {av : AV} (h : zV P n o S bs av none) (r : Run P n ops os (S.put d av) l' S') : Run P n ops (o :: os) S l' S' := ⟨fun K hk => zY.v gd.g gd.d h (r.h K hk)⟩
theorem Run.m [gd : GD o d] {bs : List Nat} {av : AV} {b : Blk} (h : zV P n o S bs av (some b)) (r : Run P n ops os ((S.create d b).put d av) l' S') : Run P n ops (o :: os) S l' S' := ⟨fun K hk => zY.m gd.g gd.d h (r.h K hk)⟩
theorem Run.w [gd : GN o] (h : Step P n o S S1) (r : Run P n ops os S1 l' S') : Run P n ops (o :: os) S l' S' := ⟨fun K hk => zY.w gd.g h (r.h K hk)⟩
theorem Run.gY {j t : Nat} {want b : Bool} [gd : GG o j want] [gp : GP o d] {bs : List Nat} {av : AV} (h : zV P n o S bs av none) (r : Run P n ops os (S.put d av) l' S') (ht : (ops[j]?).bind (·.dst) = some t := by exact rfl) (htn : t < n := by decide) (hb : S.tmp t = .p (.val (.bool b)) := by exact rfl) (hbw : b = want := by exact bA) (hdn : d < n := by decide) :
    Run P n ops (o :: os) S l' S' := ⟨fun K hk => zY.gY gd.g ht htn hb hbw gp.d hdn h (r.h K hk)⟩
theorem Run.gT {j t : Nat} {b : Bool} [gd : GG o j true] [gp : GP o d] (r : Run P n ops os (S.put d wI) l' S') (ht : (ops[j]?).bind (·.dst) = some t := by exact rfl) (htn : t < n := by decide) (hb : S.tmp t = .p (.val (.bool b)) := by exact rfl) (hbw : b = false := by exact bA) (hdn : d < n := by decide) : Run P n ops (o :: os) S l' S' :=
  ⟨fun K hk => zY.gnT gd.g ht htn hb hbw gp.d hdn (r.h K hk)⟩
theorem Run.gF {j t : Nat} {b : Bool} [gd : GG o j false] [gp : GP o d] (r : Run P n ops os (S.put d wI) l' S') (ht : (ops[j]?).bind (·.dst) = some t := by exact rfl) (htn : t < n := by decide) (hb : S.tmp t = .p (.val (.bool b)) := by exact rfl) (hbw : b = true := by exact bA) (hdn : d < n := by decide) : Run P n ops (o :: os) S l' S' :=
  ⟨fun K hk => zY.gnF gd.g ht htn hb hbw gp.d hdn (r.h K hk)⟩
theorem Run.gU {j t : Nat} {want : Bool} [gd : GG o j want] [gp : GP o d] (r : Run P n ops os (S.put d wI) l' S') (ht : (ops[j]?).bind (·.dst) = some t := by exact rfl) (htn : t < n := by decide) (hb : S.tmp t = wI := by exact rfl) (hdn : d < n := by decide) : Run P n ops (o :: os) S l' S' :=
  ⟨fun K hk => zY.gU gd.g ht htn hb gp.d hdn (r.h K hk)⟩
structure DRun (P : Program) (n : Nat) (l : List Oper) (rev : List AI) (S : AS) (os : List Oper) (rev' : List AI) (S' : AS) (os' : List Oper) : Prop where
  h : ∀ (id : Nat) (S0 : AS) (K : Exit → AS → Prop), Draws P n id l S0 K rev' S' os' → Draws P n id l S0 K rev S os
theorem DRun.e {rev : List AI} : DRun P n l rev S os rev S os := ⟨fun _ _ _ h => h⟩
theorem DRun.v [gd : GD o d] {bs : List Nat} {av : AV} {rev rev' : List AI} (h : zV P n o S bs av none) (r : DRun P n l (⟨bs, av, none⟩ :: rev) (S.put d av) os rev' S' os') : DRun P n l rev S (o :: os) rev' S' os' := ⟨fun id S0 K hk => Draws.v gd.g gd.d h (r.h id S0 K hk)⟩
theorem DRun.m [gd : GD o d] {bs : List Nat} {av : AV} {b : Blk} {rev rev' : List AI} (h : zV P n o S bs av (some b)) (r : DRun P n l (⟨bs, av, some b⟩ :: rev) ((S.create d b).put d av) os rev' S' os') : DRun P n l rev S (o :: os) rev' S' os' := ⟨fun id S0 K hk => Draws.m gd.g gd.d h (r.h id S0 K hk)⟩
theorem DRun.gY {j t : Nat} {want b : Bool} [gd : GG o j want] [gp : GP o d] {bs : List Nat} {av : AV} {rev rev' : List AI} (h : zV P n o S bs av none) (r : DRun P n l (⟨bs, av, none⟩ :: rev) (S.put d av) os rev' S' os') (ht : wE l j = some t := by exact rfl) (htn : t < n := by decide) (hb : S.tmp t = .p (.val (.bool b)) := by exact rfl) (hbw : b = want := by exact bA) :
    DRun P n l rev S (o :: os) rev' S' os' := ⟨fun id S0 K hk => Draws.gY gd.g ht htn hb hbw gp.d h (r.h id S0 K hk)⟩
theorem DRun.gT {j t : Nat} {b : Bool} [gd : GG o j true] [gp : GP o d] {rev rev' : List AI} (r : DRun P n l (⟨[], wI, none⟩ :: rev) (S.put d wI) os rev' S' os') (ht : wE l j = some t := by exact rfl) (htn : t < n := by decide) (hb : S.tmp t = .p (.val (.bool b)) := by exact rfl) (hbw : b = false := by exact bA) (hdn : d < n := by decide) : DRun P n l rev S (o :: os) rev' S' os' :=
  ⟨fun id S0 K hk => Draws.gNT gd.g ht htn hb hbw gp.d hdn (r.h id S0 K hk)⟩
theorem DRun.gF {j t : Nat} {b : Bool} [gd : GG o j false] [gp : GP o d] {rev rev' : List AI} (r : DRun P n l (⟨[], wI, none⟩ :: rev) (S.put d wI) os rev' S' os') (ht : wE l j = some t := by exact rfl) (htn : t < n := by decide) (hb : S.tmp t = .p (.val (.bool b)) := by exact rfl) (hbw : b = true := by exact bA) (hdn : d < n := by decide) : DRun P n l rev S (o :: os) rev' S' os' :=
  ⟨fun id S0 K hk => Draws.gNF gd.g ht htn hb hbw gp.d hdn (r.h id S0 K hk)⟩
structure TRun (P : Program) (n : Nat) (S : AS) (os : List Oper) (S' : AS) (os' : List Oper) : Prop where
  h : ∀ K : Exit → AS → Prop, zF P n K S' os' → zF P n K S os
theorem TRun.e : TRun P n S os S os := ⟨fun _ h => h⟩
theorem TRun.v [gd : GD o d] {bs : List Nat} {av : AV} (h : zV P n o S bs av none) (r : TRun P n (S.put d av) os S' os') : TRun P n S (o :: os) S' os' := ⟨fun K hk => zF.v gd.g gd.d h (r.h K hk)⟩
theorem TRun.w [gd : GN o] (h : Step P n o S S1) (r : TRun P n S1 os S' os') : TRun P n S (o :: os) S' os' := ⟨fun K hk => zF.w gd.g h (r.h K hk)⟩
theorem zY.at_ (d : Nat) (_ : o.dst = some d) (h : zY P n ops (o :: os) S K) : zY P n ops (o :: os) S K := h
theorem zF.at_ (d : Nat) (_ : o.dst = some d) (h : zF P n K S (o :: os)) : zF P n K S (o :: os) := h
theorem zU.at0 {is : List Nat} {l : List (Nat × Blk)} (h : S.blk 1000 = Option.some b) (t : zU S is l) : zU S (1000 :: is) ((1000, b) :: l) := .some h t
theorem zU.at1 {is : List Nat} {l : List (Nat × Blk)} (h : S.blk 1001 = Option.some b) (t : zU S is l) : zU S (1001 :: is) ((1001, b) :: l) := .some h t
theorem zU.at2 {is : List Nat} {l : List (Nat × Blk)} (h : S.blk 1002 = Option.some b) (t : zU S is l) : zU S (1002 :: is) ((1002, b) :: l) := .some h t
theorem zM {S : AS} (is js : List Nat) {l : List (Nat × AV)} {m : List (Nat × Blk)} (ht : zR S is l := by repeat' first | exact zR.nil | apply zR.p rfl | apply zR.ptr rfl | apply zR.own rfl | apply zR.clo rfl | apply zR.ifp rfl | apply zR.pt rfl | apply zR.tup rfl | apply zR.skip) (hb : zU S js m := by repeat' first | exact zU.nil | apply zU.boxP rfl rfl | apply zU.qE rfl | (apply zU.at0; exact xO rfl (H.nk _).1 (by repeat' first | exact KB.refl | apply KB.kill | decide)) | (apply zU.at1; exact xO rfl (H.nk _).2.1 (by repeat' first | exact KB.refl | apply KB.kill | decide)) | (apply zU.at2; exact xO rfl (H.nk _).2.2 (by repeat' first | exact KB.refl | apply KB.kill | decide)) | apply zU.some rfl | apply zU.skip) : Sub S { t := l, s := m } := sub_keep ht hb
def Oper.isAt (o : Oper) (ds : List Nat) : Bool := match o.dst with
  | some d => ds.contains d
  | none => false
theorem zY.in_ (ds : List Nat) (_ : Oper.isAt o ds = true) (h : zY P n ops (o :: os) S K) : zY P n ops (o :: os) S K := h
theorem zF.in_ (ds : List Nat) (_ : Oper.isAt o ds = true) (h : zF P n K S (o :: os)) : zF P n K S (o :: os) := h
theorem Draws.in_ {rev : List AI} (ds : List Nat) (_ : Oper.isAt o ds = true) (h : Draws P n id l S0 K rev S (o :: os)) : Draws P n id l S0 K rev S (o :: os) := h
theorem zZ.rk {ops : List Oper} (is js : List Nat) {t : List (Nat × AV)} {m : List (Nat × Blk)} (h : zZ P n (.region id ops.toArray true) { t := t, s := m } K) (ht : zR S is t := by repeat' first | exact zR.nil | apply zR.p rfl | apply zR.ptr rfl | apply zR.own rfl | apply zR.clo rfl | apply zR.ag rfl | apply zR.ifp rfl | apply zR.pt rfl | apply zR.tup rfl | apply zR.skip) (hb : zU S js m := by repeat' first | exact zU.nil | apply zU.boxP rfl rfl | apply zU.qE rfl | (apply zU.at0; exact xO rfl (H.nk _).1 (by repeat' first | exact KB.refl | apply KB.kill | decide)) | (apply zU.at1; exact xO rfl (H.nk _).2.1 (by repeat' first | exact KB.refl | apply KB.kill | decide)) | (apply zU.at2; exact xO rfl (H.nk _).2.2 (by repeat' first | exact KB.refl | apply KB.kill | decide)) | apply zU.some rfl | apply zU.skip) : zZ P n (.region id ops.toArray true) S K := zZ.regionD is js ht hb h
theorem zZ.rc {ops : List Oper} (is js : List Nat) {t : List (Nat × AV)} {m : List (Nat × Blk)} (ht : zR S is t := by repeat' first | exact zR.nil | apply zR.p rfl | apply zR.ptr rfl | apply zR.own rfl | apply zR.clo rfl | apply zR.ag rfl | apply zR.ifp rfl | apply zR.pt rfl | apply zR.tup rfl | apply zR.skip) (hb : zU S js m := by repeat' first | exact zU.nil | apply zU.boxP rfl rfl | apply zU.qE rfl | (apply zU.at0; exact xO rfl (H.nk _).1 (by repeat' first | exact KB.refl | apply KB.kill | decide)) | (apply zU.at1; exact xO rfl (H.nk _).2.1 (by repeat' first | exact KB.refl | apply KB.kill | decide)) | (apply zU.at2; exact xO rfl (H.nk _).2.2 (by repeat' first | exact KB.refl | apply KB.kill | decide)) | apply zU.some rfl | apply zU.skip) (r : Run P n ops.toArray ops { t := t, s := m } l' S') (h : zY P n ops.toArray l' S' K) : zZ P n (.region id ops.toArray false) S K := zZ.wM is js ht hb (r.h K h)
theorem zY.rc (r : Run P n ops (o :: os) S l' S') (h : zY P n ops l' S' K) : zY P n ops (o :: os) S K := r.h K h
theorem Draws.rc {rev rev' : List AI} (r : DRun P n l rev S (o :: os) rev' S' os') (h : Draws P n id l S0 K rev' S' os') : Draws P n id l S0 K rev S (o :: os) := r.h id S0 K h
theorem zF.rc (r : TRun P n S (o :: os) S' os') (h : zF P n K S' os') : zF P n K S (o :: os) := r.h K h
theorem zZ.dc {ops : List Oper} (is js : List Nat) {t : List (Nat × AV)} {m : List (Nat × Blk)} {rev : List AI} (ht : zR S is t := by repeat' first | exact zR.nil | apply zR.p rfl | apply zR.ptr rfl | apply zR.own rfl | apply zR.clo rfl | apply zR.ag rfl | apply zR.ifp rfl | apply zR.pt rfl | apply zR.tup rfl | apply zR.skip) (hb : zU S js m := by repeat' first | exact zU.nil | apply zU.boxP rfl rfl | apply zU.qE rfl | (apply zU.at0; exact xO rfl (H.nk _).1 (by repeat' first | exact KB.refl | apply KB.kill | decide)) | (apply zU.at1; exact xO rfl (H.nk _).2.1 (by repeat' first | exact KB.refl | apply KB.kill | decide)) | (apply zU.at2; exact xO rfl (H.nk _).2.2 (by repeat' first | exact KB.refl | apply KB.kill | decide)) | apply zU.some rfl | apply zU.skip) (r : DRun P n ops [] { t := t, s := m } ops rev S1 os) (q : TRun P n S1 os S' os') (h : zF P n K S' os')
    (hm : P.follows .mixedOrders = true := by kernel_rfl) (hs : schedB ops rev.reverse.length (rev.reverse.map (·.bs)) = true := by kernel_rfl) (hd : madeB ops rev.reverse { t := t, s := m } = true := by kernel_rfl) : zZ P n (.region id ops.toArray true) S K := zZ.regionD is js ht hb (zZ.draws (r.h _ _ _ (Draws.done hm hs hd (q.h K h))))
end
end
section
attribute [local irreducible] zY zZ Step zV Sub zF zA Fn
structure yQ where
  n : Int
  b : PV
  fail : Bool
def kM (r : yQ) : PV := .agg [.val (.int .u64 r.n), r.b, .val (.bool r.fail)]
def logV (L : List yQ) : PV := .sl (L.map kM)
def accV (kind cell a b : Int) (data : PV) : PV := .agg [.val (.int .i64 kind), .val (.int .i64 cell), .val (.int .u64 a), .val (.int .u64 b), data, .val (.slice none 0 0)]
def xZ : PV := .val (.slice none 0 0)
def atB (i : Nat) : Blk := .box 3 [.p (.val (.int .i64 i))]
def logB (L : List yQ) : Blk := .box 25 [.p (logV L)]
def doA : AV := .clo 74 [1000, 1001]
theorem resV_cells (L : List yQ) : ∀ e ∈ L.map kM, e.cells.length = 3 := fun e he => by
  obtain ⟨r, _, rfl⟩ := List.mem_map.1 he
  rfl
def needA (acc : PV) : AV := .p (.ifc 129 acc)
end
section
structure Ned where
  kind : Int
  cell : Int
  a : Int
  b : Int
  d : PV
  w : PV
def vF (kind cell a b : Int) (d : PV) : Ned := ⟨kind, cell, a, b, d, xZ⟩
def isB (b : Bool) : Blk := .box 4 [.p (.val (.bool b))]
end
section
def tblN (j : Nat) : Nat := (tbl0.getD j (.u32, 0)).2.toNat
def nibN (s : Nat) : Nat := s / 16 ^^^ tblN (s % 16)
def byteN (s c : Nat) : Nat := nibN (nibN (s ^^^ c))
def crcN (s : Nat) (bs : List Int) : Nat := bs.foldl (fun s c => byteN s c.toNat) s
def bitN (s : Nat) : Nat := if s % 2 = 1 then s / 2 ^^^ 3988292384 else s / 2
def bitsN : Nat → Nat → Nat
  | 0, s => s
  | k + 1, s => bitN (bitsN k s)
def q9 (sum : Nat) (bs : List Int) : Nat := 4294967295 - crcN (4294967295 - sum) bs
theorem xor_half (a b : Nat) : (a ^^^ b) / 2 = a / 2 ^^^ b / 2 := by
  apply Nat.eq_of_testBit_eq
  intro i
  rw [Nat.testBit_xor, Nat.testBit_div_two, Nat.testBit_div_two, Nat.testBit_div_two, Nat.testBit_xor]
theorem xor_par (a b : Nat) : (a ^^^ b) % 2 = (a % 2 + b % 2) % 2 := by
  have h := Nat.testBit_xor a b 0
  simp only [Nat.testBit_zero] at h
  have ha : a % 2 = 0 ∨ a % 2 = 1 := by omega
  have hb : b % 2 = 0 ∨ b % 2 = 1 := by omega
  have hc : (a ^^^ b) % 2 = 0 ∨ (a ^^^ b) % 2 = 1 := by omega
  rcases ha with ha | ha <;> rcases hb with hb | hb <;> rcases hc with hc | hc <;> rw [ha, hb, hc] at h <;> rw [ha, hb, hc] <;> first | rfl | exact absurd h (by decide)
theorem bit_xor (a b : Nat) : bitN (a ^^^ b) = bitN a ^^^ bitN b := by
  unfold bitN
  rw [xor_half, xor_par]
  have ha : a % 2 = 0 ∨ a % 2 = 1 := by omega
  have hb : b % 2 = 0 ∨ b % 2 = 1 := by omega
  rcases ha with ha | ha <;> rcases hb with hb | hb <;> simp only [ha, hb]
  · simp
  · simp [Nat.xor_assoc]
  · rw [if_pos (by decide), if_pos trivial, if_neg (by decide)]
    rw [Nat.xor_assoc, Nat.xor_assoc, Nat.xor_comm (b / 2)]
  · rw [if_neg (by decide), if_pos trivial, if_pos trivial]
    rw [Nat.xor_assoc, ← Nat.xor_assoc 3988292384, Nat.xor_comm 3988292384 (b / 2), Nat.xor_assoc, Nat.xor_self, Nat.xor_zero]
theorem bit_even (h : Nat) : bitN (2 * h) = h := by
  unfold bitN
  rw [if_neg (by omega)]
  omega
theorem split16 (s : Nat) : s = (16 * (s / 16)) ^^^ (s % 16) := by
  apply Nat.eq_of_testBit_eq
  intro i
  have e1 : 16 * (s / 16) = 2 ^ 4 * (s / 2 ^ 4) := rfl
  have e2 : s % 16 = s % 2 ^ 4 := rfl
  rw [Nat.testBit_xor, e1, e2, Nat.testBit_two_pow_mul, Nat.testBit_mod_two_pow, Nat.testBit_div_two_pow]
  by_cases hi : i < 4
  · simp [hi, Nat.not_le.2 hi]
  · have h4 : 4 ≤ i := by omega
    have e3 : i - 4 + 4 = i := by omega
    simp [hi, h4, e3]
theorem nib_low : ∀ l, l < 16 → bitN (bitN (bitN (bitN l))) = tblN l := by decide +kernel
theorem nib_bits (s : Nat) : nibN s = bitN (bitN (bitN (bitN s))) := by
  have h16 : bitN (bitN (bitN (bitN (16 * (s / 16))))) = s / 16 := by
    have e : 16 * (s / 16) = 2 * (2 * (2 * (2 * (s / 16)))) := by omega
    rw [e, bit_even, bit_even, bit_even, bit_even]
  conv => rhs; rw [split16 s]
  rw [bit_xor, bit_xor, bit_xor, bit_xor, h16, nib_low _ (by omega)]
  rfl
theorem byte_bits (s c : Nat) : byteN s c = bitsN 8 (s ^^^ c) := by
  unfold byteN
  rw [nib_bits, nib_bits]
  rfl
theorem tblN_lt : ∀ j, j < 16 → tblN j < 4294967296 := by decide +kernel
theorem nib_lt {s : Nat} (h : s < 4294967296) : nibN s < 4294967296 := by
  have h1 := tblN_lt (s % 16) (by omega)
  exact Nat.xor_lt_two_pow (n := 32) (by omega) h1
theorem byte_lt {s c : Nat} (h : s < 4294967296) (hc : c < 256) : byteN s c < 4294967296 := nib_lt (nib_lt (Nat.xor_lt_two_pow (n := 32) h (by omega)))
theorem bit_lt {s : Nat} (h : s < 4294967296) : bitN s < 4294967296 := by
  unfold bitN
  split
  · exact Nat.xor_lt_two_pow (n := 32) (by omega) (by decide)
  · omega
theorem bits_lt (k : Nat) {s : Nat} (h : s < 4294967296) : bitsN k s < 4294967296 := by
  induction k with
  | zero => exact h
  | succ k ih => exact bit_lt ih
theorem crc_lt (bs : List Int) (hb : ∀ x ∈ bs, 0 ≤ x ∧ x < 256) : ∀ s, s < 4294967296 → crcN s bs < 4294967296 := by
  induction bs with
  | nil => intro s h; exact h
  | cons c r ih =>
    intro s h
    have := hb c (by simp)
    exact ih (fun x hx => hb x (by simp [hx])) _ (byte_lt h (by omega))
theorem crc_take (s : Nat) (b : List Int) (i : Nat) (h : i < b.length) : crcN s (b.take (i + 1)) = byteN (crcN s (b.take i)) (b.getD i 0).toNat := by
  have e : b.take (i + 1) = b.take i ++ [b.getD i 0] := by
    rw [List.take_add_one, List.getElem?_eq_getElem h]
    simp [List.getD, h]
  unfold crcN
  rw [e, List.foldl_append]
  rfl
theorem compl32 (n : Nat) (h : n < 4294967296) : 4294967295 ^^^ n = 4294967295 - n := by
  have h1 : (BitVec.allOnes 32 ^^^ BitVec.ofNat 32 n).toNat = (~~~ (BitVec.ofNat 32 n)).toNat := by rw [BitVec.allOnes_xor]
  rw [BitVec.toNat_xor, BitVec.toNat_not, BitVec.toNat_allOnes, BitVec.toNat_ofNat, Nat.mod_eq_of_lt (by omega)] at h1
  simpa using h1
theorem xor_max (n : Nat) (h : n < 4294967296) : bits .xor .u32 (IntKind.max .u32) (n : Int) = ((4294967295 - n : Nat) : Int) := by
  have : (IntKind.max .u32) = ((4294967295 : Nat) : Int) := by decide
  rw [this, u32_xor_nat 4294967295 n (by decide) h, compl32 n h]
end
section
attribute [local irreducible] zY zZ Step zV Sub zF Fn
theorem wrapU32 (x : Int) (h0 : 0 ≤ x) (h1 : x < 4294967296) : IntKind.u32.wrap x = x := wrap_u32 _ (by omega)
theorem getB {b : List Int} (hb : ∀ x ∈ b, 0 ≤ x ∧ x < 256) (i : Nat) : 0 ≤ b.getD i 0 ∧ b.getD i 0 < 256 := by
  by_cases h : i < b.length
  · simpa [List.getD, h] using hb b[i] (List.getElem_mem h)
  · simp [List.getD, h]
def moreS (b : List Int) (s : Nat) (i : Nat) : AS :=
  { t := [(4, .p (.val (.int .u32 0))), (5, .p (.val (.int .u32 (s : Int)))), (10, .p (.sl (byts b))), (11, .p (.val (.int .i64 b.length))), (12, .p (.val (.int .i64 i)))], s := [] }
theorem more_fn (sum : Nat) (b : List Int) (hs : sum < 4294967296) (h64 : b.length ≤ 9223372036854775807) (hb : ∀ x ∈ b, 0 ≤ x ∧ x < 256) :
    Fn Tryz.prog 233 [.val (.int .u32 sum), .sl (byts b)] (.p (.val (.int .u32 (q9 sum b)))) := by
  have g0 := xor_max sum hs
  refine xV Tryz.func233 rfl Tryz.ntmps233 (Nat.le_of_ble_eq_true rfl) ?_
  repeat' (first | (refine zY.nil ?_) | (refine zZ.is ?_; first | refine zZ.seq ?_ | (refine zZ.iR 0 ?_; refine zZ.rc [0, 1] [] (r := (.v zW .e)) (h := ?_)) | (refine zZ.iR 1 ?_; refine zZ.rc [0, 1, 4] [] (r := (.v zX (.v v51_0 (.v zW .e)))) (h := ?_)) | (refine zZ.iR 2 ?_; refine zZ.rc [1, 4, 5] [] (r := (.v zX (.v v57_0 (.v zX .e)))) (h := ?_)) | refine zZ.block ?_))
  refine zZ.loop (fun i => moreS b (crcN (4294967295 - sum) (b.take i)) i) (fun i => i ≤ b.length) (fun i => b.length - i) 0 ?h0 (Nat.zero_le _) ?rd
  case h0 =>
    exact yM K_q []
  case rd =>
    intro i hi
    have hlt := crc_lt (b.take i) (fun x hx => hb x (List.mem_of_mem_take hx)) (4294967295 - sum) (by omega)
    generalize hst : crcN (4294967295 - sum) (b.take i) = st at *
    by_cases hc : i < b.length
    · have hdec : decide ((i : Int) < (b.length : Int)) = true := by simpa using hc
      have hB := getB hb i
      have hst2 := crc_take (4294967295 - sum) b i hc
      rw [hst] at hst2
      generalize hcc : b.getD i 0 = c at *
      have hcN : c = ((c.toNat : Nat) : Int) := by omega
      have s1 : st ^^^ c.toNat < 4294967296 := Nat.xor_lt_two_pow (n := 32) hlt (by omega)
      have g1 : IntKind.u32.wrap (b.getD (i : Int).toNat 0) = ((c.toNat : Nat) : Int) := by
        rw [Int.toNat_natCast, hcc, wrapU32 c (by omega) (by omega)]
        exact hcN
      have g2 : bits .xor .u32 (st : Int) ((c.toNat : Nat) : Int) = ((st ^^^ c.toNat : Nat) : Int) := u32_xor_nat st c.toNat hlt (by omega)
      have sh : ∀ s : Nat, (s : Int) / 2 ^ (4 : Int).toNat = ((s / 16 : Nat) : Int) := fun s => by show (s : Int) / 16 = _; omega
      have an : ∀ s : Nat, s < 4294967296 → bits .and .u32 (s : Int) 15 = ((s % 16 : Nat) : Int) := fun s h => by
        rw [show (15 : Int) = ((15 : Nat) : Int) from rfl, u32_and_nat s 15 h (by decide)]
        have : s &&& 15 = s % 16 := Nat.and_two_pow_sub_one_eq_mod s 4
        rw [this]
      have tb : ∀ s : Nat, tbl0[((s % 16 : Nat) : Int).toNat]? = some (.u32, ((tblN (s % 16) : Nat) : Int)) := fun s => by
        rw [Int.toNat_natCast]
        have : ∀ j, j < 16 → tbl0[j]? = some (.u32, ((tblN j : Nat) : Int)) := by decide +kernel
        exact this _ (by omega)
      have xr : ∀ s : Nat, s < 4294967296 → bits .xor .u32 ((s / 16 : Nat) : Int) ((tblN (s % 16) : Nat) : Int) = ((nibN s : Nat) : Int) := fun s h => u32_xor_nat _ _ (by omega) (tblN_lt _ (by omega))
      have g3 := sh (st ^^^ c.toNat)
      have g4 := an _ s1
      have g5 := tb (st ^^^ c.toNat)
      have g6 := xr _ s1
      have s2 := nib_lt s1
      have g7 := sh (nibN (st ^^^ c.toNat))
      have g8 := an _ s2
      have g9 := tb (nibN (st ^^^ c.toNat))
      have g10 := xr _ s2
      clear sh an tb xr
      repeat' (first | (refine zY.nil ?_) | (refine zZ.is ?_; first | refine zZ.seq ?_ | (refine zZ.iR 3 ?_; refine zZ.rc [4, 5, 7, 10, 11, 12, 13] [] (r := (.v yU .e)) (h := ?_)) | (refine zZ.iR 4 ?_; refine zZ.rc [4, 5, 7, 10, 11, 12, 13] [] (r := (.v v7_4 (.v v2_1 (.v zW .e)))) (h := ?_)) | (refine zZ.iR 5 ?_; refine zZ.rc [4, 5, 7, 10, 11, 12, 13] [] (r := (.v zX (.v zX (.v qH (.v v37_0 (.v zW .e)))))) (h := ?_)) | (refine zZ.iR 6 ?_; refine zZ.rc [4, 5, 7, 10, 11, 12, 13] [] (r := (.v zX (.v v39_0 (.v zX (.v v35_0 (.v v7_34 (.v v2_1 (.v v37_0 (.v zW .e))))))))) (h := ?_)) | (refine zZ.iR 7 ?_; refine zZ.rc [4, 5, 7, 10, 11, 12, 13] [] (r := (.v zX (.v v39_0 (.v zX (.v v35_0 (.v v7_34 (.v v2_1 (.v v37_0 (.v zW .e))))))))) (h := ?_)) | (refine zZ.iR 8 ?_; refine zZ.rc [4, 5, 7, 10, 11, 12, 13] [] (r := (.v v30_5 (.v zX .e))) (h := ?_)) | refine zZ.yB rfl bA ?_ | refine zZ.skip ?_ | refine zZ.block ?_) | refine zK.n ?_)
      refine ⟨i + 1, ?_, by omega, by omega⟩
      show Sub _ (moreS b (crcN (4294967295 - sum) (b.take (i + 1))) (i + 1))
      rw [hst2]
      exact yM K_q []
    · have hdec : decide ((i : Int) < (b.length : Int)) = false := by simpa using hc
      have hl : b.take i = b := List.take_of_length_le (by omega)
      have g1 : bits .xor .u32 (IntKind.max .u32) (st : Int) = ((q9 sum b : Nat) : Int) := by
        rw [xor_max st hlt]
        unfold q9
        rw [← hst, hl]
      repeat' (first | (refine zY.nil ?_) | (refine zZ.is ?_; first | refine zZ.seq ?_ | (refine zZ.iR 3 ?_; refine zZ.rc [4, 5, 7, 10, 11, 12, 13] [] (r := (.v yU .e)) (h := ?_)) | (refine zZ.iR 9 ?_; refine zZ.rc [4, 5] [] (r := (.v zX (.v v51_0 (.v zW .e)))) (h := ?_)) | refine zZ.yA rfl bA ?_ | refine zZ.exit ?_ | refine zZ.ret ?_))
      all_goals exact ⟨.inl rfl, gives1 rfl rfl rfl⟩
theorem sum_fn (b : List Int) (h64 : b.length ≤ 9223372036854775807) (hb : ∀ x ∈ b, 0 ≤ x ∧ x < 256) : Fn Tryz.prog 226 [.sl (byts b)] (.p (.val (.int .u32 (q9 0 b)))) := by
  have c1 := more_fn 0 b (by decide) h64 hb
  refine xV Tryz.func226 rfl Tryz.ntmps226 (Nat.le_of_ble_eq_true rfl) ?_
  repeat' (first | (refine zY.is ?_; first | refine zY.nil ?_ | (refine zY.at_ 2 rfl ?_; refine zY.rc (.v zW .e) ?_) | (refine zY.in_ [4] rfl ?_; refine zY.v rfl rfl (zG (c1) rfl rfl rfl (by decide)) ?_)) | (refine zZ.is ?_; first | refine zZ.seq ?_ | (refine zZ.iR 0 ?_; refine zZ.rc [0] [] (r := (.v zW .e)) (h := ?_)) | (refine zZ.iR 1 ?_; refine zZ.rc [0, 2] [] (r := (.v zX .e)) (h := ?_)) | refine zZ.ret ?_))
  all_goals exact ⟨.inl rfl, gives1 rfl rfl rfl⟩
def moreR (b : List Int) (s : Nat) (i : Nat) : AS :=
  { t := [(1, .p (.sl (byts b))), (4, .p (.val (.int .u32 0))), (5, .p (.val (.int .u32 (s : Int)))), (6, .p (.val (.int .i64 i)))], s := [] }
def moreRI (b : List Int) (s : Nat) (i k : Nat) : AS :=
  { t := [(1, .p (.sl (byts b))), (4, .p (.val (.int .u32 0))), (5, .p (.val (.int .u32 (bitsN k s : Int)))), (6, .p (.val (.int .i64 i))), (7, .p (.val (.int .i64 k)))], s := [] }
theorem moreRef_fn (sum : Nat) (b : List Int) (hs : sum < 4294967296) (h64 : b.length ≤ 9223372036854775807) (hb : ∀ x ∈ b, 0 ≤ x ∧ x < 256) :
    Fn Tryz.prog 229 [.val (.int .u32 sum), .sl (byts b)] (.p (.val (.int .u32 (q9 sum b)))) := by
  have g0 : IntKind.u32.wrap (4294967295 - (sum : Int)) = ((4294967295 - sum : Nat) : Int) := by rw [wrapU32 _ (by omega) (by omega)]; omega
  refine xV Tryz.func229 rfl Tryz.ntmps229 (Nat.le_of_ble_eq_true rfl) ?_
  repeat' (first | (refine zY.nil ?_) | (refine zZ.is ?_; first | refine zZ.seq ?_ | (refine zZ.iR 0 ?_; refine zZ.rc [0, 1] [] (r := (.v zW .e)) (h := ?_)) | (refine zZ.iR 1 ?_; refine zZ.rc [0, 1, 4] [] (r := (.v zX (.v v31_0 (.v zW .e)))) (h := ?_)) | (refine zZ.iR 2 ?_; refine zZ.rc [1, 4, 5] [] (r := (.v zW .e)) (h := ?_)) | refine zZ.block ?_))
  refine zZ.loop (fun i => moreR b (crcN (4294967295 - sum) (b.take i)) i) (fun i => i ≤ b.length) (fun i => b.length - i) 0 ?h0 (Nat.zero_le _) ?rd
  case h0 =>
    exact yM K_r []
  case rd =>
    intro i hi
    have hlt := crc_lt (b.take i) (fun x hx => hb x (List.mem_of_mem_take hx)) (4294967295 - sum) (by omega)
    generalize hst : crcN (4294967295 - sum) (b.take i) = st at *
    by_cases hc : i < b.length
    · have hdec : decide ((i : Int) < (b.length : Int)) = true := by simpa using hc
      have hB := getB hb i
      have hst2 := crc_take (4294967295 - sum) b i hc
      rw [hst, byte_bits] at hst2
      generalize hcc : b.getD i 0 = c at *
      have hcN : c = ((c.toNat : Nat) : Int) := by omega
      have s1 : st ^^^ c.toNat < 4294967296 := Nat.xor_lt_two_pow (n := 32) hlt (by omega)
      have g1 : IntKind.u32.wrap (b.getD (i : Int).toNat 0) = ((c.toNat : Nat) : Int) := by
        rw [Int.toNat_natCast, hcc, wrapU32 c (by omega) (by omega)]
        exact hcN
      have g2 : bits .xor .u32 (st : Int) ((c.toNat : Nat) : Int) = ((st ^^^ c.toNat : Nat) : Int) := u32_xor_nat st c.toNat hlt (by omega)
      repeat' (first | (refine zY.nil ?_) | (refine zZ.is ?_; first | refine zZ.seq ?_ | (refine zZ.iR 3 ?_; refine zZ.rc [1, 4, 5, 6, 7, 8, 14, 25, 33] [] (r := (.v zX (.v zX (.v v57_0 (.v yU .e))))) (h := ?_)) | (refine zZ.iR 5 ?_; refine zZ.rc [1, 4, 5, 6, 7, 8, 14, 25, 33] [] (r := (.v zX (.v zX (.v zX (.v v7_4 (.v v2_1 (.v qH (.v v37_0 (.v zW .e))))))))) (h := ?_)) | (refine zZ.iR 6 ?_; refine zZ.rc [1, 4, 5, 6, 7, 8, 14, 25, 33] [] (r := (.v zW .e)) (h := ?_)) | refine zZ.yB rfl bA ?_ | refine zZ.skip ?_ | refine zZ.block ?_))
      refine zZ.loop (fun k => moreRI b (st ^^^ c.toNat) i k) (fun k => k ≤ 8) (fun k => 8 - k) 0 ?h0 (Nat.zero_le _) ?rd
      case h0 =>
        exact yM K_o []
      case rd =>
        intro k hk
        have hlk := bits_lt k s1
        have hsucc : bitsN (k + 1) (st ^^^ c.toNat) = bitN (bitsN k (st ^^^ c.toNat)) := rfl
        by_cases hk8 : k < 8
        · have hd8 : decide ((k : Int) < 8) = true := by simp; omega
          have hk8' : (k : Int) < 8 := by omega
          generalize hsk : bitsN k (st ^^^ c.toNat) = sk at *
          have q1 : ((sk : Nat) : Int).tmod 2 = ((sk % 2 : Nat) : Int) := by rw [Int.tmod_eq_emod_of_nonneg (by omega)]; omega
          have q2 : IntKind.u32.wrap (((sk : Nat) : Int).tdiv 2) = ((sk / 2 : Nat) : Int) := by rw [Int.tdiv_eq_ediv_of_nonneg (by omega), wrapU32 _ (by omega) (by omega)]; omega
          unfold moreRI
          rw [hsk]
          by_cases hp : sk % 2 = 1
          · have q3 : decide (((sk % 2 : Nat) : Int) = 1) = true := decide_eq_true (by omega)
            have q4 : bits .xor .u32 ((sk / 2 : Nat) : Int) 3988292384 = ((bitN sk : Nat) : Int) := by
              have := u32_xor_nat (sk / 2) 3988292384 (by omega) (by decide)
              unfold bitN
              rw [if_pos hp]
              exact this
            repeat' (first | (refine zY.nil ?_) | (refine zZ.is ?_; first | refine zZ.seq ?_ | (refine zZ.iR 7 ?_; refine zZ.rc [1, 4, 5, 6, 7, 8, 14, 25, 33] [] (r := (.v zX (.v yU .e))) (h := ?_)) | (refine zZ.iR 9 ?_; refine zZ.rc [1, 4, 5, 6, 7, 8, 14, 25, 33] [] (r := (.v zX (.v kF (.v zW .e)))) (h := ?_)) | (refine zZ.iR 10 ?_; refine zZ.rc [1, 4, 5, 6, 7, 8, 14, 25, 33] [] (r := (.v zX (.v v33_0 (.v zW .e)))) (h := ?_)) | (refine zZ.iR 11 ?_; refine zZ.rc [1, 4, 5, 6, 7, 8, 14, 25, 33] [] (r := (.v zX (.v v41_0 .e))) (h := ?_)) | (refine zZ.iR 12 ?_; refine zZ.rc [1, 4, 5, 6, 7, 8, 14, 25, 33] [] (r := (.v zX (.v v37_0 (.v zW .e)))) (h := ?_)) | (refine zZ.iR 8 ?_; refine zZ.rc [1, 4, 5, 6, 7, 8, 14, 25, 33] [] (r := (.v zX (.v v30_5 (.v zW .e)))) (h := ?_)) | refine zZ.yB rfl bA ?_ | refine zZ.skip ?_ | refine zZ.block ?_) | refine zK.n ?_)
            refine ⟨k + 1, ?_, by omega, by omega⟩
            rw [hsucc]
            exact yM K_o []
          · have q3 : decide (((sk % 2 : Nat) : Int) = 1) = false := decide_eq_false (by omega)
            have q4 : bitN sk = sk / 2 := if_neg hp
            repeat' (first | (refine zY.nil ?_) | (refine zZ.is ?_; first | refine zZ.seq ?_ | (refine zZ.iR 7 ?_; refine zZ.rc [1, 4, 5, 6, 7, 8, 14, 25, 33] [] (r := (.v zX (.v yU .e))) (h := ?_)) | (refine zZ.iR 9 ?_; refine zZ.rc [1, 4, 5, 6, 7, 8, 14, 25, 33] [] (r := (.v zX (.v kF (.v zW .e)))) (h := ?_)) | (refine zZ.iR 10 ?_; refine zZ.rc [1, 4, 5, 6, 7, 8, 14, 25, 33] [] (r := (.v zX (.v v33_0 (.v zW .e)))) (h := ?_)) | (refine zZ.iR 11 ?_; refine zZ.rc [1, 4, 5, 6, 7, 8, 14, 25, 33] [] (r := (.v zX (.v v41_0 .e))) (h := ?_)) | (refine zZ.iR 8 ?_; refine zZ.rc [1, 4, 5, 6, 7, 8, 14, 25, 33] [] (r := (.v zX (.v v30_5 (.v zW .e)))) (h := ?_)) | refine zZ.yB rfl bA ?_ | refine zZ.yA rfl bA ?_ | refine zZ.skip ?_ | refine zZ.block ?_) | refine zK.n ?_)
            refine ⟨k + 1, ?_, by omega, by omega⟩
            rw [hsucc, q4]
            exact yM K_o []
        · have hd8 : decide ((k : Int) < 8) = false := by simp; omega
          obtain rfl : k = 8 := by omega
          repeat' (first | (refine zY.nil ?_) | (refine zZ.is ?_; first | refine zZ.seq ?_ | (refine zZ.iR 7 ?_; refine zZ.rc [1, 4, 5, 6, 7, 8, 14, 25, 33] [] (r := (.v zX (.v yU .e))) (h := ?_)) | (refine zZ.iR 4 ?_; refine zZ.rc [1, 4, 5, 6, 7, 8, 14, 25, 33] [] (r := (.v zX (.v v30_5 (.v zW .e)))) (h := ?_)) | refine zZ.yA rfl bA ?_ | refine zZ.exit ?_) | refine zK.n ?_)
          refine ⟨i + 1, ?_, by omega, by omega⟩
          show Sub _ (moreR b (crcN (4294967295 - sum) (b.take (i + 1))) (i + 1))
          rw [hst2]
          exact yM K_r []
    · have hdec : decide ((i : Int) < (b.length : Int)) = false := by simpa using hc
      have hl : b.take i = b := List.take_of_length_le (by omega)
      have g1 : IntKind.u32.wrap (4294967295 - (st : Int)) = ((q9 sum b : Nat) : Int) := by
        rw [wrapU32 _ (by omega) (by omega)]
        unfold q9
        rw [← hl, hst]
        omega
      repeat' (first | (refine zY.nil ?_) | (refine zZ.is ?_; first | refine zZ.seq ?_ | (refine zZ.iR 3 ?_; refine zZ.rc [1, 4, 5, 6, 7, 8, 14, 25, 33] [] (r := (.v zX (.v zX (.v v57_0 (.v yU .e))))) (h := ?_)) | (refine zZ.iR 13 ?_; refine zZ.rc [4, 5] [] (r := (.v zX (.v v31_0 (.v zW .e)))) (h := ?_)) | refine zZ.yA rfl bA ?_ | refine zZ.exit ?_ | refine zZ.ret ?_))
      all_goals exact ⟨.inl rfl, gives1 rfl rfl rfl⟩
theorem sumRef_fn (b : List Int) (h64 : b.length ≤ 9223372036854775807) (hb : ∀ x ∈ b, 0 ≤ x ∧ x < 256) : Fn Tryz.prog 222 [.sl (byts b)] (.p (.val (.int .u32 (q9 0 b)))) := by
  have c1 := moreRef_fn 0 b (by decide) h64 hb
  refine xV Tryz.func222 rfl Tryz.ntmps222 (Nat.le_of_ble_eq_true rfl) ?_
  repeat' (first | (refine zY.is ?_; first | refine zY.nil ?_ | (refine zY.at_ 2 rfl ?_; refine zY.rc (.v zW .e) ?_) | (refine zY.in_ [4] rfl ?_; refine zY.v rfl rfl (zG (c1) rfl rfl rfl (by decide)) ?_)) | (refine zZ.is ?_; first | refine zZ.seq ?_ | (refine zZ.iR 0 ?_; refine zZ.rc [0] [] (r := (.v zW .e)) (h := ?_)) | (refine zZ.iR 1 ?_; refine zZ.rc [0, 2] [] (r := (.v zX .e)) (h := ?_)) | refine zZ.ret ?_))
  all_goals exact ⟨.inl rfl, gives1 rfl rfl rfl⟩
end
section
open Go.RowKit
def stampB (n : Int) : Bool := decide (0 < n ∧ n < 4611686018427387904)
def rightB (k : Int) : Bool := decide (k / 2147483648 < 1073741824 ∧ k % 2147483648 ≤ 1073741824)
theorem and_mask31 (n : Int) (h0 : 0 ≤ n) (h1 : n < 18446744073709551616) : bits .and .u64 n 2147483647 = n % 2147483648 := by
  obtain ⟨k, rfl⟩ := Int.eq_ofNat_of_zero_le h0
  have h := bits_and_u64_nat k 2147483647 (by omega) (by omega)
  have e : k &&& 2147483647 = k % 2147483648 := Nat.and_two_pow_sub_one_eq_mod k 31
  rw [e] at h
  exact h
theorem stampB_yes {n : Int} (h : 0 < n) : stampB n = decide (n < 4611686018427387904) := by simp [stampB, h]
theorem stampB_yes' {n : Int} (h : 1 ≤ n) : stampB n = decide (n ≤ 4611686018427387903) := by
  unfold stampB
  rw [decide_eq_decide]
  omega
theorem stampB_no {n : Int} (h : n ≤ 0) : stampB n = false := by
  unfold stampB
  rw [decide_eq_false_iff_not]
  omega
theorem rightB_yes {n : Int} (h : n / 2147483648 < 1073741824) : rightB n = decide (n % 2147483648 ≤ 1073741824) := by simp [rightB, h]
theorem rightB_no {n : Int} (h : 1073741824 ≤ n / 2147483648) : rightB n = false := by
  unfold rightB
  rw [decide_eq_false_iff_not]
  omega
end
section
attribute [local irreducible] zY zZ Step zV Sub zF Fn
theorem eqB {a b : Bool} (h : a = b) : PV.val (.bool a) = PV.val (.bool b) := by rw [h]
theorem stamp_fn (n : Int) : Fn Tryz.prog 230 [.val (.int .u64 n)] (.p (.val (.bool (stampB n)))) := by
  refine xV Tryz.func230 rfl Tryz.ntmps230 (Nat.le_of_ble_eq_true rfl) ?_
  repeat' (first | (refine zY.is ?_; first | refine zY.nil ?_ | (refine zY.at_ 6 rfl ?_; refine zY.rc (.gY zX (.gY v43_8 (.v yH (.v zW .e)))) ?_) | (refine zY.at_ 6 rfl ?_; refine zY.rc (.gT (.gT (.v yP (.v zW .e)))) ?_) | (fail_if_success refine zY.known rfl rfl rfl (by fail) ?_); refine zY.split rfl rfl rfl (fun h => ?_) (fun h => ?_)) | (refine zZ.is ?_; first | refine zZ.seq ?_ | (refine zZ.iR 0 ?_; refine zZ.rc [0] [] (r := (.v zW .e)) (h := ?_)) | (refine zZ.iR 1 ?_; refine zZ.rc [0, 2] [] (r := (.v zX (.v v45_8 (.v zX .e)))) (h := ?_)) | refine zZ.ret ?_))
  all_goals refine ⟨.inl rfl, gives1 rfl rfl (eqB ?_)⟩
  all_goals simp only [decide_eq_true_eq, decide_eq_false_iff_not] at *
  · exact (stampB_yes (by omega)).symm
  · exact (stampB_no (by omega)).symm
theorem stampRef_fn (n : Int) : Fn Tryz.prog 228 [.val (.int .u64 n)] (.p (.val (.bool (stampB n)))) := by
  refine xV Tryz.func228 rfl Tryz.ntmps228 (Nat.le_of_ble_eq_true rfl) ?_
  repeat' (first | (refine zY.is ?_; first | refine zY.nil ?_ | (refine zY.at_ 6 rfl ?_; refine zY.rc (.gY zX (.gY v44_8 (.v yH (.v zW .e)))) ?_) | (refine zY.at_ 6 rfl ?_; refine zY.rc (.gT (.gT (.v yP (.v zW .e)))) ?_) | (fail_if_success refine zY.known rfl rfl rfl (by fail) ?_); refine zY.split rfl rfl rfl (fun h => ?_) (fun h => ?_)) | (refine zZ.is ?_; first | refine zZ.seq ?_ | (refine zZ.iR 0 ?_; refine zZ.rc [0] [] (r := (.v zW .e)) (h := ?_)) | (refine zZ.iR 1 ?_; refine zZ.rc [0, 2] [] (r := (.v zX (.v v46_8 (.v zX .e)))) (h := ?_)) | refine zZ.ret ?_))
  all_goals refine ⟨.inl rfl, gives1 rfl rfl (eqB ?_)⟩
  all_goals simp only [decide_eq_true_eq, decide_eq_false_iff_not] at *
  · exact (stampB_yes' (by omega)).symm
  · exact (stampB_no (by omega)).symm
theorem right_fn (n : Int) (h0 : 0 ≤ n) (h1 : n < 18446744073709551616) : Fn Tryz.prog 231 [.val (.int .u64 n)] (.p (.val (.bool (rightB n)))) := by
  have hm := and_mask31 n h0 h1
  refine xV Tryz.func231 rfl Tryz.ntmps231 (Nat.le_of_ble_eq_true rfl) ?_
  repeat' (first | (refine zY.is ?_; first | refine zY.nil ?_ | (refine zY.at_ 7 rfl ?_; refine zY.rc (.gY zX (.gY v35_0 (.gY v44_8 (.v yH (.v zW .e))))) ?_) | (refine zY.at_ 7 rfl ?_; refine zY.rc (.gT (.gT (.gT (.v yP (.v zW .e))))) ?_) | (fail_if_success refine zY.known rfl rfl rfl (by fail) ?_); refine zY.split rfl rfl rfl (fun h => ?_) (fun h => ?_)) | (refine zZ.is ?_; first | refine zZ.seq ?_ | (refine zZ.iR 0 ?_; refine zZ.rc [0] [] (r := (.v zW .e)) (h := ?_)) | (refine zZ.iR 1 ?_; refine zZ.rc [0, 2] [] (r := (.v zX (.v v39_1 (.v v43_8 (.v zX .e))))) (h := ?_)) | refine zZ.ret ?_))
  all_goals refine ⟨.inl rfl, gives1 rfl rfl (eqB ?_)⟩
  all_goals simp only [decide_eq_true_eq, decide_eq_false_iff_not] at *
  · exact (rightB_yes (by omega)).symm
  · exact (rightB_no (by omega)).symm
theorem split_fn (n : Int) (h0 : 0 ≤ n) (h1 : n < 18446744073709551616) : Fn Tryz.prog 88 [.val (.int .u64 n)] (.tup [.val (.int .i64 (n / 2147483648)), .val (.int .i64 (n % 2147483648 - 1))]) := by
  have hm := and_mask31 n h0 h1
  refine xV Tryz.func88 rfl Tryz.ntmps88 (Nat.le_of_ble_eq_true rfl) ?_
  repeat' (first | (refine zY.nil ?_) | (refine zZ.is ?_; first | refine zZ.seq ?_ | (refine zZ.iR 0 ?_; refine zZ.rc [0] [] (r := (.v zW (.v zW .e))) (h := ?_)) | (refine zZ.iR 1 ?_; refine zZ.rc [0, 2, 3] [] (r := (.v zX (.v v39_1 (.v v6_5 (.v zX (.v v35_0 (.v v6_5 (.v v31_5 (.v zW (.v zW .e)))))))))) (h := ?_)) | refine zZ.ret ?_))
  all_goals refine ⟨.inl rfl, givesT (ts := [2, 3]) rfl (by decide) rfl⟩
theorem rightRef_fn (n : Int) (h0 : 0 ≤ n) (h1 : n < 18446744073709551616) : Fn Tryz.prog 227 [.val (.int .u64 n)] (.p (.val (.bool (rightB n)))) := by
  have hq : n.tdiv 2147483648 = n / 2147483648 := Int.tdiv_eq_ediv_of_nonneg h0
  have hr : n.tmod 2147483648 = n % 2147483648 := Int.tmod_eq_emod_of_nonneg h0
  have hw : IntKind.u64.wrap (n.tdiv 2147483648) = n / 2147483648 := by rw [hq]; exact wrap_u64 _ (by omega)
  refine xV Tryz.func227 rfl Tryz.ntmps227 (Nat.le_of_ble_eq_true rfl) ?_
  repeat' (first | (refine zY.is ?_; first | refine zY.nil ?_ | (refine zY.at_ 7 rfl ?_; refine zY.rc (.gY zX (.gY kF (.gY v44_8 (.v yH (.v zW .e))))) ?_) | (refine zY.at_ 7 rfl ?_; refine zY.rc (.gT (.gT (.gT (.v yP (.v zW .e))))) ?_) | (fail_if_success refine zY.known rfl rfl rfl (by fail) ?_); refine zY.split rfl rfl rfl (fun h => ?_) (fun h => ?_)) | (refine zZ.is ?_; first | refine zZ.seq ?_ | (refine zZ.iR 0 ?_; refine zZ.rc [0] [] (r := (.v zW .e)) (h := ?_)) | (refine zZ.iR 1 ?_; refine zZ.rc [0, 2] [] (r := (.v zX (.v v33_0 (.v v44_8 (.v zX .e))))) (h := ?_)) | refine zZ.ret ?_))
  all_goals refine ⟨.inl rfl, gives1 rfl rfl (eqB ?_)⟩
  all_goals simp only [decide_eq_true_eq, decide_eq_false_iff_not] at *
  · exact (rightB_yes (by omega)).symm
  · exact (rightB_no (by omega)).symm
end
section
open Go.RowKit
def mayB (k s y u v x : Int) : Bool :=
  if k = 1 then stampB s && rightB y && (if y % 2147483648 = 0 then decide (u = 0 ∧ v = 0) else stampB u && stampB v)
  else if k = 2 then stampB s && decide (y = 0 ∧ u = 0 ∧ v = 0 ∧ x = 0)
  else if k = 3 then decide (s ≤ 65536) && decide (y = 0 ∧ u = 0 ∧ v = 0 ∧ x = 0)
  else false
end
section
attribute [local irreducible] zY zZ Step zV Sub zF Fn
def entV (k s y u v x : Int) : PV := .agg [.val (.int .i64 k), .val (.int .u64 s), .val (.int .u64 y), .val (.int .u64 u), .val (.int .u64 v), .val (.int .u64 x)]
theorem may_fn (k s y u v x : Int) (h0 : 0 ≤ y) (h1 : y < 18446744073709551616) : Fn Tryz.prog 223 [entV k s y u v x] (.p (.val (.bool (mayB k s y u v x)))) := by
  refine xV Tryz.func223 rfl Tryz.ntmps223 (Nat.le_of_ble_eq_true rfl) ?_
  repeat' (first | (refine zY.is ?_; first | refine zY.nil ?_ | (refine zY.at_ 12 rfl ?_; refine zY.rc (.v wU (.v zX .e)) ?_) | (refine zY.at_ 14 rfl ?_; refine zY.rc (.gY zH (.gY zL .e)) ?_) | (refine zY.at_ 14 rfl ?_; refine zY.rc (.gF (.gF (.gF (.gF (.v yH .e))))) ?_) | (refine zY.at_ 17 rfl ?_; refine zY.rc (.gY wU (.v yP .e)) ?_) | (refine zY.at_ 19 rfl ?_; refine zY.rc (.v wW (.v yZ (.v yZ (.v zW (.v zW .e))))) ?_) | (refine zY.at_ 31 rfl ?_; refine zY.rc (.gY zH (.gY zL (.gY wT (.v yH (.v zW .e))))) ?_) | (refine zY.at_ 31 rfl ?_; refine zY.rc (.gT (.gT (.gT (.v yP (.v zW .e))))) ?_) | (refine zY.at_ 38 rfl ?_; refine zY.rc (.v zX .e) ?_) | (refine zY.at_ 39 rfl ?_; refine zY.rc (.gY zH (.gY zL .e)) ?_) | (refine zY.at_ 39 rfl ?_; refine zY.rc (.gT (.gT (.gT (.v yP (.v zW .e))))) ?_) | (refine zY.at_ 42 rfl ?_; refine zY.rc (.v yH (.v zW .e)) ?_) | (refine zY.at_ 48 rfl ?_; refine zY.rc (.v zX .e) ?_) | (refine zY.at_ 49 rfl ?_; refine zY.rc (.gY xC (.gY zH (.gY zL (.gY zH (.gY zL (.gY yD (.gY v41_35 (.v yH (.v zW .e))))))))) ?_) | (refine zY.at_ 49 rfl ?_; refine zY.rc (.gT (.gT (.gT (.gT (.gT (.gT (.gT (.v yP (.v zW .e))))))))) ?_) | (refine zY.at_ 63 rfl ?_; refine zY.rc (.gY xC (.gY zH (.gY zL (.gY zH (.gY zL (.gY yD (.gY v41_35 (.v yH (.v zW .e))))))))) ?_) | (refine zY.at_ 63 rfl ?_; refine zY.rc (.gT (.gT (.gT (.gT (.gT (.gT (.gT (.v yP (.v zW .e))))))))) ?_) | (refine zY.in_ [11, 37, 47] rfl ?_; refine zY.v rfl rfl (zG (stamp_fn _) rfl rfl rfl (by decide)) ?_) | (refine zY.in_ [22] rfl ?_; refine zY.v rfl rfl (yR (split_fn _ h0 h1) rfl rfl rfl (by decide)) ?_) | (refine zY.in_ [41] rfl ?_; refine zY.gY rfl rfl (by decide) rfl bA rfl (by decide) (zG (stamp_fn _) rfl rfl rfl (by decide)) ?_) | (refine zY.in_ [16] rfl ?_; refine zY.gY rfl rfl (by decide) rfl bA rfl (by decide) (zG (right_fn _ h0 h1) rfl rfl rfl (by decide)) ?_) | (fail_if_success refine zY.known rfl rfl rfl (by fail) ?_); refine zY.split rfl rfl rfl (fun h => ?_) (fun h => ?_)) | (refine zZ.is ?_; first | refine zZ.seq ?_ | (refine zZ.iR 0 ?_; refine zZ.rc [0] [1] (r := (.m yI (.v zW .e))) (h := ?_)) | (refine zZ.iR 1 ?_; refine zZ.rc [1, 2] [1] (r := (.v zH (.v zL .e))) (h := ?_)) | (refine zZ.iR 2 ?_; refine zZ.rc [1, 2, 6] [1] (r := (.v wT (.v zW .e))) (h := ?_)) | (refine zZ.iR 3 ?_; refine zZ.rc [1, 2, 6] [1] (r := (.v zH (.v zL .e))) (h := ?_)) | (refine zZ.iR 4 ?_; refine zZ.rc [1, 2, 6] [1] (r := (.v zW .e)) (h := ?_)) | (refine zZ.iR 5 ?_; refine zZ.rc [1, 2, 6] [1] (r := (.v zH (.v zL .e))) (h := ?_)) | (refine zZ.iR 6 ?_; refine zZ.rc [1, 2, 4, 6] [1] (r := (.v zX (.v v43_8 .e))) (h := ?_)) | (refine zZ.iR 7 ?_; refine zZ.rc [1, 2, 6] [1] (r := (.v zH (.v zL (.v wT (.v zX .e))))) (h := ?_)) | (refine zZ.iR 8 ?_; refine zZ.rc [1, 2, 6] [1] (r := (.v zH (.v zL .e))) (h := ?_)) | (refine zZ.iR 9 ?_; refine zZ.rc [1, 2, 6] [1] (r := (.v wT (.v zW .e))) (h := ?_)) | (refine zZ.iR 10 ?_; refine zZ.rc [1, 2, 6] [1] (r := (.v zH (.v zL .e))) (h := ?_)) | (refine zZ.iR 11 ?_; refine zZ.rc [1, 2, 6] [1] (r := (.v wT (.v zW .e))) (h := ?_)) | (refine zZ.iR 12 ?_; refine zZ.rc [1, 2] [1] (r := (.v zH (.v zL (.v v44_8 (.v zX .e))))) (h := ?_)) | (refine zZ.iR 13 ?_; refine zZ.rc [2] [1] (r := (.v zW .e)) (h := ?_)) | refine zZ.yB rfl bA ?_ | refine zZ.cond rfl (fun h => ?_) (fun h => ?_) | refine zZ.skip ?_ | refine zZ.block ?_ | refine zZ.ret ?_) | refine zK.r ?_ | refine zI.r ?_)
  all_goals refine ⟨.inl rfl, gives1 rfl rfl (eqB ?_)⟩
  all_goals simp only [decide_eq_true_eq, decide_eq_false_iff_not, Bool.not_eq_true', Bool.not_eq_false'] at *
  all_goals try subst k
  all_goals try (have hq : y % 2147483648 = 0 := by omega)
  all_goals try (have hq : ¬ y % 2147483648 = 0 := by omega)
  all_goals (unfold mayB; (simp [*]; done))
theorem mayRef_fn (k s y u v x : Int) (h0 : 0 ≤ y) (h1 : y < 18446744073709551616) : Fn Tryz.prog 220 [entV k s y u v x] (.p (.val (.bool (mayB k s y u v x)))) := by
  refine xV Tryz.func220 rfl Tryz.ntmps220 (Nat.le_of_ble_eq_true rfl) ?_
  have hr : y.tmod 2147483648 = y % 2147483648 := Int.tmod_eq_emod_of_nonneg h0
  repeat' (first | (refine zY.is ?_; first | refine zY.nil ?_ | (refine zY.at_ 13 rfl ?_; refine zY.rc (.gY zH (.gY zL .e)) ?_) | (refine zY.at_ 13 rfl ?_; refine zY.rc (.gF (.gF (.gF (.gF (.v yH .e))))) ?_) | (refine zY.at_ 16 rfl ?_; refine zY.rc (.gY wU (.v yP .e)) ?_) | (refine zY.at_ 26 rfl ?_; refine zY.rc (.gY zH (.gY zL (.gY wT (.v yH (.v zW .e))))) ?_) | (refine zY.at_ 26 rfl ?_; refine zY.rc (.gT (.gT (.gT (.v yP (.v zW .e))))) ?_) | (refine zY.at_ 3 rfl ?_; refine zY.rc (.v zW .e) ?_) | (refine zY.at_ 33 rfl ?_; refine zY.rc (.v zX .e) ?_) | (refine zY.at_ 34 rfl ?_; refine zY.rc (.gY zH (.gY zL .e)) ?_) | (refine zY.at_ 34 rfl ?_; refine zY.rc (.gT (.gT (.gT (.v yP (.v zW .e))))) ?_) | (refine zY.at_ 37 rfl ?_; refine zY.rc (.v yH (.v zW .e)) ?_) | (refine zY.at_ 42 rfl ?_; refine zY.rc (.gY zH (.gY zL (.gY kE (.v yP (.v zX .e))))) ?_) | (refine zY.at_ 42 rfl ?_; refine zY.rc (.gF (.gF (.gF (.v yH (.v zX (.gF (.gF (.gF (.v yH (.v zX (.gF (.gF (.gF (.v yH .e)))))))))))))) ?_) | (refine zY.at_ 47 rfl ?_; refine zY.rc (.gY zH (.gY zL (.gY kE (.v yP (.v zX .e))))) ?_) | (refine zY.at_ 47 rfl ?_; refine zY.rc (.gF (.gF (.gF (.v yH (.v zX (.gF (.gF (.gF (.v yH .e))))))))) ?_) | (refine zY.at_ 52 rfl ?_; refine zY.rc (.gY zH (.gY zL (.gY kE (.v yP .e)))) ?_) | (refine zY.at_ 52 rfl ?_; refine zY.rc (.gF (.gF (.gF (.v yH .e)))) ?_) | (refine zY.at_ 60 rfl ?_; refine zY.rc (.gY zH (.gY zL .e)) ?_) | (refine zY.at_ 60 rfl ?_; refine zY.rc (.gT (.gT (.gT (.v yP (.v zX (.gY zH (.gY zL (.gY wT (.gY zX .e))))))))) ?_) | (refine zY.at_ 63 rfl ?_; refine zY.rc (.v yH (.v zX .e)) ?_) | (refine zY.at_ 65 rfl ?_; refine zY.rc (.gY zH (.gY zL (.gY wT (.gY zX .e)))) ?_) | (refine zY.at_ 65 rfl ?_; refine zY.rc (.gF (.gF (.gF (.gF (.gU (.gU (.gU (.gF (.v yH (.v zW .e)))))))))) ?_) | (refine zY.at_ 69 rfl ?_; refine zY.rc (.gY zH (.gY zL (.gY v44_8 (.gY yH (.v yP (.v zW .e)))))) ?_) | (refine zY.at_ 69 rfl ?_; refine zY.rc (.gT (.gT (.gT (.gY yP (.v yP (.v zW .e)))))) ?_) | (refine zY.in_ [32] rfl ?_; refine zY.v rfl rfl (zG (stampRef_fn _) rfl rfl rfl (by decide)) ?_) | (refine zY.in_ [9] rfl ?_; refine zY.v rfl rfl (zG (rightRef_fn _ h0 h1) rfl rfl rfl (by decide)) ?_) | (refine zY.in_ [15, 36, 62] rfl ?_; refine zY.gY rfl rfl (by decide) rfl bA rfl (by decide) (zG (stampRef_fn _) rfl rfl rfl (by decide)) ?_) | (fail_if_success refine zY.known rfl rfl rfl (by fail) ?_); refine zY.split rfl rfl rfl (fun h => ?_) (fun h => ?_)) | (refine zZ.is ?_; first | refine zZ.seq ?_ | (refine zZ.iR 0 ?_; refine zZ.rc [0] [1] (r := (.m yI (.v zW .e))) (h := ?_)) | (refine zZ.iR 1 ?_; refine zZ.rc [1, 2] [1] (r := (.v zH (.v zL (.v wT .e)))) (h := ?_)) | (refine zZ.iR 2 ?_; refine zZ.rc [1, 2] [1] (r := (.v zH (.v zL .e))) (h := ?_)) | (refine zZ.iR 3 ?_; refine zZ.rc [1, 2, 3] [1] (r := (.v zX (.v wU (.v zX .e)))) (h := ?_)) | (refine zZ.iR 4 ?_; refine zZ.rc [1, 2] [1] (r := (.v zW .e)) (h := ?_)) | (refine zZ.iR 5 ?_; refine zZ.rc [1, 2] [1] (r := (.v zH (.v zL (.v kF (.v wT .e))))) (h := ?_)) | (refine zZ.iR 6 ?_; refine zZ.rc [1, 2] [1] (r := (.v zH (.v zL (.v wT (.v zX .e))))) (h := ?_)) | (refine zZ.iR 7 ?_; refine zZ.rc [1, 2] [1] (r := (.v zH (.v zL .e))) (h := ?_)) | (refine zZ.iR 8 ?_; refine zZ.rc [1, 2] [1] (r := (.v zH (.v zL (.v kE (.v zX .e))))) (h := ?_)) | (refine zZ.iR 9 ?_; refine zZ.rc [1, 2] [1] (r := (.v zW .e)) (h := ?_)) | (refine zZ.iR 10 ?_; refine zZ.rc [1, 2] [1] (r := (.v zH (.v zL (.v wT (.v zX .e))))) (h := ?_)) | refine zZ.yB rfl bA ?_ | refine zZ.cond rfl (fun h => ?_) (fun h => ?_) | refine zZ.skip ?_ | refine zZ.ret ?_) | refine zK.r ?_)
  all_goals refine ⟨.inl rfl, gives1 rfl rfl (eqB ?_)⟩
  all_goals simp only [decide_eq_true_eq, decide_eq_false_iff_not, Bool.not_eq_true', Bool.not_eq_false'] at *
  all_goals try subst k
  all_goals (unfold mayB; first | (simp [*]; done) | (simp [*]; omega))
end
section
open Go.RowKit
theorem Tryz.infoByte : (Tryz.prog.info? 5).map (fun i => (i.zero, i.size, i.bytes)) = some (some (.int .u8 0), 1, 1) := by kernel_rfl
def bytesOf : Nat → Int → List Int
  | 0, _ => []
  | k + 1, n => n % 256 :: bytesOf k (n / 256)
theorem pow256_pos (k : Nat) : (0 : Int) < 256 ^ k := by
  induction k with
  | zero => decide
  | succ k ih => rw [Int.pow_succ]; omega
theorem bytesOf_length (k : Nat) (n : Int) : (bytesOf k n).length = k := by
  induction k generalizing n with
  | zero => rfl
  | succ k ih => simp [bytesOf, ih]
theorem bytesOf_snoc (k : Nat) (n : Int) : bytesOf (k + 1) n = bytesOf k n ++ [n / 256 ^ k % 256] := by
  induction k generalizing n with
  | zero => simp [bytesOf]
  | succ k ih =>
    rw [bytesOf, ih (n / 256)]
    simp only [bytesOf, List.cons_append]
    rw [Int.ediv_ediv_of_nonneg (by omega), Int.pow_succ, Int.mul_comm]
theorem eight_any (n : Int) (w : World) (h0 : 0 ≤ n) (h1 : n < 18446744073709551616) :
    Calls Tryz.prog 221 #[.int .u64 n] w fun e w' =>
      ∃ v, e = .returned v ∧ w'.ownsRow w.heap.size 5 1 v 8 ((bytesOf 8 n).map (Value.int .u8)) ∧ Below w.heap.size w w' := by
  obtain ⟨i0, hi, hz0, hz1, hz2⟩ := info_parts Tryz.infoByte
  go_enter Tryz.func221, Tryz.ntmps221
  go_wp2_with fail
  go_loopw [0, 3, 4] (fun m v i wr => ∃ k : Nat, k ≤ 8 ∧ i = .int .i64 k ∧ (∃ q : Int, m = .int .u64 q ∧ 0 ≤ q ∧ q < 18446744073709551616 ∧ Hid (q = n / 256 ^ k)) ∧ wr.ownsRow w.heap.size 5 1 v k ((bytesOf k n).map (Value.int .u8)) ∧ Below w.heap.size w wr)
     (fun _ _ i _ => 8 - (intOf i).toNat)
  case atStart => exact ⟨0, by omega, rfl, ⟨n, rfl, h0, h1, by show n = _; simp⟩, World.ownsRow_nil _ _ _ _, Below.refl _ _⟩
  case round =>
    obtain ⟨k, hk, rfl, ⟨q, rfl, hq0, hq1, HQ⟩, hown, hb⟩ := hrel
    by_cases hlt : k < 8
    · have hsz := hb.size
      go_wp2_with (at_builtin; refine wpList_append_own _ rfl _ _ 31 rfl w.heap.size 5 i0 (.int .u8 0) 1 1 Tryz.underlying31 hi hz0 hz1 hz2 rfl (by decide) _ _ _ rfl (hown.alloc _) ⟨wr.heap.size, 0, none⟩ 1 1 [.int .u8 (q % 256)] rfl rfl cells_new (one_cell rfl) (by unfold maxLen; omega) (by omega) (by simp; omega) ?_)
      intro v' w1 hown' hgrow _
      have hown2 : w1.ownsRow w.heap.size 5 1 v' (k + 1) ((bytesOf (k + 1) n).map (Value.int .u8)) := by
        rw [bytesOf_snoc, List.map_append, ← HQ.out]; exact hown'
      have HQ' : Hid (q / 256 = n / 256 ^ (k + 1)) := by
        show _ = _
        rw [HQ.out, Int.ediv_ediv_of_nonneg (Int.le_of_lt (pow256_pos k)), Int.pow_succ]
      have hb' : Below w.heap.size w w1 := (hb.alloc hsz _).grown hgrow (by simp; omega) (fun j hj => (hown.lt j hj).1)
      clear hown hown' hgrow
      go_wp2
      go_roundw
      case rel => exact ⟨k + 1, by omega, by go_num, ⟨_, rfl, by omega, by omega, HQ'⟩, hown2, hb'⟩
      case measure => simp [intOf]; omega
    · obtain rfl : k = 8 := by omega
      go_wp2
      go_ret
      exact ⟨_, rfl, hown, hb⟩
end
section
theorem rep_owned {M : Nat → Nat → Prop} {w w' : World} {e : Nat} {v : Value} {k : Nat} {bs : List Int} (hM : ∀ k c, M k c → k < w.heap.size) (h : w'.ownsRow w.heap.size e 1 v k (bs.map (Value.int .u8))) : Rep M w' (.sl (byts bs)) v := by
  obtain ⟨hl, h⟩ := h
  have hk : bs.length = k := by simpa using hl
  rcases h with ⟨rfl, rfl⟩ | ⟨g, cap, cur, rfl, hg, hh, hn, hcm, hs, ht⟩
  · have : bs = [] := List.eq_nil_of_length_eq_zero hk
    subst this
    exact .nil
  · refine .sl (byts bs) g 0 k cap (bs.map (Value.int .u8)) (by rw [kV, hk]) (by rw [byts_flat, kV, List.length_map]) (fun j y hy => ?_) (fun j c y hc hy => ?_) (fun v hv => ?_) (fun _ _ hm => ?_) (Array.getElem?_eq_some_iff.1 hh).1 hn hcm
    · rw [Nat.zero_add, cell_of_row w' g j cur e (0, 0) hh]
      rw [← ht, List.getElem?_take] at hy
      split at hy
      · simpa using hy
      · cases hy
    · rw [byts_flat, byts, List.getElem?_map, Option.map_eq_some_iff] at hc
      obtain ⟨b, hb, rfl⟩ := hc
      rw [List.getElem?_map, hb] at hy
      obtain rfl := Option.some.inj hy
      exact .val _
    · obtain ⟨b, _, rfl⟩ := List.mem_map.1 hv
      rfl
    · have := hM g _ hm; omega
theorem eight_fn (n : Int) (h0 : 0 ≤ n) (h1 : n < 18446744073709551616) : Fn Tryz.prog 221 [.val (.int .u64 n)] (.p (.sl (byts (bytesOf 8 n)))) := by
  intro M w vs _ hM hl hr
  match vs, hl with
  | [v], _ =>
    have hv := rep_val (hr 0 _ v rfl rfl)
    subst hv
    refine (eight_any n w h0 h1).mono ?_
    rintro e w' ⟨v, rfl, hown, hb⟩
    exact ⟨v, rfl, rep_owned hM hown, hb⟩
end
end Go.Proofs.YtohlllohmoojiaaGreatDoor
