/- The closed facts on the types and the functions of this seat's translation, as instances. Written by inst.py. -/
import Derived.Test.YtjokcnajopfjhaaWalk3
namespace Go.Proofs.Ytjokcnajopfjhaa
open Go Go.RowKit
set_option maxRecDepth 100000

instance ty2 : TyA Try.prog 2 false 1 := ⟨fun _ => by kernel_rfl, fun _ => by kernel_rfl⟩
instance un2 : Und Try.prog 2 (.int .i64) := ⟨Try.underlying2⟩
instance ze2 : ZeroA Try.prog 2 (Value.int .i64 0) := ⟨fun _ => by kernel_rfl⟩
instance in2 : InfoA Try.prog 2 (Value.int .i64 0) 1 8 := ⟨by kernel_rfl⟩
instance ty3 : TyA Try.prog 3 false 1 := ⟨fun _ => by kernel_rfl, fun _ => by kernel_rfl⟩
instance un3 : Und Try.prog 3 (.int .i64) := ⟨Try.underlying3⟩
instance ze3 : ZeroA Try.prog 3 (Value.int .i64 0) := ⟨fun _ => by kernel_rfl⟩
instance in3 : InfoA Try.prog 3 (Value.int .i64 0) 1 8 := ⟨by kernel_rfl⟩
instance ty4 : TyA Try.prog 4 false 1 := ⟨fun _ => by kernel_rfl, fun _ => by kernel_rfl⟩
instance un4 : Und Try.prog 4 (.bool) := ⟨Try.underlying4⟩
instance ze4 : ZeroA Try.prog 4 (Value.bool false) := ⟨fun _ => by kernel_rfl⟩
instance in4 : InfoA Try.prog 4 (Value.bool false) 1 1 := ⟨by kernel_rfl⟩
instance ty5 : TyA Try.prog 5 false 1 := ⟨fun _ => by kernel_rfl, fun _ => by kernel_rfl⟩
instance un5 : Und Try.prog 5 (.int .u8) := ⟨Try.underlying5⟩
instance ze5 : ZeroA Try.prog 5 (Value.int .u8 0) := ⟨fun _ => by kernel_rfl⟩
instance in5 : InfoA Try.prog 5 (Value.int .u8 0) 1 1 := ⟨by kernel_rfl⟩
instance ty6 : TyA Try.prog 6 false 1 := ⟨fun _ => by kernel_rfl, fun _ => by kernel_rfl⟩
instance un6 : Und Try.prog 6 (.int .u8) := ⟨Try.underlying6⟩
instance ze6 : ZeroA Try.prog 6 (Value.int .u8 0) := ⟨fun _ => by kernel_rfl⟩
instance in6 : InfoA Try.prog 6 (Value.int .u8 0) 1 1 := ⟨by kernel_rfl⟩
instance ty7 : TyA Try.prog 7 true 4 := ⟨fun _ => by kernel_rfl, fun _ => by kernel_rfl⟩
instance bu7 : BuildA Try.prog 7 [(0, 1), (1, 1), (2, 1), (3, 1)] := ⟨by kernel_rfl, by kernel_rfl⟩
instance fi7_0 : FieldA Try.prog 7 0 0 := ⟨fun _ _ _ => by kernel_rfl⟩
instance fi7_1 : FieldA Try.prog 7 1 1 := ⟨fun _ _ _ => by kernel_rfl⟩
instance fi7_2 : FieldA Try.prog 7 2 2 := ⟨fun _ _ _ => by kernel_rfl⟩
instance fi7_3 : FieldA Try.prog 7 3 3 := ⟨fun _ _ _ => by kernel_rfl⟩
instance ze7 : ZeroA Try.prog 7 (Value.agg #[Value.int .i64 0, Value.int .i64 0, Value.bool false, Value.int .u8 0]) := ⟨fun _ => by kernel_rfl⟩
instance in7 : InfoA Try.prog 7 (Value.agg #[Value.int .i64 0, Value.int .i64 0, Value.bool false, Value.int .u8 0]) 4 24 := ⟨by kernel_rfl⟩
instance ty8 : TyA Try.prog 8 true 4 := ⟨fun _ => by kernel_rfl, fun _ => by kernel_rfl⟩
instance bu8 : BuildA Try.prog 8 [(0, 1), (1, 1), (2, 1), (3, 1)] := ⟨by kernel_rfl, by kernel_rfl⟩
instance fi8_0 : FieldA Try.prog 8 0 0 := ⟨fun _ _ _ => by kernel_rfl⟩
instance fi8_1 : FieldA Try.prog 8 1 1 := ⟨fun _ _ _ => by kernel_rfl⟩
instance fi8_2 : FieldA Try.prog 8 2 2 := ⟨fun _ _ _ => by kernel_rfl⟩
instance fi8_3 : FieldA Try.prog 8 3 3 := ⟨fun _ _ _ => by kernel_rfl⟩
instance ze8 : ZeroA Try.prog 8 (Value.agg #[Value.int .i64 0, Value.int .i64 0, Value.bool false, Value.int .u8 0]) := ⟨fun _ => by kernel_rfl⟩
instance in8 : InfoA Try.prog 8 (Value.agg #[Value.int .i64 0, Value.int .i64 0, Value.bool false, Value.int .u8 0]) 4 24 := ⟨by kernel_rfl⟩
instance ty9 : TyA Try.prog 9 false 1 := ⟨fun _ => by kernel_rfl, fun _ => by kernel_rfl⟩
instance un9 : Und Try.prog 9 (.string) := ⟨Try.underlying9⟩
instance ze9 : ZeroA Try.prog 9 (Value.string ⟨#[]⟩) := ⟨fun _ => by kernel_rfl⟩
instance in9 : InfoA Try.prog 9 (Value.string ⟨#[]⟩) 1 16 := ⟨by kernel_rfl⟩
instance ty10 : TyA Try.prog 10 false 1 := ⟨fun _ => by kernel_rfl, fun _ => by kernel_rfl⟩
instance un10 : Und Try.prog 10 (.string) := ⟨Try.underlying10⟩
instance ze10 : ZeroA Try.prog 10 (Value.string ⟨#[]⟩) := ⟨fun _ => by kernel_rfl⟩
instance in10 : InfoA Try.prog 10 (Value.string ⟨#[]⟩) 1 16 := ⟨by kernel_rfl⟩
instance ty11 : TyA Try.prog 11 false 1 := ⟨fun _ => by kernel_rfl, fun _ => by kernel_rfl⟩
instance un11 : Und Try.prog 11 (.string) := ⟨Try.underlying11⟩
instance ze11 : ZeroA Try.prog 11 (Value.string ⟨#[]⟩) := ⟨fun _ => by kernel_rfl⟩
instance in11 : InfoA Try.prog 11 (Value.string ⟨#[]⟩) 1 16 := ⟨by kernel_rfl⟩
instance ty12 : TyA Try.prog 12 false 1 := ⟨fun _ => by kernel_rfl, fun _ => by kernel_rfl⟩
instance un12 : Und Try.prog 12 (.int .u64) := ⟨Try.underlying12⟩
instance ze12 : ZeroA Try.prog 12 (Value.int .u64 0) := ⟨fun _ => by kernel_rfl⟩
instance in12 : InfoA Try.prog 12 (Value.int .u64 0) 1 8 := ⟨by kernel_rfl⟩
instance ty13 : TyA Try.prog 13 true 2 := ⟨fun _ => by kernel_rfl, fun _ => by kernel_rfl⟩
instance bu13 : BuildA Try.prog 13 [(0, 1), (1, 1)] := ⟨by kernel_rfl, by kernel_rfl⟩
instance fi13_0 : FieldA Try.prog 13 0 0 := ⟨fun _ _ _ => by kernel_rfl⟩
instance fi13_1 : FieldA Try.prog 13 1 1 := ⟨fun _ _ _ => by kernel_rfl⟩
instance ze13 : ZeroA Try.prog 13 (Value.agg #[Value.string ⟨#[]⟩, Value.int .u64 0]) := ⟨fun _ => by kernel_rfl⟩
instance in13 : InfoA Try.prog 13 (Value.agg #[Value.string ⟨#[]⟩, Value.int .u64 0]) 2 24 := ⟨by kernel_rfl⟩
instance ty14 : TyA Try.prog 14 true 2 := ⟨fun _ => by kernel_rfl, fun _ => by kernel_rfl⟩
instance bu14 : BuildA Try.prog 14 [(0, 1), (1, 1)] := ⟨by kernel_rfl, by kernel_rfl⟩
instance fi14_0 : FieldA Try.prog 14 0 0 := ⟨fun _ _ _ => by kernel_rfl⟩
instance fi14_1 : FieldA Try.prog 14 1 1 := ⟨fun _ _ _ => by kernel_rfl⟩
instance ze14 : ZeroA Try.prog 14 (Value.agg #[Value.string ⟨#[]⟩, Value.int .u64 0]) := ⟨fun _ => by kernel_rfl⟩
instance in14 : InfoA Try.prog 14 (Value.agg #[Value.string ⟨#[]⟩, Value.int .u64 0]) 2 24 := ⟨by kernel_rfl⟩
instance ty15 : TyA Try.prog 15 false 1 := ⟨fun _ => by kernel_rfl, fun _ => by kernel_rfl⟩
instance un15 : Und Try.prog 15 (.pointer 56) := ⟨Try.underlying15⟩
instance ze15 : ZeroA Try.prog 15 (Value.pointer none) := ⟨fun _ => by kernel_rfl⟩
instance in15 : InfoA Try.prog 15 (Value.pointer none) 1 8 := ⟨by kernel_rfl⟩
instance ty16 : TyA Try.prog 16 false 1 := ⟨fun _ => by kernel_rfl, fun _ => by kernel_rfl⟩
instance un16 : Und Try.prog 16 (.pointer 59) := ⟨Try.underlying16⟩
instance ze16 : ZeroA Try.prog 16 (Value.pointer none) := ⟨fun _ => by kernel_rfl⟩
instance in16 : InfoA Try.prog 16 (Value.pointer none) 1 8 := ⟨by kernel_rfl⟩
instance ty17 : TyA Try.prog 17 false 1 := ⟨fun _ => by kernel_rfl, fun _ => by kernel_rfl⟩
instance un17 : Und Try.prog 17 (.pointer 69) := ⟨Try.underlying17⟩
instance ze17 : ZeroA Try.prog 17 (Value.pointer none) := ⟨fun _ => by kernel_rfl⟩
instance in17 : InfoA Try.prog 17 (Value.pointer none) 1 8 := ⟨by kernel_rfl⟩
instance ty18 : TyA Try.prog 18 true 1 := ⟨fun _ => by kernel_rfl, fun _ => by kernel_rfl⟩
instance bu18 : BuildA Try.prog 18 [(0, 1)] := ⟨by kernel_rfl, by kernel_rfl⟩
instance fi18_0 : FieldA Try.prog 18 0 0 := ⟨fun _ _ _ => by kernel_rfl⟩
instance ze18 : ZeroA Try.prog 18 (Value.agg #[Value.pointer none]) := ⟨fun _ => by kernel_rfl⟩
instance in18 : InfoA Try.prog 18 (Value.agg #[Value.pointer none]) 1 8 := ⟨by kernel_rfl⟩
instance ty19 : TyA Try.prog 19 true 1 := ⟨fun _ => by kernel_rfl, fun _ => by kernel_rfl⟩
instance bu19 : BuildA Try.prog 19 [(0, 1)] := ⟨by kernel_rfl, by kernel_rfl⟩
instance fi19_0 : FieldA Try.prog 19 0 0 := ⟨fun _ _ _ => by kernel_rfl⟩
instance ze19 : ZeroA Try.prog 19 (Value.agg #[Value.pointer none]) := ⟨fun _ => by kernel_rfl⟩
instance in19 : InfoA Try.prog 19 (Value.agg #[Value.pointer none]) 1 8 := ⟨by kernel_rfl⟩
instance ty21 : TyA Try.prog 21 false 1 := ⟨fun _ => by kernel_rfl, fun _ => by kernel_rfl⟩
instance un21 : Und Try.prog 21 (.int .i32) := ⟨Try.underlying21⟩
instance ze21 : ZeroA Try.prog 21 (Value.int .i32 0) := ⟨fun _ => by kernel_rfl⟩
instance in21 : InfoA Try.prog 21 (Value.int .i32 0) 1 4 := ⟨by kernel_rfl⟩
instance ty22 : TyA Try.prog 22 false 1 := ⟨fun _ => by kernel_rfl, fun _ => by kernel_rfl⟩
instance un22 : Und Try.prog 22 (.int .u64) := ⟨Try.underlying22⟩
instance ze22 : ZeroA Try.prog 22 (Value.int .u64 0) := ⟨fun _ => by kernel_rfl⟩
instance in22 : InfoA Try.prog 22 (Value.int .u64 0) 1 8 := ⟨by kernel_rfl⟩
instance ty23 : TyA Try.prog 23 true 6 := ⟨fun _ => by kernel_rfl, fun _ => by kernel_rfl⟩
instance bu23 : BuildA Try.prog 23 [(0, 1), (1, 1), (2, 1), (3, 1), (4, 1), (5, 1)] := ⟨by kernel_rfl, by kernel_rfl⟩
instance eq23 : EqA Try.prog 23 6 := ⟨by kernel_rfl, by kernel_rfl, by kernel_rfl, by kernel_rfl, by kernel_rfl⟩
instance fi23_0 : FieldA Try.prog 23 0 0 := ⟨fun _ _ _ => by kernel_rfl⟩
instance fi23_1 : FieldA Try.prog 23 1 1 := ⟨fun _ _ _ => by kernel_rfl⟩
instance fi23_2 : FieldA Try.prog 23 2 2 := ⟨fun _ _ _ => by kernel_rfl⟩
instance fi23_3 : FieldA Try.prog 23 3 3 := ⟨fun _ _ _ => by kernel_rfl⟩
instance fi23_4 : FieldA Try.prog 23 4 4 := ⟨fun _ _ _ => by kernel_rfl⟩
instance fi23_5 : FieldA Try.prog 23 5 5 := ⟨fun _ _ _ => by kernel_rfl⟩
instance ze23 : ZeroA Try.prog 23 (Value.agg #[Value.int .i64 0, Value.int .u64 0, Value.int .u64 0, Value.int .u64 0, Value.int .u64 0, Value.int .u64 0]) := ⟨fun _ => by kernel_rfl⟩
instance in23 : InfoA Try.prog 23 (Value.agg #[Value.int .i64 0, Value.int .u64 0, Value.int .u64 0, Value.int .u64 0, Value.int .u64 0, Value.int .u64 0]) 6 48 := ⟨by kernel_rfl⟩
instance ty24 : TyA Try.prog 24 true 6 := ⟨fun _ => by kernel_rfl, fun _ => by kernel_rfl⟩
instance bu24 : BuildA Try.prog 24 [(0, 1), (1, 1), (2, 1), (3, 1), (4, 1), (5, 1)] := ⟨by kernel_rfl, by kernel_rfl⟩
instance eq24 : EqA Try.prog 24 6 := ⟨by kernel_rfl, by kernel_rfl, by kernel_rfl, by kernel_rfl, by kernel_rfl⟩
instance fi24_0 : FieldA Try.prog 24 0 0 := ⟨fun _ _ _ => by kernel_rfl⟩
instance fi24_1 : FieldA Try.prog 24 1 1 := ⟨fun _ _ _ => by kernel_rfl⟩
instance fi24_2 : FieldA Try.prog 24 2 2 := ⟨fun _ _ _ => by kernel_rfl⟩
instance fi24_3 : FieldA Try.prog 24 3 3 := ⟨fun _ _ _ => by kernel_rfl⟩
instance fi24_4 : FieldA Try.prog 24 4 4 := ⟨fun _ _ _ => by kernel_rfl⟩
instance fi24_5 : FieldA Try.prog 24 5 5 := ⟨fun _ _ _ => by kernel_rfl⟩
instance ze24 : ZeroA Try.prog 24 (Value.agg #[Value.int .i64 0, Value.int .u64 0, Value.int .u64 0, Value.int .u64 0, Value.int .u64 0, Value.int .u64 0]) := ⟨fun _ => by kernel_rfl⟩
instance in24 : InfoA Try.prog 24 (Value.agg #[Value.int .i64 0, Value.int .u64 0, Value.int .u64 0, Value.int .u64 0, Value.int .u64 0, Value.int .u64 0]) 6 48 := ⟨by kernel_rfl⟩
instance ty25 : TyA Try.prog 25 false 1 := ⟨fun _ => by kernel_rfl, fun _ => by kernel_rfl⟩
instance un25 : Und Try.prog 25 (.slice 5) := ⟨Try.underlying25⟩
instance ze25 : ZeroA Try.prog 25 (Value.slice none 0 0) := ⟨fun _ => by kernel_rfl⟩
instance in25 : InfoA Try.prog 25 (Value.slice none 0 0) 1 24 := ⟨by kernel_rfl⟩
instance ty27 : TyA Try.prog 27 false 1 := ⟨fun _ => by kernel_rfl, fun _ => by kernel_rfl⟩
instance un27 : Und Try.prog 27 (.int .i64) := ⟨Try.underlying27⟩
instance ze27 : ZeroA Try.prog 27 (Value.int .i64 0) := ⟨fun _ => by kernel_rfl⟩
instance in27 : InfoA Try.prog 27 (Value.int .i64 0) 1 8 := ⟨by kernel_rfl⟩
instance ty40 : TyA Try.prog 40 false 1 := ⟨fun _ => by kernel_rfl, fun _ => by kernel_rfl⟩
instance un40 : Und Try.prog 40 (.slice 43) := ⟨Try.underlying40⟩
instance ze40 : ZeroA Try.prog 40 (Value.slice none 0 0) := ⟨fun _ => by kernel_rfl⟩
instance in40 : InfoA Try.prog 40 (Value.slice none 0 0) 1 24 := ⟨by kernel_rfl⟩
instance ty42 : TyA Try.prog 42 false 1 := ⟨fun _ => by kernel_rfl, fun _ => by kernel_rfl⟩
instance un42 : Und Try.prog 42 (.pointer 24) := ⟨Try.underlying42⟩
instance ze42 : ZeroA Try.prog 42 (Value.pointer none) := ⟨fun _ => by kernel_rfl⟩
instance in42 : InfoA Try.prog 42 (Value.pointer none) 1 8 := ⟨by kernel_rfl⟩
instance ty43 : TyA Try.prog 43 false 1 := ⟨fun _ => by kernel_rfl, fun _ => by kernel_rfl⟩
instance un43 : Und Try.prog 43 (.pointer 22) := ⟨Try.underlying43⟩
instance ze43 : ZeroA Try.prog 43 (Value.pointer none) := ⟨fun _ => by kernel_rfl⟩
instance in43 : InfoA Try.prog 43 (Value.pointer none) 1 8 := ⟨by kernel_rfl⟩
instance ty50 : TyA Try.prog 50 false 1 := ⟨fun _ => by kernel_rfl, fun _ => by kernel_rfl⟩
instance un50 : Und Try.prog 50 (.int .u64) := ⟨Try.underlying50⟩
instance ze50 : ZeroA Try.prog 50 (Value.int .u64 0) := ⟨fun _ => by kernel_rfl⟩
instance in50 : InfoA Try.prog 50 (Value.int .u64 0) 1 8 := ⟨by kernel_rfl⟩
instance ty55 : TyA Try.prog 55 true 4 := ⟨fun _ => by kernel_rfl, fun _ => by kernel_rfl⟩
instance bu55 : BuildA Try.prog 55 [(0, 1), (1, 1), (2, 1), (3, 1)] := ⟨by kernel_rfl, by kernel_rfl⟩
instance fi55_0 : FieldA Try.prog 55 0 0 := ⟨fun _ _ _ => by kernel_rfl⟩
instance fi55_1 : FieldA Try.prog 55 1 1 := ⟨fun _ _ _ => by kernel_rfl⟩
instance fi55_2 : FieldA Try.prog 55 2 2 := ⟨fun _ _ _ => by kernel_rfl⟩
instance fi55_3 : FieldA Try.prog 55 3 3 := ⟨fun _ _ _ => by kernel_rfl⟩
instance ze55 : ZeroA Try.prog 55 (Value.agg #[Value.pointer none, Value.pointer none, Value.pointer none, Value.string ⟨#[]⟩]) := ⟨fun _ => by kernel_rfl⟩
instance in55 : InfoA Try.prog 55 (Value.agg #[Value.pointer none, Value.pointer none, Value.pointer none, Value.string ⟨#[]⟩]) 4 40 := ⟨by kernel_rfl⟩
instance ty56 : TyA Try.prog 56 true 4 := ⟨fun _ => by kernel_rfl, fun _ => by kernel_rfl⟩
instance bu56 : BuildA Try.prog 56 [(0, 1), (1, 1), (2, 1), (3, 1)] := ⟨by kernel_rfl, by kernel_rfl⟩
instance fi56_0 : FieldA Try.prog 56 0 0 := ⟨fun _ _ _ => by kernel_rfl⟩
instance fi56_1 : FieldA Try.prog 56 1 1 := ⟨fun _ _ _ => by kernel_rfl⟩
instance fi56_2 : FieldA Try.prog 56 2 2 := ⟨fun _ _ _ => by kernel_rfl⟩
instance fi56_3 : FieldA Try.prog 56 3 3 := ⟨fun _ _ _ => by kernel_rfl⟩
instance ze56 : ZeroA Try.prog 56 (Value.agg #[Value.pointer none, Value.pointer none, Value.pointer none, Value.string ⟨#[]⟩]) := ⟨fun _ => by kernel_rfl⟩
instance in56 : InfoA Try.prog 56 (Value.agg #[Value.pointer none, Value.pointer none, Value.pointer none, Value.string ⟨#[]⟩]) 4 40 := ⟨by kernel_rfl⟩
instance ty61 : TyA Try.prog 61 false 1 := ⟨fun _ => by kernel_rfl, fun _ => by kernel_rfl⟩
instance un61 : Und Try.prog 61 (.int .u32) := ⟨Try.underlying61⟩
instance ze61 : ZeroA Try.prog 61 (Value.int .u32 0) := ⟨fun _ => by kernel_rfl⟩
instance in61 : InfoA Try.prog 61 (Value.int .u32 0) 1 4 := ⟨by kernel_rfl⟩
instance ty62 : TyA Try.prog 62 false 1 := ⟨fun _ => by kernel_rfl, fun _ => by kernel_rfl⟩
instance un62 : Und Try.prog 62 (.int .u8) := ⟨Try.underlying62⟩
instance ze62 : ZeroA Try.prog 62 (Value.int .u8 0) := ⟨fun _ => by kernel_rfl⟩
instance in62 : InfoA Try.prog 62 (Value.int .u8 0) 1 1 := ⟨by kernel_rfl⟩
instance ty63 : TyA Try.prog 63 false 1 := ⟨fun _ => by kernel_rfl, fun _ => by kernel_rfl⟩
instance un63 : Und Try.prog 63 (.int .u8) := ⟨Try.underlying63⟩
instance ze63 : ZeroA Try.prog 63 (Value.int .u8 0) := ⟨fun _ => by kernel_rfl⟩
instance in63 : InfoA Try.prog 63 (Value.int .u8 0) 1 1 := ⟨by kernel_rfl⟩
instance ty65 : TyA Try.prog 65 false 1 := ⟨fun _ => by kernel_rfl, fun _ => by kernel_rfl⟩
instance un65 : Und Try.prog 65 (.pointer 5) := ⟨Try.underlying65⟩
instance ze65 : ZeroA Try.prog 65 (Value.pointer none) := ⟨fun _ => by kernel_rfl⟩
instance in65 : InfoA Try.prog 65 (Value.pointer none) 1 8 := ⟨by kernel_rfl⟩
instance ty66 : TyA Try.prog 66 false 1 := ⟨fun _ => by kernel_rfl, fun _ => by kernel_rfl⟩
instance un66 : Und Try.prog 66 (.int .i32) := ⟨Try.underlying66⟩
instance ze66 : ZeroA Try.prog 66 (Value.int .i32 0) := ⟨fun _ => by kernel_rfl⟩
instance in66 : InfoA Try.prog 66 (Value.int .i32 0) 1 4 := ⟨by kernel_rfl⟩
instance ty67 : TyA Try.prog 67 false 1 := ⟨fun _ => by kernel_rfl, fun _ => by kernel_rfl⟩
instance un67 : Und Try.prog 67 (.int .i32) := ⟨Try.underlying67⟩
instance ze67 : ZeroA Try.prog 67 (Value.int .i32 0) := ⟨fun _ => by kernel_rfl⟩
instance in67 : InfoA Try.prog 67 (Value.int .i32 0) 1 4 := ⟨by kernel_rfl⟩
instance ty68 : TyA Try.prog 68 true 11 := ⟨fun _ => by kernel_rfl, fun _ => by kernel_rfl⟩
instance fi68_0 : FieldA Try.prog 68 0 0 := ⟨fun _ _ _ => by kernel_rfl⟩
instance fi68_1 : FieldA Try.prog 68 1 1 := ⟨fun _ _ _ => by kernel_rfl⟩
instance fi68_2 : FieldA Try.prog 68 2 2 := ⟨fun _ _ _ => by kernel_rfl⟩
instance fi68_3 : FieldA Try.prog 68 3 3 := ⟨fun _ _ _ => by kernel_rfl⟩
instance fi68_4 : FieldA Try.prog 68 4 4 := ⟨fun _ _ _ => by kernel_rfl⟩
instance fi68_5 : FieldA Try.prog 68 5 5 := ⟨fun _ _ _ => by kernel_rfl⟩
instance fi68_6 : FieldA Try.prog 68 6 6 := ⟨fun _ _ _ => by kernel_rfl⟩
instance fi68_7 : FieldA Try.prog 68 7 7 := ⟨fun _ _ _ => by kernel_rfl⟩
instance fi68_8 : FieldA Try.prog 68 8 8 := ⟨fun _ _ _ => by kernel_rfl⟩
instance fi68_9 : FieldA Try.prog 68 9 9 := ⟨fun _ _ _ => by kernel_rfl⟩
instance fi68_10 : FieldA Try.prog 68 10 10 := ⟨fun _ _ _ => by kernel_rfl⟩
instance ze68 : ZeroA Try.prog 68 (Value.agg #[Value.int .u64 0, Value.int .u64 0, Value.int .u32 0, Value.int .u8 0, Value.int .u8 0, Value.int .u8 0, Value.int .u8 0, Value.nilFunc, Value.pointer none, Value.int .i32 0, Value.int .i32 0]) := ⟨fun _ => by kernel_rfl⟩
instance in68 : InfoA Try.prog 68 (Value.agg #[Value.int .u64 0, Value.int .u64 0, Value.int .u32 0, Value.int .u8 0, Value.int .u8 0, Value.int .u8 0, Value.int .u8 0, Value.nilFunc, Value.pointer none, Value.int .i32 0, Value.int .i32 0]) 11 48 := ⟨by kernel_rfl⟩
instance ty69 : TyA Try.prog 69 true 11 := ⟨fun _ => by kernel_rfl, fun _ => by kernel_rfl⟩
instance fi69_0 : FieldA Try.prog 69 0 0 := ⟨fun _ _ _ => by kernel_rfl⟩
instance fi69_1 : FieldA Try.prog 69 1 1 := ⟨fun _ _ _ => by kernel_rfl⟩
instance fi69_2 : FieldA Try.prog 69 2 2 := ⟨fun _ _ _ => by kernel_rfl⟩
instance fi69_3 : FieldA Try.prog 69 3 3 := ⟨fun _ _ _ => by kernel_rfl⟩
instance fi69_4 : FieldA Try.prog 69 4 4 := ⟨fun _ _ _ => by kernel_rfl⟩
instance fi69_5 : FieldA Try.prog 69 5 5 := ⟨fun _ _ _ => by kernel_rfl⟩
instance fi69_6 : FieldA Try.prog 69 6 6 := ⟨fun _ _ _ => by kernel_rfl⟩
instance fi69_7 : FieldA Try.prog 69 7 7 := ⟨fun _ _ _ => by kernel_rfl⟩
instance fi69_8 : FieldA Try.prog 69 8 8 := ⟨fun _ _ _ => by kernel_rfl⟩
instance fi69_9 : FieldA Try.prog 69 9 9 := ⟨fun _ _ _ => by kernel_rfl⟩
instance fi69_10 : FieldA Try.prog 69 10 10 := ⟨fun _ _ _ => by kernel_rfl⟩
instance ze69 : ZeroA Try.prog 69 (Value.agg #[Value.int .u64 0, Value.int .u64 0, Value.int .u32 0, Value.int .u8 0, Value.int .u8 0, Value.int .u8 0, Value.int .u8 0, Value.nilFunc, Value.pointer none, Value.int .i32 0, Value.int .i32 0]) := ⟨fun _ => by kernel_rfl⟩
instance in69 : InfoA Try.prog 69 (Value.agg #[Value.int .u64 0, Value.int .u64 0, Value.int .u32 0, Value.int .u8 0, Value.int .u8 0, Value.int .u8 0, Value.int .u8 0, Value.nilFunc, Value.pointer none, Value.int .i32 0, Value.int .i32 0]) 11 48 := ⟨by kernel_rfl⟩
instance hf3 : HasFn Try.prog 3 := ⟨fun _ _ => by kernel_rfl⟩
instance hf4 : HasFn Try.prog 4 := ⟨fun _ _ => by kernel_rfl⟩
instance hf5 : HasFn Try.prog 5 := ⟨fun _ _ => by kernel_rfl⟩
instance hf6 : HasFn Try.prog 6 := ⟨fun _ _ => by kernel_rfl⟩
instance hf7 : HasFn Try.prog 7 := ⟨fun _ _ => by kernel_rfl⟩
instance hf8 : HasFn Try.prog 8 := ⟨fun _ _ => by kernel_rfl⟩
instance hf9 : HasFn Try.prog 9 := ⟨fun _ _ => by kernel_rfl⟩
instance hf10 : HasFn Try.prog 10 := ⟨fun _ _ => by kernel_rfl⟩
instance hf11 : HasFn Try.prog 11 := ⟨fun _ _ => by kernel_rfl⟩
instance hf12 : HasFn Try.prog 12 := ⟨fun _ _ => by kernel_rfl⟩
instance hf13 : HasFn Try.prog 13 := ⟨fun _ _ => by kernel_rfl⟩
instance hf14 : HasFn Try.prog 14 := ⟨fun _ _ => by kernel_rfl⟩
instance hf15 : HasFn Try.prog 15 := ⟨fun _ _ => by kernel_rfl⟩
instance hf16 : HasFn Try.prog 16 := ⟨fun _ _ => by kernel_rfl⟩
instance hf17 : HasFn Try.prog 17 := ⟨fun _ _ => by kernel_rfl⟩
instance hf18 : HasFn Try.prog 18 := ⟨fun _ _ => by kernel_rfl⟩
instance hf19 : HasFn Try.prog 19 := ⟨fun _ _ => by kernel_rfl⟩
instance hf20 : HasFn Try.prog 20 := ⟨fun _ _ => by kernel_rfl⟩
instance hf21 : HasFn Try.prog 21 := ⟨fun _ _ => by kernel_rfl⟩
instance hf22 : HasFn Try.prog 22 := ⟨fun _ _ => by kernel_rfl⟩
instance hf24 : HasFn Try.prog 24 := ⟨fun _ _ => by kernel_rfl⟩
instance hf25 : HasFn Try.prog 25 := ⟨fun _ _ => by kernel_rfl⟩
instance hf26 : HasFn Try.prog 26 := ⟨fun _ _ => by kernel_rfl⟩

end Go.Proofs.Ytjokcnajopfjhaa
